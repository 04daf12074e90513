/- strings.IndexAny at the set " {": what it answers for any bytes. No condition. -/
import Derived.Test.YtmnhgeggojgflaaGreatDoorMtD
import Derived.Laws.RangeAny
import Derived.Laws.Runes
import Derived.Scope
import Derived.Lib.OthersKept
import Derived.Shelf.Strings.IndexAnyAll
set_option linter.unusedVariables false
set_option linter.unusedSimpArgs false
namespace Go
/-- The bytes behind the first of a rune are no ASCII. -/
theorem decode_cont (s : ByteArray) (pos : Nat) : ∀ j, 1 ≤ j → j < (Utf8.decode s pos).2 → pos + j < s.size ∧ 128 ≤ (s.get! (pos + j)).toNat := by
  intro j h1 h2
  simp only [Utf8.decode] at h2
  repeat' split at h2
  all_goals simp_all
  all_goals first
    | omega
    | (have hj : j = 1 ∨ j = 2 ∨ j = 3 := by omega
       rcases hj with rfl | rfl | rfl <;> first | omega | (refine ⟨by omega, by omega⟩))
end Go
namespace Go.Proofs.YtmnhgeggojgflaaGreatDoor
open Go.RowKit
open Mt
attribute [local go_sem] Oper.semAt_some
theorem keep_iter {w : World} (s : ByteArray) (p : Nat) : Keep NoF w (w.iter s p) := ⟨rfl, rfl, rfl, by simp [World.iter], fun k hk _ => Below.heap_alloc w _ k hk⟩
section
set_option maxRecDepth 100000
set_option maxHeartbeats 1000000
theorem idxrune_sp (r : Int) (h128 : 128 ≤ r) (w : World) : Calls Tryz.prog 99 #[.string ⟨#[32, 123]⟩, .int .i32 r] w fun e w' => e = .returned (.int .i64 (-1)) ∧ Keep NoF w w' := by
  have h0 : (0 : Int) ≤ r := by omega
  have h1 : ¬ r < 128 := by omega
  by_cases he : r = 65533
  · subst he
    go_enter Tryz.func99, Tryz.ntmps99
    go_wp2
    go_loopg [5, 6] 2 (fun g _ _ wx => ∃ i : Nat, i + g = 2 ∧ wx = w.iter ⟨#[32, 123]⟩ i)
    case atStart => exact ⟨0, by omega, rfl⟩
    case round =>
      obtain ⟨i, hig, rfl⟩ := hrel
      cases gk with
      | zero =>
        obtain rfl : i = 2 := by omega
        have hnx := run_next_end (P := Tryz.prog) w ⟨#[32, 123]⟩ 2
        go_wp2
        go_ret
        exact ⟨rfl, keep_iter _ _⟩
      | succ g =>
        have hi : i = 0 ∨ i = 1 := by omega
        rcases hi with rfl | rfl
        · have hnx : ∀ ty, (Instr.next (.pointer (some ⟨w.heap.size, 0, none⟩)) true ty).run Tryz.prog (w.iter ⟨#[32, 123]⟩ 0) = .ok (.tuple #[.bool true, .int .i64 0, .int .i32 32]) (w.iter ⟨#[32, 123]⟩ 1) := fun ty => run_next_ascii (P := Tryz.prog) w ⟨#[32, 123]⟩ 0 ty (by decide) (by decide)
          go_wp2
          go_roundg g
          case measure => omega
          case rel => exact ⟨1, by omega, rfl⟩
        · have hnx : ∀ ty, (Instr.next (.pointer (some ⟨w.heap.size, 0, none⟩)) true ty).run Tryz.prog (w.iter ⟨#[32, 123]⟩ 1) = .ok (.tuple #[.bool true, .int .i64 1, .int .i32 123]) (w.iter ⟨#[32, 123]⟩ 2) := fun ty => run_next_ascii (P := Tryz.prog) w ⟨#[32, 123]⟩ 1 ty (by decide) (by decide)
          go_wp2
          go_roundg g
          case measure => omega
          case rel => exact ⟨2, by omega, rfl⟩
  · have hne : (r == 65533) = false := by simpa using he
    cases hv : Lib.validRune r with
    | false =>
      have HV : Hid (Calls Tryz.prog 127 #[.int .i32 r] w fun e w' => e = .returned (.bool false) ∧ w' = w) := Lib.hid (by have := Tryz.utf8_ValidRune r w; rwa [hv] at this)
      clear hv
      go_enter Tryz.func99, Tryz.ntmps99
      go_wp2_with (go_at_call 127; (with_reducible refine HV.out.mono ?_); rintro e w' ⟨rfl, hw'⟩; obtain rfl := hw'.symm)
      go_ret
      exact ⟨rfl, Keep.refl _ _⟩
    | true =>
      have HV : Hid (Calls Tryz.prog 127 #[.int .i32 r] w fun e w' => e = .returned (.bool true) ∧ w' = w) := Lib.hid (by have := Tryz.utf8_ValidRune r w; rwa [hv] at this)
      have hvv : Utf8.valid r = true := by
        unfold Lib.validRune at hv
        have := of_decide_eq_true hv
        unfold Utf8.valid
        simp only [Bool.or_eq_true, Bool.and_eq_true, decide_eq_true_eq]
        omega
      obtain ⟨e2, e4, el⟩ := encode_facts r hvv h128
      clear hv hvv
      go_enter Tryz.func99, Tryz.ntmps99
      go_wp2_with (go_at_call 127; (with_reducible refine HV.out.mono ?_); rintro e w' ⟨rfl, hw'⟩; obtain rfl := hw'.symm)
      have hcv : (convert 21 9 (.int .i32 r)).run Tryz.prog w = .ok (.string (Utf8.encode r)) w := run_convert_int_string w 21 9 .i32 r (by rw [Tryz.underlying21]; rfl) Tryz.underlying9
      generalize Utf8.encode r = rs at *
      have e1 : ((rs.size : Int) - 1) = ((rs.size - 1 : Nat) : Int) := by omega
      obtain ⟨m, hm⟩ : ∃ m, rs.size - 1 = m := ⟨_, rfl⟩
      rw [hm] at e1
      have hm1 : 1 ≤ m := by omega
      have hm3 : m ≤ 3 := by omega
      have hms : m < rs.size := by omega
      have hel : 128 ≤ (rs[m]'hms).toNat := by
        subst hm
        exact el hms
      clear el
      refine wp_scope_straight ?_
      go_wp2
      go_loopw [9, 10, 11, 12] (fun t9 _ _ _ wr => t9 = .int .i64 (m : Int) ∧ wr = w) (fun _ _ _ _ _ => 0)
      case atStart => exact ⟨rfl, rfl⟩
      case round =>
        obtain ⟨rfl, hw⟩ := hrel
        obtain rfl := hw.symm
        by_cases hm2 : 2 ≤ (m : Int)
        · go_wp2
          go_ret
          exact ⟨rfl, Keep.refl _ _⟩
        · obtain rfl : m = 1 := by omega
          have hlt : ((1 : Nat) : Int) < 2 := by decide
          have hrs : rs.size = 2 := by omega
          have hbn0 : ((123 : Int) != (rs[1].toNat : Int)) = true := by simp; omega
          have hbne : (((((⟨#[32, 123]⟩ : ByteArray)[1]'(by decide)).toNat : Nat) : Int) != (rs[1].toNat : Int)) = true := hbn0
          clear hbn0
          have hIB : Hid (∀ (c : Int) (W : World), Calls Tryz.prog 67 #[.string ByteArray.empty, .int .u8 c] W fun e w' => e = .returned (.int .i64 (-1)) ∧ w' = W) := Lib.hid fun c W => Tryz.strings_IndexByte ByteArray.empty c W
          go_wp2
          refine wp_scope_straight ?_
          go_upto_region 6 with (fail)
          go_quiet (fail)
          go_upto_region 7 with (fail)
          have hw2 : IntKind.i64.wrap 2 = 2 := rfl
          go_region_held3 (fun _ => True) (exact trivial)
            (first
              | (go_at_call 67
                 (with_reducible refine (hIB.out _ _).mono ?_)
                 rintro e w6 ⟨rfl, hw6⟩
                 obtain rfl := hw6.symm))
          all_goals go_wp2
          all_goals
            refine (show Exit.inBlock 2 _ Exit.ret _ _ from ?_)
            go_wp2
            refine (show Exit.inBlock 0 _ Exit.ret _ _ from ?_)
            go_wp2
            go_ret
            exact ⟨rfl, Keep.drewN (Keep.refl _ _) _⟩
theorem keep_iterAt {w w1 : World} (h : Keep NoF w w1) {k : Nat} (hk : w.heap.size ≤ k) (s : ByteArray) (p : Nat) : Keep NoF w (w1.iterAt k s p) :=
  ⟨h.os, h.tape, h.output, by rw [Lib.iterAt_size]; exact h.size, fun i hi hf => (Lib.iterAt_other w1 k i s p (by omega)).trans (h.block i hi hf)⟩
theorem noAny_step {s : ByteArray} {i n : Nat} (h : Lib.NoAny s.data.toList [32, 123] i) (hb : ∀ j, j < n → i + j < s.size → ([32, 123] : List UInt8).contains (s.get! (i + j)) = false) : Lib.NoAny s.data.toList [32, 123] (i + n) := fun j b hj hjb => by
  by_cases hji : j < i
  · exact h j b hji hjb
  · have hlt : j < s.size := by rw [← data_len]; exact (List.getElem?_eq_some_iff.1 hjb).1
    have hg : s.get! j = b := by
      have h1 := get_at s j hlt
      rw [Nat.add_zero] at h1
      rw [h1]
      have h2 := Lib.data_getElem? s j hlt
      rw [h2] at hjb
      exact Option.some.inj hjb
    have := hb (j - i) (by omega) (by omega)
    rwa [show i + (j - i) = j by omega, hg] at this
theorem no_high {x : UInt8} (h : 128 ≤ x.toNat) : ([32, 123] : List UInt8).contains x = false := by
  rw [List.contains_eq_any_beq]
  simp only [List.any_cons, List.any_nil, Bool.or_false, Bool.or_eq_false_iff, beq_eq_false_iff_ne, ne_eq]
  refine ⟨?_, ?_⟩ <;>
    · rintro rfl
      revert h
      decide
theorem idxany_sp8 (s : ByteArray) (h8 : s.size ≤ 8) (w : World) : Calls Tryz.prog 66 #[.string s, .string ⟨#[32, 123]⟩] w fun e w' => e = .returned (.int .i64 (Lib.indexAny s.data.toList [32, 123])) ∧ Keep NoF w w' := by
  have h8z : decide ((8 : Int) < (s.size : Int)) = false := decide_eq_false (by omega)
  have HSH : Hid (Calls Tryz.prog 100 #[.int .i64 (s.size : Int)] w fun e w' => e = .returned (.bool false) ∧ w' = w) := Lib.hid (by have := Tryz.strings_shouldUseASCIISet (s.size : Int) w; rwa [h8z] at this)
  clear h8z
  go_enter Tryz.func66, Tryz.ntmps66
  go_wp2_with (go_at_call 100; (with_reducible refine HSH.out.mono ?_); rintro e w' ⟨rfl, hw'⟩; obtain rfl := hw'.symm)
  go_loopg [9, 10] s.size (fun g _ _ wx => ∃ i : Nat, i + g = s.size ∧ wx.heap[w.heap.size]? = some (.stringIter s i) ∧ Keep NoF w wx ∧ Hid (Lib.NoAny s.data.toList [32, 123] i))
  case atStart => exact ⟨0, by omega, World.iter_heap _ _ _, keep_iter _ _, Lib.hid (Lib.NoAny.zero _ _)⟩
  case round =>
    obtain ⟨i, hig, hk, hkp, HN⟩ := hrel
    cases gk with
    | zero =>
      obtain rfl : i = s.size := by omega
      have hnx := Lib.run_next_end_at (P := Tryz.prog) wr w.heap.size s s.size
      have hnx2 := fun ty => hnx ty hk (by omega)
      clear hnx
      go_wp2
      go_ret
      exact ⟨by rw [Lib.indexAny_none (by rw [← Lib.size_eq]; exact HN.out)] <;> rfl, hkp⟩
    | succ g =>
      have hi : i < s.size := by omega
      by_cases hx128 : (s[i]'hi).toNat < 128
      · have hnx : ∀ ty, (Instr.next (.pointer (some ⟨w.heap.size, 0, none⟩)) true ty).run Tryz.prog wr = .ok (.tuple #[.bool true, .int .i64 (i : Int), .int .i32 ((s[i]'hi).toNat : Int)]) (wr.iterAt w.heap.size s (i + 1)) := fun ty => Lib.run_next_ascii_at (P := Tryz.prog) wr w.heap.size s i ty hk hi hx128
        have hk2 := Lib.iterAt_heap wr w.heap.size s i (i + 1) hk
        have hkp2 := keep_iterAt hkp (Nat.le_refl _) s (i + 1)
        have Hx := Lib.hid (Lib.data_getElem? s i hi)
        have HI : Hid (∀ W, Calls Tryz.prog 99 #[.string ⟨#[32, 123]⟩, .int .i32 ((s[i]'hi).toNat : Int)] W fun e w' => e = .returned (.int .i64 (Lib.indexByte [32, 123] (s[i]'hi))) ∧ w' = W) := Lib.hid fun W => by
          have := Tryz.strings_IndexRune_ascii ⟨#[32, 123]⟩ ((s[i]'hi).toNat : Int) W (by omega) (by omega)
          rw [show (((s[i]'hi).toNat : Int)).toNat.toUInt8 = s[i]'hi by simp] at this
          exact this
        have hcon := Lib.contains_iff_indexByte [32, 123] (s[i]'hi)
        generalize wr.iterAt w.heap.size s (i + 1) = w2 at *
        generalize hxx : s[i]'hi = x at *
        cases hin : ([32, 123] : List UInt8).contains x with
        | false =>
          rw [hin] at hcon
          have hlt : ¬ ((0 : Int) ≤ Lib.indexByte [32, 123] x) := of_decide_eq_false hcon.symm
          clear hcon
          have HN2 := Lib.hid (HN.out.succ Hx.out hin)
          clear hin hxx
          generalize Lib.indexByte [32, 123] x = q at *
          go_wp2_with (go_at_call 99; (with_reducible refine (HI.out _).mono ?_); rintro e w' ⟨rfl, hw⟩; obtain rfl := hw.symm)
          go_roundg g
          case measure => omega
          case rel => exact ⟨i + 1, by omega, hk2, hkp2, HN2⟩
        | true =>
          rw [hin] at hcon
          have hge : (0 : Int) ≤ Lib.indexByte [32, 123] x := of_decide_eq_true hcon.symm
          clear hcon
          have HR := Lib.hid (Lib.indexAny_hit HN.out Hx.out hin)
          clear hin hxx
          generalize Lib.indexByte [32, 123] x = q at *
          go_wp2_with (go_at_call 99; (with_reducible refine (HI.out _).mono ?_); rintro e w' ⟨rfl, hw⟩; obtain rfl := hw.symm)
          go_ret
          exact ⟨by rw [HR.out] <;> rfl, hkp2⟩
      · obtain ⟨d1, d2⟩ := decode_high s i hi (by omega)
        have hcont := decode_cont s i
        have hnx : ∀ ty, (Instr.next (.pointer (some ⟨w.heap.size, 0, none⟩)) true ty).run Tryz.prog wr = .ok (.tuple #[.bool true, .int .i64 (i : Int), .int .i32 ((Utf8.decode s i).1 : Int)]) (wr.iterAt w.heap.size s (i + (Utf8.decode s i).2)) := fun ty => Lib.run_next_any_at (P := Tryz.prog) wr w.heap.size s i ty hk hi
        have hk2 := Lib.iterAt_heap wr w.heap.size s i (i + (Utf8.decode s i).2) hk
        have hkp2 := keep_iterAt hkp (Nat.le_refl _) s (i + (Utf8.decode s i).2)
        have hle : i + (Utf8.decode s i).2 ≤ s.size := by
          by_cases h1 : (Utf8.decode s i).2 = 1
          · omega
          · have := (hcont ((Utf8.decode s i).2 - 1) (by omega) (by omega)).1
            omega
        have HN2 : Hid (Lib.NoAny s.data.toList [32, 123] (i + (Utf8.decode s i).2)) := Lib.hid (noAny_step HN.out fun j hj hjs => by
          by_cases h0 : j = 0
          · subst h0
            exact no_high (by rw [get_at s i hi]; omega)
          · exact no_high (hcont j (by omega) hj).2)
        have HI : Hid (∀ W, Calls Tryz.prog 99 #[.string ⟨#[32, 123]⟩, .int .i32 ((Utf8.decode s i).1 : Int)] W fun e w' => e = .returned (.int .i64 (-1)) ∧ Keep NoF W w') := Lib.hid fun W => idxrune_sp _ (by omega) W
        clear hcont hx128
        generalize (Utf8.decode s i).1 = r at *
        generalize (Utf8.decode s i).2 = n at *
        generalize wr.iterAt w.heap.size s (i + n) = w2 at *
        go_wp2_with (go_at_call 99; (with_reducible refine (HI.out _).mono ?_); rintro e w' ⟨rfl, hk3⟩)
        go_roundg (s.size - (i + n))
        case measure => omega
        case rel => exact ⟨i + n, by omega, (hk3.block w.heap.size (Array.getElem?_eq_some_iff.1 hk2).1 fun h => h).trans hk2, hkp2.trans hk3 fun _ _ h => h, HN2⟩
theorem idxany_sp (s : ByteArray) (hs : s.size < 4294967281) (w : World) : Calls Tryz.prog 66 #[.string s, .string ⟨#[32, 123]⟩] w fun e w' => e = .returned (.int .i64 (Lib.indexAny s.data.toList [32, 123])) ∧ Keep NoF w w' := by
  by_cases h8 : s.size ≤ 8
  · exact idxany_sp8 s h8 w
  · have hz : (Tryz.prog.info? 87).map (fun i => (i.zero, i.size)) = some (some (.agg (Array.replicate 256 (.bool false))), 256) := by kernel_rfl
    refine (Tryz.strings_IndexAny_long (zero_of_info hz).1 s ⟨#[32, 123]⟩ w (by decide) (by omega) hs (by decide) fun j b hb => ?_).mono fun e w' ⟨he, hw⟩ => ⟨he, ?_⟩
    · match j, hb with
      | 0, hb => obtain rfl := Option.some.inj hb; decide
      | 1, hb => obtain rfl := Option.some.inj hb; decide
      | j + 2, hb => simp at hb
    · rw [hw]
      exact ((Keep.refl _ _).alloc _).alloc _
end
end Go.Proofs.YtmnhgeggojgflaaGreatDoor
