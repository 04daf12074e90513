/- Names and reserved words: what the reference's functions do. Lists of names joined to one: append of a whole slice; what the library's Concat does on short lists. A signature as an argument; what both functions Check do. Conditions: the variables lie as they are read. Whether a signature is valid: what both functions Check do. Conditions: the variables lie as they are read. Whether a signature is valid: what the reference's Check does. Where a name stands in a signature: what both find, Agent, Fact and Action do. Conditions: the variables lie as they are read. No condition. -/
import Derived.Test.YtmnhgeggojgflaaGreatDoorSgB
import Derived.Test.YtmnhgeggojgflaaGreatDoorApps
import Derived.Laws.OwnMore
set_option linter.unusedVariables false
set_option linter.unusedSimpArgs false
namespace Go.Proofs.YtmnhgeggojgflaaGreatDoor
open Go.RowKit

theorem idx_go {l : List ByteArray} {k : Nat} {x y : ByteArray} (hy : l[k]? = some y) (hb : ∀ j, j < k → l[j]? ≠ some x) : (y = x → Lib.idxOfS l x = k) ∧ (y ≠ x → ∀ j, j < k + 1 → l[j]? ≠ some x) := by
  constructor
  · rintro rfl
    rcases idx_cases l y with ⟨_, h⟩ | ⟨i, h1, _, h2, h3⟩
    · exact absurd (List.mem_of_getElem? hy) h
    · have h4 : ¬ i < k := fun h => hb i h h2
      have h5 : ¬ k < i := fun h => h3 k h hy
      rw [h1]
      congr 1
      omega
  · intro hne j hj
    by_cases h : j = k
    · subst h
      rw [hy]
      intro e
      exact hne (Option.some.inj e)
    · exact hb j (by omega)
theorem idx_end {l : List ByteArray} {x : ByteArray} (hb : ∀ j, j < l.length → l[j]? ≠ some x) : Lib.idxOfS l x = -1 := by
  refine idx_none fun h => ?_
  obtain ⟨i, hi⟩ := List.mem_iff_getElem?.1 h
  exact hb i (List.getElem?_eq_some_iff.1 hi).1 hi
section
set_option maxRecDepth 100000
set_option maxHeartbeats 1000000
theorem rfind_any (l : List ByteArray) (A : Option Addr) (c : Nat) (x : ByteArray) (w : World) (hl : l.length ≤ 9223372036854775807) (hrd : Rd w (.slice A l.length c) 1 l.length (strs l)) :
    Calls Tryz.prog 62 #[.slice A l.length c, .string x] w fun e w' => e = .returned (.int .i64 (Lib.idxOfS l x)) ∧ w' = w := by
  generalize hr : Lib.idxOfS l x = r
  have HR := Lib.hid hr
  clear hr
  go_enter Tryz.func62, Tryz.ntmps62
  go_wp2
  go_loopw [5] (fun i wr => ∃ k : Nat, i = .int .i64 k ∧ k ≤ l.length ∧ Hid (∀ j, j < k → l[j]? ≠ some x) ∧ wr = w) (fun i _ => l.length - (intOf i).toNat)
  case atStart => exact ⟨0, rfl, by omega, Lib.hid (fun j h => absurd h (by omega)), rfl⟩
  case round =>
    obtain ⟨k, rfl, hk, ho, hw⟩ := hrel
    obtain rfl := hw.symm; clear hw
    by_cases hlt : k < l.length
    · have hy : l[k]? = some l[k] := List.getElem?_eq_getElem hlt
      obtain ⟨-, hcc, bl, off, rfl, hc⟩ := hrd.str hy
      have h2 := idx_go hy ho.out
      clear hy
      generalize l[k] = y at *
      by_cases hyx : y = x
      · have HX : Hid (r = k) := Lib.hid (by rw [← HR.out]; exact h2.1 hyx)
        subst hyx
        clear h2 ho
        go_wp2
        go_ret
        exact ⟨by rw [HX.out] <;> rfl, rfl⟩
      · have HO := Lib.hid (h2.2 hyx)
        have hb := (Lib.bytes_beq_false_iff y x).2 hyx
        clear h2 ho hyx
        go_wp2
        go_roundw
        case rel => exact ⟨k + 1, by go_num, by omega, HO, by trivial⟩
        case measure => simp only [intOf]; omega
    · obtain rfl : k = l.length := by omega
      have HX : Hid (r = -1) := Lib.hid (by rw [← HR.out]; exact idx_end ho.out)
      clear ho
      go_wp2
      go_ret
      exact ⟨by rw [HX.out] <;> rfl, rfl⟩
theorem all_step {t : ByteArray} {k : Nat} {b : UInt8} (hd : t.data.toList.drop k = b :: t.data.toList.drop (k + 1)) : (t.data.toList.drop k).all isNC = (isNC b && (t.data.toList.drop (k + 1)).all isNC) := by rw [hd]; rfl
theorem nc_no {b : UInt8} (h : ¬ ((97 ≤ b.toNat ∧ b.toNat ≤ 122) ∨ (48 ≤ b.toNat ∧ b.toNat ≤ 57) ∨ b.toNat = 95)) : isNC b = false := decide_eq_false h
theorem nc_yes {b : UInt8} (h : (97 ≤ b.toNat ∧ b.toNat ≤ 122) ∨ (48 ≤ b.toNat ∧ b.toNat ≤ 57) ∨ b.toNat = 95) : isNC b = true := decide_eq_true h
theorem rIsName_any (t : ByteArray) (w : World) (ht : t.size ≤ 9223372036854775807) :
    Calls Tryz.prog 60 #[.string t] w fun e w' => e = .returned (.bool (nameB t)) ∧ Keep NoF w w' := by
  by_cases h1 : t.size < 1
  · rw [name_no (by omega)]
    go_enter Tryz.func60, Tryz.ntmps60
    go_wp2
    go_ret
    exact ⟨rfl, Keep.refl _ _⟩
  · by_cases h8 : 8 < t.size
    · rw [name_no (by omega)]
      go_enter Tryz.func60, Tryz.ntmps60
      go_wp2
      go_ret
      exact ⟨rfl, Keep.refl _ _⟩
    · have hs0 : 0 < t.size := by omega
      have hh := headD_at t hs0
      by_cases ha : t[0].toNat < 97
      · rw [name_no (by rw [hh]; omega)]
        clear hh
        go_enter Tryz.func60, Tryz.ntmps60
        go_wp2
        go_ret
        exact ⟨rfl, Keep.refl _ _⟩
      · by_cases hz : 122 < t[0].toNat
        · rw [name_no (by rw [hh]; omega)]
          clear hh
          go_enter Tryz.func60, Tryz.ntmps60
          go_wp2
          go_ret
          exact ⟨rfl, Keep.refl _ _⟩
        · rw [name_yes (by rw [hh]; omega)]
          generalize hr : t.data.toList.all isNC = r
          have HR := Lib.hid hr
          clear hh hr
          go_enter Tryz.func60, Tryz.ntmps60
          go_wp2
          go_loopw [3] (fun i wr => ∃ k : Nat, i = .int .i64 k ∧ k ≤ t.size ∧ Hid (r = (t.data.toList.drop k).all isNC) ∧ Keep NoF w wr) (fun i _ => t.size - (intOf i).toNat)
          case atStart => exact ⟨0, rfl, by omega, Lib.hid HR.out.symm, Keep.refl _ _⟩
          case round =>
            obtain ⟨k, rfl, hk, ho, hkr⟩ := hrel
            by_cases hlt : k < t.size
            · obtain ⟨b, hb, hd⟩ := byte_at t k hlt
              have ho1 := ho.out
              rw [all_step hd] at ho1
              clear ho hd HR
              have hb2 : t[k].toNat = b.toNat := congrArg UInt8.toNat hb
              clear hb
              by_cases hnc : (97 ≤ b.toNat ∧ b.toNat ≤ 122) ∨ (48 ≤ b.toNat ∧ b.toNat ≤ 57) ∨ b.toNat = 95
              · rw [nc_yes hnc, Bool.true_and] at ho1
                have HO := Lib.hid ho1
                clear ho1
                generalize b.toNat = c at *
                rcases hnc with ⟨h3, h4⟩ | ⟨h3, h4⟩ | rfl
                · go_wp2
                  go_roundw
                  case rel => exact ⟨k + 1, by go_num, by omega, HO, hkr⟩
                  case measure => simp only [intOf]; omega
                · go_wp2
                  go_roundw
                  case rel => exact ⟨k + 1, by go_num, by omega, HO, hkr⟩
                  case measure => simp only [intOf]; omega
                · go_wp2
                  go_roundw
                  case rel => exact ⟨k + 1, by go_num, by omega, HO, hkr⟩
                  case measure => simp only [intOf]; omega
              · rw [nc_no hnc, Bool.false_and] at ho1
                have HO := Lib.hid ho1
                clear ho1
                generalize b.toNat = c at *
                have h95 : ((c : Int) != 95) = true := by simp; omega
                have hcl : (c < 48) ∨ (57 < c ∧ c < 97) ∨ (122 < c) := by omega
                clear hnc
                rcases hcl with h3 | ⟨h3, h4⟩ | h3
                · go_wp2
                  go_ret
                  exact ⟨by rw [HO.out] <;> rfl, hkr⟩
                · go_wp2
                  go_ret
                  exact ⟨by rw [HO.out] <;> rfl, hkr⟩
                · go_wp2
                  go_ret
                  exact ⟨by rw [HO.out] <;> rfl, hkr⟩
            · obtain rfl : k = t.size := by omega
              have HX : Hid (r = true) := Lib.hid (by rw [ho.out, List.drop_eq_nil_of_le (by rw [data_len]; exact Nat.le_refl _)]; rfl)
              clear ho HR
              go_wp2
              go_ret
              exact ⟨by rw [HX.out] <;> rfl, hkr⟩
theorem rReserved_any (t : ByteArray) (w : World) : Calls Tryz.prog 61 #[.string t] w fun e w' => e = .returned (.bool (reserved t)) ∧ w' = w := by
  by_cases hm : t ∈ resW
  · have hr : reserved t = true := (Lib.containsS_iff _ _).2 hm
    rw [hr]
    clear hr
    simp only [resW, List.mem_cons, List.not_mem_nil, or_false] at hm
    rcases hm with rfl | rfl | rfl | rfl | rfl | rfl | rfl <;>
    · go_enter Tryz.func61, Tryz.ntmps61
      go_wp2
      go_ret
      exact ⟨rfl, rfl⟩
  · have hr : reserved t = false := by
      cases h : reserved t with
      | false => rfl
      | true => exact absurd ((Lib.containsS_iff _ _).1 h) hm
    rw [hr]
    clear hr
    have hne : ∀ y, y ∈ resW → (t.toList == y.data.toList) = false := fun y hy => by rw [← ByteArray.toList_eq y]; exact (Lib.bytes_beq_false_iff t y).2 fun e => hm (e ▸ hy)
    have e1 : (t.toList == [116, 114, 117, 101]) = false := hne ⟨#[116, 114, 117, 101]⟩ (by simp [resW])
    have e2 : (t.toList == [102, 97, 108, 115, 101]) = false := hne ⟨#[102, 97, 108, 115, 101]⟩ (by simp [resW])
    have e3 : (t.toList == [110, 101, 120, 116]) = false := hne ⟨#[110, 101, 120, 116]⟩ (by simp [resW])
    have e4 : (t.toList == [112, 114, 101, 118]) = false := hne ⟨#[112, 114, 101, 118]⟩ (by simp [resW])
    have e5 : (t.toList == [117, 110, 116, 105, 108]) = false := hne ⟨#[117, 110, 116, 105, 108]⟩ (by simp [resW])
    have e6 : (t.toList == [115, 105, 110, 99, 101]) = false := hne ⟨#[115, 105, 110, 99, 101]⟩ (by simp [resW])
    have e7 : (t.toList == [100, 111]) = false := hne ⟨#[100, 111]⟩ (by simp [resW])
    clear hne hm
    go_enter Tryz.func61, Tryz.ntmps61
    go_wp2
    go_ret
    exact ⟨rfl, rfl⟩
end
end Go.Proofs.YtmnhgeggojgflaaGreatDoor
namespace Go.Proofs.YtmnhgeggojgflaaGreatDoor
open Go.RowKit

theorem strs_one (l : List ByteArray) : ∀ u ∈ strs l, u.oneCell' = true := by
  intro u hu
  obtain ⟨x, _, rfl⟩ := List.mem_map.1 hu
  rfl

/-- A new list of strings. -/
def NewL (w : World) (l : List ByteArray) (v : Value) (w' : World) : Prop := w'.ownsRow w.heap.size 9 1 v l.length (strs l) ∧ Keep NoF w w'

theorem infoStr2 : ∃ i, Tryz.prog.info? (Tryz.grow4_ren.t 25) = some i ∧ i.zero = some (.string ⟨#[]⟩) ∧ i.size = 1 ∧ i.bytes = 16 := info_parts infoStr
theorem grow_any (n : Nat) (hn : n ≤ 1000) (w : World) : Calls Tryz.prog 88 #[.slice none 0 0, .int .i64 n] w fun e w' => ∃ v, e = .returned v ∧ NewL w [] v w' := by
  by_cases h0 : n = 0
  · subst h0
    have h := Any8.slices_Grow_room Tryz.grow4 none 0 0 0 w (by omega) (by omega) (by omega) (by omega)
    refine h.mono ?_
    rintro e w' ⟨rfl, hw⟩
    subst hw
    exact ⟨_, rfl, World.ownsRow_nil _ _ _ _, Keep.refl _ _⟩
  · obtain ⟨i, h1, h2, h3, h4⟩ := infoStr2
    have h := Any8.slices_Grow_grow Tryz.grow4 i (.string ⟨#[]⟩) h1 h2 (by omega) none 0 0 n [] w (by omega) (by omega) (by rw [h4]; omega) (by omega) (by simp) (fun _ => rfl) (fun a ha => by cases ha)
    refine h.mono ?_
    rintro e w' ⟨rfl, hw⟩
    have hge : 0 + n ≤ grownCap w (0 + n) 0 (Tryz.grow4_ren.t 25) := grownCap_ge w _ _ _
    have hcm : grownCap w (0 + n) 0 (Tryz.grow4_ren.t 25) ≤ maxLen := grownCap_le_maxLen w (0 + n) 0 _ (by unfold maxLen; omega)
    generalize grownCap w (0 + n) 0 (Tryz.grow4_ren.t 25) = G at *
    refine ⟨_, rfl, ⟨rfl, .inr ⟨w.heap.size, G, _, rfl, Nat.le_refl _, by rw [hw]; exact heap_alloc_new w.drew _, by simp, hcm, ?_, by simp⟩⟩, by rw [hw]; exact ((Keep.refl NoF w).drew).alloc _⟩
    simp only [Array.size_append, List.size_toArray, List.length_nil, size_zeroCells, Value.cells]
    simp
    omega

/-- Slices of names, one behind another. -/
def catL (V : List (Option Addr × Nat × List ByteArray)) : List ByteArray := (V.map (·.2.2)).flatten
theorem catL_succ {V : List (Option Addr × Nat × List ByteArray)} {k : Nat} {x} (h : V[k]? = some x) : catL (V.take (k + 1)) = catL (V.take k) ++ x.2.2 := by
  rw [List.take_add_one, h]
  simp [catL]
theorem catL_le (V : List (Option Addr × Nat × List ByteArray)) (k : Nat) : (catL (V.take k)).length ≤ (catL V).length := by
  have h : catL V = catL (V.take k) ++ catL (V.drop k) := by
    unfold catL
    rw [← List.flatten_append, ← List.map_append, List.take_append_drop]
  rw [h, List.length_append]
  omega
section
set_option maxRecDepth 100000
set_option maxHeartbeats 1000000
theorem Concat_any (V : List (Option Addr × Nat × List ByteArray)) (bl off c : Nat) (w : World) (hV : V.length ≤ 1000) (hn : (catL V).length ≤ 1000)
    (hc : ∀ (k : Nat) x, V[k]? = some x → w.cell? ⟨bl, off + k, none⟩ = some (.slice x.1 x.2.2.length x.2.1) ∧ Rd w (.slice x.1 x.2.2.length x.2.1) 1 x.2.2.length (strs x.2.2)) :
    Calls Tryz.prog 51 #[.slice (some ⟨bl, off, none⟩) V.length c] w fun e w' => ∃ v, e = .returned v ∧ NewL w (catL V) v w' := by
  have HC := Lib.hid hc
  have HLE := Lib.hid (catL_le V)
  have HSC := Lib.hid (fun k x => @catL_succ V k x)
  clear hc
  go_enter Tryz.func51, Tryz.ntmps51
  go_wp2
  go_loopw [3, 11] (fun s i wr => ∃ k : Nat, i = .int .i64 k ∧ s = .int .i64 (catL (V.take k)).length ∧ k ≤ V.length ∧ wr = w) (fun _ i _ => V.length - (intOf i).toNat)
  case atStart => exact ⟨0, rfl, rfl, by omega, rfl⟩
  case round =>
    obtain ⟨k, rfl, rfl, hk, hw⟩ := hrel
    obtain rfl := hw.symm; clear hw
    by_cases hlt : k < V.length
    · have hx : V[k]? = some V[k] := List.getElem?_eq_getElem hlt
      obtain ⟨h1, h2⟩ := HC.out k _ hx
      have h3 := congrArg List.length (HSC.out k _ hx)
      rw [List.length_append] at h3
      have h4 := HLE.out (k + 1)
      clear hx h2
      generalize V[k] = x at *
      obtain ⟨A, cx, l⟩ := x
      simp only at h1 h3
      have H3 : Hid ((catL (V.take (k + 1))).length = (catL (V.take k)).length + l.length) := Lib.hid h3
      rw [h3] at h4
      clear h3
      go_wp2
      go_roundw
      case rel => exact ⟨k + 1, by go_num, by rw [H3.out]; go_num, by omega, by trivial⟩
      case measure => simp only [intOf]; omega
    · obtain rfl : k = V.length := by omega
      have HTL : Hid (catL (V.take V.length) = catL V) := Lib.hid (by rw [List.take_length])
      rw [HTL.out]
      have HG := Lib.hid (grow_any (catL V).length hn w)
      go_wp2_with (go_at_call 88; (with_reducible refine HG.out.mono ?_); rintro e w1 ⟨v1, rfl, hown1, hk1⟩)
      go_loopw [6, 27] (fun v i wr => ∃ k : Nat, i = .int .i64 k ∧ k ≤ V.length ∧ wr.ownsRow w.heap.size 9 1 v (catL (V.take k)).length (strs (catL (V.take k))) ∧ Keep NoF w wr) (fun _ i _ => V.length - (intOf i).toNat)
      case atStart => exact ⟨0, rfl, by omega, hown1, hk1⟩
      case round =>
        obtain ⟨k, rfl, hk, hown, hkr⟩ := hrel
        by_cases hlt : k < V.length
        · have hx : V[k]? = some V[k] := List.getElem?_eq_getElem hlt
          obtain ⟨h1, h2⟩ := HC.out k _ hx
          have h3 := HSC.out k _ hx
          have h4 := HLE.out (k + 1)
          rw [h3, List.length_append] at h4
          have H3 := Lib.hid h3
          clear hx h3
          generalize V[k] = x at *
          obtain ⟨A, cx, l⟩ := x
          simp only at h1 h2 h4
          have h5 : wr.cell? ⟨bl, off + k, none⟩ = some (.slice A l.length cx) := hkr.cellv h1 fun h => h
          have h6 := Lib.hid (h2.kept hkr fun _ _ h => h)
          have hsz := hkr.size
          clear h1 h2
          obtain ⟨B, cb, rfl⟩ := own_form hown
          go_wp2_with (at_builtin
                       refine wpList_apps (by rfl) eStrs (.tmp 31) (.tmp 32) (by rfl) (by rfl) hown A l.length cx (strs l) (by rfl) h6.out (strs_one l) (by omega) (by omega) hsz ?_
                       intro v4 w4 hown4 hg4)
          go_roundw
          case rel =>
            refine ⟨k + 1, by go_num, by omega, ?_, hkr.grown hg4 fun x hx => .inr (hown.lt x hx).1⟩
            rw [H3.out, List.length_append, strs, List.map_append]
            exact hown4
          case measure => simp only [intOf]; omega
        · obtain rfl : k = V.length := by omega
          rw [HTL.out] at hown
          go_wp2
          go_ret
          exact ⟨_, rfl, hown, hkr⟩
end
end Go.Proofs.YtmnhgeggojgflaaGreatDoor
namespace Go.Proofs.YtmnhgeggojgflaaGreatDoor
open Go.RowKit

/-- The signature S lies at the three slices. -/
structure SigR (w : World) (S : Sg) (a : Option Addr) (ca : Nat) (f : Option Addr) (cf : Nat) (c : Option Addr) (cc : Nat) : Prop where
  A : Rd w (.slice a S.A.length ca) 1 S.A.length (strs S.A)
  F : Rd w (.slice f S.F.length cf) 1 S.F.length (strs S.F)
  C : Rd w (.slice c S.C.length cc) 1 S.C.length (strs S.C)
  sz : ∀ x ∈ S.all, x.size ≤ 9223372036854775807
  lA : S.A.length ≤ 9223372036854775807
  lF : S.F.length ≤ 9223372036854775807
  lC : S.C.length ≤ 9223372036854775807
theorem SigR.keep {w w' : World} {S : Sg} {a f c : Option Addr} {ca cf cc : Nat} (h : SigR w S a ca f cf c cc) (hk : Keep NoF w w') : SigR w' S a ca f cf c cc :=
  ⟨h.A.kept hk fun _ _ h => h, h.F.kept hk fun _ _ h => h, h.C.kept hk fun _ _ h => h, h.sz, h.lA, h.lF, h.lC⟩
/-- The cells of a signature in a variable of the callee. -/
def boxS (S : Sg) (a : Option Addr) (ca : Nat) (f : Option Addr) (cf : Nat) (c : Option Addr) (cc : Nat) : Array Value := #[.slice a S.A.length ca, .slice f S.F.length cf, .slice c S.C.length cc]
theorem box_cells {w w' : World} {S : Sg} {a f c : Option Addr} {ca cf cc : Nat} {t : TypeId} (hk : Keep NoF (w.alloc (.cells (boxS S a ca f cf c cc) t)) w') :
    w'.cell? ⟨w.heap.size, 0, none⟩ = some (.slice a S.A.length ca) ∧ w'.cell? ⟨w.heap.size, 1, none⟩ = some (.slice f S.F.length cf) ∧ w'.cell? ⟨w.heap.size, 2, none⟩ = some (.slice c S.C.length cc) ∧ w.heap.size + 1 ≤ w'.heap.size := by
  have hb := Bk.new w t (boxS S a ca f cf c cc)
  refine ⟨hk.cellv ((hb.cell 0).trans rfl) fun h => h, hk.cellv ((hb.cell 1).trans rfl) fun h => h, hk.cellv ((hb.cell 2).trans rfl) fun h => h, ?_⟩
  have := hk.size
  rwa [World.size_alloc] at this
theorem strs_snoc (l : List ByteArray) (x : ByteArray) : strs l ++ [Value.string x] = strs (l ++ [x]) := by simp [strs]
theorem take_snoc {l : List ByteArray} {k : Nat} {x : ByteArray} (h : l[k]? = some x) : l.take (k + 1) = l.take k ++ [x] := by
  rw [List.take_add_one, h]
  rfl

section
set_option maxRecDepth 100000
set_option maxHeartbeats 2000000
theorem rall_any (S : Sg) (a f c : Option Addr) (ca cf cc : Nat) (w : World) (hS : SigR w S a ca f cf c cc) (lA : S.A.length ≤ 12) (lF : S.F.length ≤ 12) (lC : S.C.length ≤ 12) :
    Calls Tryz.prog 59 #[.agg #[.slice a S.A.length ca, .slice f S.F.length cf, .slice c S.C.length cc]] w fun e w' => ∃ v, e = .returned v ∧ NewL w S.all v w' := by
  have HB := Lib.hid (fun w' => @box_cells w w' S a f c ca cf cc 24)
  have hK0 : Keep NoF w (w.alloc (.cells (boxS S a ca f cf c cc) 24)) := (Keep.refl _ _).alloc _
  unfold boxS at *
  go_enter Tryz.func59, Tryz.ntmps59
  go_wp2
  go_loopw [3, 4] (fun v i wr => ∃ (k : Nat) (p : List ByteArray), i = .int .i64 k ∧ k ≤ S.A.length ∧ Hid (p = (S.A.take k)) ∧ wr.ownsRow (w.heap.size + 1) 9 1 v p.length (strs p) ∧ Keep NoF (w.alloc (.cells #[.slice a S.A.length ca, .slice f S.F.length cf, .slice c S.C.length cc] 24)) wr) (fun _ i _ => S.A.length - (intOf i).toNat)
  case atStart => exact ⟨0, [], rfl, by omega, Lib.hid rfl, World.ownsRow_nil _ _ _ _, Keep.refl _ _⟩
  case round =>
    obtain ⟨k, p, rfl, hk, HQ, hown, hkr⟩ := hrel
    obtain ⟨c0, c1, c2, hsz⟩ := HB.out wr hkr
    by_cases hlt : k < S.A.length
    · have hx : S.A[k]? = some S.A[k] := List.getElem?_eq_getElem hlt
      have hrd := (hS.keep (hK0.trans hkr fun _ _ h => h)).A
      obtain ⟨-, hcc, bl, off, rfl, hc⟩ := hrd.str hx
      have HT := Lib.hid (take_snoc hx)
      have hll : p.length ≤ 40 := by rw [HQ.out]; simp only [List.length_append, List.length_take]; omega
      clear hx hrd
      generalize S.A[k] = x at *
      obtain ⟨B, cb, rfl⟩ := own_form hown
      go_wp2_with (at_builtin
                   refine wpList_app (by rfl) eStrs (.tmp 14) (.tmp 20) (by rfl) (by rfl) (hown.alloc _) ⟨wr.heap.size, 0, none⟩ 1 1 [.string x] (by rfl) (by rfl)
                     (World.news_of_block (cs := #[.string x]) (t := 9) (fr := (0, 0)) (heap_alloc_new wr _)) (by simp [Value.oneCell']) (by omega) (by omega) (by omega) (by simp; omega) ?_
                   intro g4 cap4 w4 hown4 hA4)
      go_roundw
      case rel =>
        refine ⟨k + 1, p ++ [x], by go_num, by omega, Lib.hid (by simp [HT.out, HQ.out]), ?_, (hkr.alloc _).grown hA4.grown fun x hx => .inr (by have := (hown.lt x hx).1; rw [World.size_alloc]; exact this)⟩
        rw [strs_snoc] at hown4
        rw [List.length_append]
        exact hown4
      case measure => simp only [intOf]; omega
    · obtain rfl : k = S.A.length := by omega
      have hownE := hown
      have hkE := hkr
      have HP : Hid (p = S.A) := Lib.hid (by rw [HQ.out, List.take_length])
      clear hown hkr HQ
      go_wp2
      go_loopw [3, 5] (fun v i wr => ∃ (k : Nat) (p : List ByteArray), i = .int .i64 k ∧ k ≤ S.F.length ∧ Hid (p = (S.A ++ S.F.take k)) ∧ wr.ownsRow (w.heap.size + 1) 9 1 v p.length (strs p) ∧ Keep NoF (w.alloc (.cells #[.slice a S.A.length ca, .slice f S.F.length cf, .slice c S.C.length cc] 24)) wr) (fun _ i _ => S.F.length - (intOf i).toNat)
      case atStart => exact ⟨0, p, rfl, by omega, Lib.hid (by rw [HP.out, List.take_zero, List.append_nil]), hownE, hkE⟩
      case round =>
        obtain ⟨k, p, rfl, hk, HQ, hown, hkr⟩ := hrel
        obtain ⟨c0, c1, c2, hsz⟩ := HB.out wr hkr
        by_cases hlt : k < S.F.length
        · have hx : S.F[k]? = some S.F[k] := List.getElem?_eq_getElem hlt
          have hrd := (hS.keep (hK0.trans hkr fun _ _ h => h)).F
          obtain ⟨-, hcc, bl, off, rfl, hc⟩ := hrd.str hx
          have HT := Lib.hid (take_snoc hx)
          have hll : p.length ≤ 40 := by rw [HQ.out]; simp only [List.length_append, List.length_take]; omega
          clear hx hrd
          generalize S.F[k] = x at *
          obtain ⟨B, cb, rfl⟩ := own_form hown
          go_wp2_with (at_builtin
                       refine wpList_app (by rfl) eStrs (.tmp 29) (.tmp 35) (by rfl) (by rfl) (hown.alloc _) ⟨wr.heap.size, 0, none⟩ 1 1 [.string x] (by rfl) (by rfl)
                         (World.news_of_block (cs := #[.string x]) (t := 9) (fr := (0, 0)) (heap_alloc_new wr _)) (by simp [Value.oneCell']) (by omega) (by omega) (by omega) (by simp; omega) ?_
                       intro g4 cap4 w4 hown4 hA4)
          go_roundw
          case rel =>
            refine ⟨k + 1, p ++ [x], by go_num, by omega, Lib.hid (by simp [HT.out, HQ.out]), ?_, (hkr.alloc _).grown hA4.grown fun x hx => .inr (by have := (hown.lt x hx).1; rw [World.size_alloc]; exact this)⟩
            rw [strs_snoc] at hown4
            rw [List.length_append]
            exact hown4
          case measure => simp only [intOf]; omega
        · obtain rfl : k = S.F.length := by omega
          have hownE := hown
          have hkE := hkr
          have HP : Hid (p = S.A ++ S.F) := Lib.hid (by rw [HQ.out, List.take_length])
          clear hown hkr HQ
          go_wp2
          go_loopw [3, 6] (fun v i wr => ∃ (k : Nat) (p : List ByteArray), i = .int .i64 k ∧ k ≤ S.C.length ∧ Hid (p = (S.A ++ S.F ++ S.C.take k)) ∧ wr.ownsRow (w.heap.size + 1) 9 1 v p.length (strs p) ∧ Keep NoF (w.alloc (.cells #[.slice a S.A.length ca, .slice f S.F.length cf, .slice c S.C.length cc] 24)) wr) (fun _ i _ => S.C.length - (intOf i).toNat)
          case atStart => exact ⟨0, p, rfl, by omega, Lib.hid (by rw [HP.out, List.take_zero, List.append_nil]), hownE, hkE⟩
          case round =>
            obtain ⟨k, p, rfl, hk, HQ, hown, hkr⟩ := hrel
            obtain ⟨c0, c1, c2, hsz⟩ := HB.out wr hkr
            by_cases hlt : k < S.C.length
            · have hx : S.C[k]? = some S.C[k] := List.getElem?_eq_getElem hlt
              have hrd := (hS.keep (hK0.trans hkr fun _ _ h => h)).C
              obtain ⟨-, hcc, bl, off, rfl, hc⟩ := hrd.str hx
              have HT := Lib.hid (take_snoc hx)
              have hll : p.length ≤ 40 := by rw [HQ.out]; simp only [List.length_append, List.length_take]; omega
              clear hx hrd
              generalize S.C[k] = x at *
              obtain ⟨B, cb, rfl⟩ := own_form hown
              go_wp2_with (at_builtin
                           refine wpList_app (by rfl) eStrs (.tmp 44) (.tmp 50) (by rfl) (by rfl) (hown.alloc _) ⟨wr.heap.size, 0, none⟩ 1 1 [.string x] (by rfl) (by rfl)
                             (World.news_of_block (cs := #[.string x]) (t := 9) (fr := (0, 0)) (heap_alloc_new wr _)) (by simp [Value.oneCell']) (by omega) (by omega) (by omega) (by simp; omega) ?_
                           intro g4 cap4 w4 hown4 hA4)
              go_roundw
              case rel =>
                refine ⟨k + 1, p ++ [x], by go_num, by omega, Lib.hid (by simp [HT.out, HQ.out]), ?_, (hkr.alloc _).grown hA4.grown fun x hx => .inr (by have := (hown.lt x hx).1; rw [World.size_alloc]; exact this)⟩
                rw [strs_snoc] at hown4
                rw [List.length_append]
                exact hown4
              case measure => simp only [intOf]; omega
            · obtain rfl : k = S.C.length := by omega
              have hownE := hown
              have hkE := hkr
              have HP : Hid (p = S.A ++ S.F ++ S.C) := Lib.hid (by rw [HQ.out, List.take_length])
              clear hown hkr HQ
              go_wp2
              go_ret
              exact ⟨_, rfl, by rw [show S.all = p from HP.out.symm]; exact own_base hownE (by omega), hK0.trans hkE fun _ _ h => h⟩
end
end Go.Proofs.YtmnhgeggojgflaaGreatDoor
namespace Go.Proofs.YtmnhgeggojgflaaGreatDoor
open Go.RowKit

theorem sum_lens (S : Sg) : S.all.length = S.A.length + S.F.length + S.C.length := by simp [Sg.all, List.length_append, Nat.add_assoc]
theorem drop_at {l : List ByteArray} {k : Nat} {x : ByteArray} (h : l[k]? = some x) : l.drop k = x :: l.drop (k + 1) := by
  obtain ⟨hk, rfl⟩ := List.getElem?_eq_some_iff.1 h
  exact List.drop_eq_getElem_cons hk
theorem chk_at {l : List ByteArray} {k : Nat} {x : ByteArray} (h : l[k]? = some x) : chkN (l.take k) (l.drop k) = if nameB x = true then (if reserved x = true ∨ Lib.containsS (l.take k) x = true then 5 else chkN (l.take (k + 1)) (l.drop (k + 1))) else 3 := by
  rw [drop_at h, chkN_cons, take_snoc h]
theorem catL_sig (S : Sg) (a f c : Option Addr) (ca cf cc : Nat) : catL [(a, ca, S.A), (f, cf, S.F), (c, cc, S.C)] = S.all := by simp [catL, Sg.all]
theorem checkS_lim {S : Sg} (h : 4 < S.A.length ∨ 8 < S.F.length ∨ 8 < S.C.length) : checkS S = 8 := if_pos h
theorem checkS_in {S : Sg} (h : ¬ (4 < S.A.length ∨ 8 < S.F.length ∨ 8 < S.C.length)) : checkS S = chkN [] S.all := if_neg h
/-- The cells of a new list. -/
theorem NewL.cells {w w' : World} {l : List ByteArray} {v : Value} (h : NewL w l v w') : ∃ A c, v = .slice A l.length c ∧ Rd w' (.slice A l.length c) 1 l.length (strs l) ∧ l.length ≤ 9223372036854775807 := by
  obtain ⟨A, c, rfl⟩ := own_form h.1
  refine ⟨A, c, rfl, Rd.of_own h.1, ?_⟩
  rcases h.1.2 with ⟨_, h0⟩ | ⟨g, cap, cur, _, _, _, h1, h2, _⟩
  · omega
  · simp only [maxLen] at h2
    omega

section
set_option maxRecDepth 100000
set_option maxHeartbeats 2000000
theorem Check_any (S : Sg) (a f c : Option Addr) (ca cf cc : Nat) (w : World) (hS : SigR w S a ca f cf c cc) (hT : Tab w) :
    Calls Tryz.prog 21 #[.agg #[.slice a S.A.length ca, .slice f S.F.length cf, .slice c S.C.length cc]] w fun e w' => e = .returned (.int .i64 (checkS S)) ∧ Keep NoF w w' := by
  have hK0 : Keep NoF w (w.alloc (.cells (boxS S a ca f cf c cc) 24)) := (Keep.refl _ _).alloc _
  by_cases hlim : 4 < S.A.length ∨ 8 < S.F.length ∨ 8 < S.C.length
  · rw [checkS_lim hlim]
    unfold boxS at hK0
    have hlim2 : 4 < S.A.length ∨ (S.A.length ≤ 4 ∧ 8 < S.F.length) ∨ (S.A.length ≤ 4 ∧ S.F.length ≤ 8 ∧ 8 < S.C.length) := by omega
    clear hlim
    rcases hlim2 with h1 | ⟨h1, h2⟩ | ⟨h1, h2, h3⟩
    · go_enter Tryz.func21, Tryz.ntmps21
      go_wp2
      go_ret
      exact ⟨rfl, hK0⟩
    · go_enter Tryz.func21, Tryz.ntmps21
      go_wp2
      go_ret
      exact ⟨rfl, hK0⟩
    · go_enter Tryz.func21, Tryz.ntmps21
      go_wp2
      go_ret
      exact ⟨rfl, hK0⟩
  · obtain ⟨lA, lF, lC⟩ : S.A.length ≤ 4 ∧ S.F.length ≤ 8 ∧ S.C.length ≤ 8 := by omega
    have hsum := sum_lens S
    rw [checkS_in hlim]
    have hS1 := (hS.keep hK0)
    have hK1 : Keep NoF w ((w.alloc (.cells (boxS S a ca f cf c cc) 24)).alloc (.cells (boxS S a ca f cf c cc) 22)) := hK0.alloc _
    have hCC := Concat_any [(a, ca, S.A), (f, cf, S.F), (c, cc, S.C)] (w.heap.size + 1) 0 3 ((w.alloc (.cells (boxS S a ca f cf c cc) 24)).alloc (.cells (boxS S a ca f cf c cc) 22)) (by simp) (by rw [catL_sig]; omega) (by
      have hS2 := hS.keep hK1
      have hb := Bk.new (w.alloc (.cells (boxS S a ca f cf c cc) 24)) 22 (boxS S a ca f cf c cc)
      rw [World.size_alloc] at hb
      intro k x hx
      match k, hx with
      | 0, hx =>
        obtain rfl : (a, ca, S.A) = x := by simpa using hx
        exact ⟨(hb.cell 0).trans rfl, hS2.A⟩
      | 1, hx =>
        obtain rfl : (f, cf, S.F) = x := by simpa using hx
        exact ⟨(hb.cell 1).trans rfl, hS2.F⟩
      | 2, hx =>
        obtain rfl : (c, cc, S.C) = x := by simpa using hx
        exact ⟨(hb.cell 2).trans rfl, hS2.C⟩
      | k + 3, hx => simp at hx)
    rw [catL_sig, show [(a, ca, S.A), (f, cf, S.F), (c, cc, S.C)].length = 3 from rfl] at hCC
    have HCC := Lib.hid hCC
    have HSZ := Lib.hid hS.sz
    have HK1 := Lib.hid hK1
    clear hS hS1 hK0 hCC hlim hK1
    unfold boxS at HCC HK1
    generalize hL : S.all = L at *
    clear hL
    generalize hr : chkN [] L = r
    have HR := Lib.hid hr
    clear hr
    go_enter Tryz.func21, Tryz.ntmps21
    go_wp2_with (go_at_call 51; (with_reducible refine HCC.out.mono ?_); rintro e w1 ⟨v, rfl, hnew⟩; obtain ⟨A, cA, rfl, hrd, hl63⟩ := hnew.cells)
    have hK2 : Keep NoF w w1 := HK1.out.trans hnew.2 fun _ _ h => h
    have hT1 := hT.keep0 hK2
    clear hnew HCC HK1
    go_loopw [32] (fun i wr => ∃ k : Nat, i = .int .i64 k ∧ k ≤ L.length ∧ Hid (r = chkN (L.take k) (L.drop k)) ∧ Keep NoF w1 wr) (fun i _ => L.length - (intOf i).toNat)
    case atStart => exact ⟨0, rfl, by omega, Lib.hid HR.out.symm, Keep.refl _ _⟩
    case round =>
      obtain ⟨k, rfl, hk, ho, hkr⟩ := hrel
      by_cases hlt : k < L.length
      · have hx : L[k]? = some L[k] := List.getElem?_eq_getElem hlt
        have hrd2 := hrd.kept hkr fun _ _ h => h
        obtain ⟨-, hcc, bl, off, rfl, hc⟩ := hrd2.str hx
        have ho1 := ho.out
        rw [chk_at hx] at ho1
        have hxs := HSZ.out _ (List.getElem_mem hlt)
        have HAT := Lib.hid (hrd.at_ (by omega)).2.2
        have HCT : Hid (∀ wq, Keep NoF w1 wq → Calls Tryz.prog 54 #[.slice (some ⟨bl, off, none⟩) k cA, .string L[k]] wq fun e w' => e = .returned (.bool (Lib.containsS (L.take k) L[k])) ∧ w' = wq) := Lib.hid fun wq hq =>
          contains_any L k hk bl off cA L[k] wq hl63 fun j y hj => by
            obtain ⟨-, -, bl2, off2, he, hc2⟩ := (hrd.kept hq fun _ _ h => h).str hj
            injection he with he
            injection he with e1 e2 _
            subst e1 e2
            exact hc2
        clear ho hx hrd2 HAT
        generalize L[k] = x at *
        have HNM := Lib.hid (IsName_any x wr hxs)
        cases hn : nameB x with
        | false =>
          rw [hn] at ho1 HNM
          have HO : Hid (r = 3) := Lib.hid ho1
          clear ho1 hn HR
          go_wp2_with (go_at_call 52; (with_reducible refine HNM.out.mono ?_); rintro e w2 ⟨rfl, hk2⟩)
          go_ret
          exact ⟨by rw [HO.out] <;> rfl, (hK2.trans hkr fun _ _ h => h).trans hk2 fun _ _ h => h⟩
        | true =>
          rw [hn, if_pos rfl] at ho1
          rw [hn] at HNM
          have HRS := Lib.hid (fun w2 => Reserved_any x w2)
          cases hv : reserved x with
          | true =>
            rw [hv, if_pos (.inl rfl)] at ho1
            rw [hv] at HRS
            have HO := Lib.hid ho1
            clear ho1 hn HR hv
            go_wp2_with (first
              | (go_at_call 52
                 (with_reducible refine HNM.out.mono ?_)
                 rintro e w2 ⟨rfl, hk2⟩
                 have hT2 := Lib.hid (hT1.keep0 (hkr.trans hk2 fun _ _ h => h)))
              | (go_at_call 53; (with_reducible refine (HRS.out w2 hT2.out).mono ?_); rintro e w' ⟨rfl, hw'⟩; obtain rfl := hw'.symm))
            go_ret
            exact ⟨by rw [HO.out] <;> rfl, (hK2.trans hkr fun _ _ h => h).trans hk2 fun _ _ h => h⟩
          | false =>
            rw [hv] at ho1 HRS
            cases hq : Lib.containsS (L.take k) x with
            | true =>
              rw [hq, if_pos (.inr rfl)] at ho1
              rw [hq] at HCT
              have HO := Lib.hid ho1
              clear ho1 hn HR hv hq
              go_wp2_with (first
                | (go_at_call 52
                   (with_reducible refine HNM.out.mono ?_)
                   rintro e w2 ⟨rfl, hk2⟩
                   have hT2 := Lib.hid (hT1.keep0 (hkr.trans hk2 fun _ _ h => h))
                   have hQ2 := Lib.hid (hkr.trans hk2 fun _ _ h => h))
                | (go_at_call 53; (with_reducible refine (HRS.out w2 hT2.out).mono ?_); rintro e w' ⟨rfl, hw'⟩; obtain rfl := hw'.symm)
                | (go_at_call 54; (with_reducible refine (HCT.out w2 hQ2.out).mono ?_); rintro e w' ⟨rfl, hw'⟩; obtain rfl := hw'.symm))
              go_ret
              exact ⟨by rw [HO.out] <;> rfl, (hK2.trans hkr fun _ _ h => h).trans hk2 fun _ _ h => h⟩
            | false =>
              rw [hq, if_neg (by simp)] at ho1
              rw [hq] at HCT
              have HO := Lib.hid ho1
              clear ho1 hn HR hv hq
              go_wp2_with (first
                | (go_at_call 52
                   (with_reducible refine HNM.out.mono ?_)
                   rintro e w2 ⟨rfl, hk2⟩
                   have hT2 := Lib.hid (hT1.keep0 (hkr.trans hk2 fun _ _ h => h))
                   have hQ2 := Lib.hid (hkr.trans hk2 fun _ _ h => h))
                | (go_at_call 53; (with_reducible refine (HRS.out w2 hT2.out).mono ?_); rintro e w' ⟨rfl, hw'⟩; obtain rfl := hw'.symm)
                | (go_at_call 54; (with_reducible refine (HCT.out w2 hQ2.out).mono ?_); rintro e w' ⟨rfl, hw'⟩; obtain rfl := hw'.symm))
              go_roundw
              case rel => exact ⟨k + 1, by go_num, by omega, HO, hQ2.out⟩
              case measure => simp only [intOf]; omega
      · obtain rfl : k = L.length := by omega
        have HO : Hid (r = 0) := Lib.hid (by rw [ho.out, List.drop_length]; rfl)
        clear ho HR
        go_wp2
        go_ret
        exact ⟨by rw [HO.out] <;> rfl, hK2.trans hkr fun _ _ h => h⟩
end
end Go.Proofs.YtmnhgeggojgflaaGreatDoor
namespace Go.Proofs.YtmnhgeggojgflaaGreatDoor
open Go.RowKit

section
set_option maxRecDepth 100000
set_option maxHeartbeats 2000000
theorem rCheck_any (S : Sg) (a f c : Option Addr) (ca cf cc : Nat) (w : World) (hS : SigR w S a ca f cf c cc) :
    Calls Tryz.prog 28 #[.agg #[.slice a S.A.length ca, .slice f S.F.length cf, .slice c S.C.length cc]] w fun e w' => e = .returned (.int .i64 (checkS S)) ∧ Keep NoF w w' := by
  have hK0 : Keep NoF w (w.alloc (.cells (boxS S a ca f cf c cc) 24)) := (Keep.refl _ _).alloc _
  by_cases hlim : 4 < S.A.length ∨ 8 < S.F.length ∨ 8 < S.C.length
  · rw [checkS_lim hlim]
    unfold boxS at hK0
    have hlim2 : 4 < S.A.length ∨ (S.A.length ≤ 4 ∧ 8 < S.F.length) ∨ (S.A.length ≤ 4 ∧ S.F.length ≤ 8 ∧ 8 < S.C.length) := by omega
    clear hlim
    rcases hlim2 with h1 | ⟨h1, h2⟩ | ⟨h1, h2, h3⟩
    · go_enter Tryz.func28, Tryz.ntmps28
      go_wp2
      go_ret
      exact ⟨rfl, hK0⟩
    · go_enter Tryz.func28, Tryz.ntmps28
      go_wp2
      go_ret
      exact ⟨rfl, hK0⟩
    · go_enter Tryz.func28, Tryz.ntmps28
      go_wp2
      go_ret
      exact ⟨rfl, hK0⟩
  · obtain ⟨lA, lF, lC⟩ : S.A.length ≤ 4 ∧ S.F.length ≤ 8 ∧ S.C.length ≤ 8 := by omega
    have hsum := sum_lens S
    rw [checkS_in hlim]
    have HCC := Lib.hid (rall_any S a f c ca cf cc _ (hS.keep hK0) (by omega) (by omega) (by omega))
    have HK1 := Lib.hid hK0
    have HSZ := Lib.hid hS.sz
    clear hS hK0 hlim hsum
    unfold boxS at HCC HK1
    generalize hL : S.all = L at *
    clear hL
    generalize hr : chkN [] L = r
    have HR := Lib.hid hr
    clear hr
    go_enter Tryz.func28, Tryz.ntmps28
    go_wp2_with (go_at_call 59; (with_reducible refine HCC.out.mono ?_); rintro e w1 ⟨v, rfl, hnew⟩; obtain ⟨A, cA, rfl, hrd, hl63⟩ := hnew.cells)
    have hK2 : Keep NoF w w1 := HK1.out.trans hnew.2 fun _ _ h => h
    clear hnew HCC HK1
    go_loopw [4] (fun i wr => ∃ k : Nat, i = .int .i64 k ∧ k ≤ L.length ∧ Hid (r = chkN (L.take k) (L.drop k)) ∧ Keep NoF w1 wr) (fun i _ => L.length - (intOf i).toNat)
    case atStart => exact ⟨0, rfl, by omega, Lib.hid HR.out.symm, Keep.refl _ _⟩
    case round =>
      obtain ⟨k, rfl, hk, ho, hkr⟩ := hrel
      by_cases hlt : k < L.length
      · have hx : L[k]? = some L[k] := List.getElem?_eq_getElem hlt
        have hrd2 := hrd.kept hkr fun _ _ h => h
        obtain ⟨-, hcc, bl, off, rfl, hc⟩ := hrd2.str hx
        have ho1 := ho.out
        rw [chk_at hx] at ho1
        have hxs := HSZ.out _ (List.getElem_mem hlt)
        have HCT : Hid (∀ wq, Keep NoF w1 wq → Calls Tryz.prog 62 #[.slice (some ⟨bl, off, none⟩) L.length cA, .string L[k]] wq fun e w' => e = .returned (.int .i64 (Lib.idxOfS L L[k])) ∧ w' = wq) := Lib.hid fun wq hq =>
          rfind_any L (some ⟨bl, off, none⟩) cA L[k] wq hl63 (hrd.kept hq fun _ _ h => h)
        have HFL := Lib.hid (find_lt L k hx)
        have HC2 : Hid (∀ wq, Keep NoF wr wq → wq.cell? ⟨bl, off + k, none⟩ = some (.string L[k])) := Lib.hid fun wq hq => hq.cellv hc fun h => h
        clear ho hx hrd2
        generalize L[k] = x at *
        have HNM := Lib.hid (rIsName_any x wr hxs)
        cases hn : nameB x with
        | false =>
          rw [hn] at ho1 HNM
          have HO : Hid (r = 3) := Lib.hid ho1
          clear ho1 hn HR
          go_wp2_with (go_at_call 60; (with_reducible refine HNM.out.mono ?_); rintro e w2 ⟨rfl, hk2⟩)
          go_ret
          exact ⟨by rw [HO.out] <;> rfl, (hK2.trans hkr fun _ _ h => h).trans hk2 fun _ _ h => h⟩
        | true =>
          rw [hn, if_pos rfl] at ho1
          rw [hn] at HNM
          have HRS := Lib.hid (fun w2 => rReserved_any x w2)
          cases hv : reserved x with
          | true =>
            rw [hv, if_pos (.inl rfl)] at ho1
            rw [hv] at HRS
            have HO := Lib.hid ho1
            clear ho1 hn HR hv
            go_wp2_with (first
              | (go_at_call 60
                 (with_reducible refine HNM.out.mono ?_)
                 rintro e w2 ⟨rfl, hk2⟩
                 have hc2 := HC2.out w2 hk2
                 have hQ2 := Lib.hid (hkr.trans hk2 fun _ _ h => h))
              | (go_at_call 61; (with_reducible refine (HRS.out w2).mono ?_); rintro e w' ⟨rfl, hw'⟩; obtain rfl := hw'.symm))
            go_ret
            exact ⟨by rw [HO.out] <;> rfl, (hK2.trans hkr fun _ _ h => h).trans hk2 fun _ _ h => h⟩
          | false =>
            rw [hv] at ho1 HRS
            cases hq : Lib.containsS (L.take k) x with
            | true =>
              rw [hq, if_pos (.inr rfl)] at ho1
              have hidx : Lib.idxOfS L x < k := HFL.out.2 ((Lib.containsS_iff _ _).1 hq)
              generalize Lib.idxOfS L x = q at *
              have HO := Lib.hid ho1
              clear ho1 hn HR hv hq
              go_wp2_with (first
                | (go_at_call 60
                   (with_reducible refine HNM.out.mono ?_)
                   rintro e w2 ⟨rfl, hk2⟩
                   have hc2 := HC2.out w2 hk2
                   have hQ2 := Lib.hid (hkr.trans hk2 fun _ _ h => h))
                | (go_at_call 61; (with_reducible refine (HRS.out w2).mono ?_); rintro e w' ⟨rfl, hw'⟩; obtain rfl := hw'.symm)
                | (go_at_call 62; (with_reducible refine (HCT.out w2 hQ2.out).mono ?_); rintro e w' ⟨rfl, hw'⟩; obtain rfl := hw'.symm))
              go_ret
              exact ⟨by rw [HO.out] <;> rfl, (hK2.trans hkr fun _ _ h => h).trans hk2 fun _ _ h => h⟩
            | false =>
              rw [hq, if_neg (by simp)] at ho1
              have hidx : ¬ Lib.idxOfS L x < k := fun h => by rw [(Lib.containsS_iff _ _).2 (HFL.out.1 h)] at hq; cases hq
              generalize Lib.idxOfS L x = q at *
              have HO := Lib.hid ho1
              clear ho1 hn HR hv hq
              go_wp2_with (first
                | (go_at_call 60
                   (with_reducible refine HNM.out.mono ?_)
                   rintro e w2 ⟨rfl, hk2⟩
                   have hc2 := HC2.out w2 hk2
                   have hQ2 := Lib.hid (hkr.trans hk2 fun _ _ h => h))
                | (go_at_call 61; (with_reducible refine (HRS.out w2).mono ?_); rintro e w' ⟨rfl, hw'⟩; obtain rfl := hw'.symm)
                | (go_at_call 62; (with_reducible refine (HCT.out w2 hQ2.out).mono ?_); rintro e w' ⟨rfl, hw'⟩; obtain rfl := hw'.symm))
              go_roundw
              case rel => exact ⟨k + 1, by go_num, by omega, HO, hQ2.out⟩
              case measure => simp only [intOf]; omega
      · obtain rfl : k = L.length := by omega
        have HO : Hid (r = 0) := Lib.hid (by rw [ho.out, List.drop_length]; rfl)
        clear ho HR
        go_wp2
        go_ret
        exact ⟨by rw [HO.out] <;> rfl, hK2.trans hkr fun _ _ h => h⟩
end
end Go.Proofs.YtmnhgeggojgflaaGreatDoor
namespace Go.Proofs.YtmnhgeggojgflaaGreatDoor
open Go.RowKit

theorem findS_no {S : Sg} (h : checkS S ≠ 0) (l : List ByteArray) (x : ByteArray) : findS S l x = -1 := if_neg h
theorem findS_ok {S : Sg} (h : checkS S = 0) (l : List ByteArray) (x : ByteArray) : findS S l x = Lib.idxOfS l x := if_pos h
section
set_option maxRecDepth 100000
set_option maxHeartbeats 2000000
theorem find_any (S : Sg) (a f c : Option Addr) (ca cf cc : Nat) (l : List ByteArray) (B : Option Addr) (cl : Nat) (x : ByteArray) (w : World) (hS : SigR w S a ca f cf c cc) (hT : Tab w) (hl : l.length ≤ 9223372036854775807) (hrd : Rd w (.slice B l.length cl) 1 l.length (strs l)) :
    Calls Tryz.prog 130 #[.agg #[.slice a S.A.length ca, .slice f S.F.length cf, .slice c S.C.length cc], .slice B l.length cl, .string x] w fun e w' => e = .returned (.int .i64 (findS S l x)) ∧ Keep NoF w w' := by
  have hK0 : Keep NoF w (w.alloc (.cells (boxS S a ca f cf c cc) 24)) := (Keep.refl _ _).alloc _
  have HC := Lib.hid (Check_any S a f c ca cf cc _ (hS.keep hK0) (hT.keep0 hK0))
  have HI := Lib.hid (fun w1 (hk : Keep NoF w w1) => index_any l B cl x w1 hl (hrd.kept hk fun _ _ h => h))
  unfold boxS at *
  by_cases h0 : checkS S = 0
  · rw [findS_ok h0]
    rw [h0] at HC
    generalize Lib.idxOfS l x = q at *
    go_enter Tryz.func130, Tryz.ntmps130
    go_wp2_with (first
      | (go_at_call 21
         (with_reducible refine HC.out.mono ?_)
         rintro e w1 ⟨rfl, hk1⟩
         have hk := hK0.trans hk1 fun _ _ h => h)
      | (go_at_call 90; (with_reducible refine (HI.out w1 hk).mono ?_); rintro e w' ⟨rfl, hw'⟩; obtain rfl := hw'.symm))
    go_ret
    exact ⟨rfl, hk⟩
  · rw [findS_no h0]
    generalize checkS S = n at *
    have hn : ((n : Int) != 0) = true := by simp; omega
    go_enter Tryz.func130, Tryz.ntmps130
    go_wp2_with (go_at_call 21
                 (with_reducible refine HC.out.mono ?_)
                 rintro e w1 ⟨rfl, hk1⟩
                 have hk := hK0.trans hk1 fun _ _ h => h)
    go_ret
    exact ⟨rfl, hk⟩
theorem Agent_any (S : Sg) (a f c : Option Addr) (ca cf cc : Nat) (x : ByteArray) (w : World) (hS : SigR w S a ca f cf c cc) (hT : Tab w) :
    Calls Tryz.prog 106 #[.agg #[.slice a S.A.length ca, .slice f S.F.length cf, .slice c S.C.length cc], .string x] w fun e w' => e = .returned (.int .i64 (findS S S.A x)) ∧ Keep NoF w w' := by
  have hK0 : Keep NoF w (w.alloc (.cells (boxS S a ca f cf c cc) 24)) := (Keep.refl _ _).alloc _
  have HF := Lib.hid (find_any S a f c ca cf cc S.A a ca x _ (hS.keep hK0) (hT.keep0 hK0) hS.lA (hS.keep hK0).A)
  unfold boxS at *
  generalize findS S S.A x = q at *
  go_enter Tryz.func106, Tryz.ntmps106
  go_wp2_with (go_at_call 130; (with_reducible refine HF.out.mono ?_); rintro e w1 ⟨rfl, hk1⟩; have hk := hK0.trans hk1 fun _ _ h => h)
  go_ret
  exact ⟨rfl, hk⟩
theorem rAgent_any (S : Sg) (a f c : Option Addr) (ca cf cc : Nat) (x : ByteArray) (w : World) (hS : SigR w S a ca f cf c cc) :
    Calls Tryz.prog 112 #[.agg #[.slice a S.A.length ca, .slice f S.F.length cf, .slice c S.C.length cc], .string x] w fun e w' => e = .returned (.int .i64 (findS S S.A x)) ∧ Keep NoF w w' := by
  have HB := Lib.hid (fun w' => @box_cells w w' S a f c ca cf cc 24)
  have hK0 : Keep NoF w (w.alloc (.cells (boxS S a ca f cf c cc) 24)) := (Keep.refl _ _).alloc _
  have HC := Lib.hid (rCheck_any S a f c ca cf cc _ (hS.keep hK0))
  have HI := Lib.hid (fun w1 (hk : Keep NoF w w1) => rfind_any S.A a ca x w1 hS.lA (hS.keep hk).A)
  unfold boxS at *
  by_cases h0 : checkS S = 0
  · rw [findS_ok h0]
    rw [h0] at HC
    generalize Lib.idxOfS S.A x = q at *
    go_enter Tryz.func112, Tryz.ntmps112
    go_wp2_with (first
      | (go_at_call 28
         (with_reducible refine HC.out.mono ?_)
         rintro e w1 ⟨rfl, hk1⟩
         obtain ⟨c0, c1, c2, hsz⟩ := HB.out w1 hk1
         have hk := hK0.trans hk1 fun _ _ h => h)
      | (go_at_call 62; (with_reducible refine (HI.out w1 hk).mono ?_); rintro e w' ⟨rfl, hw'⟩; obtain rfl := hw'.symm))
    go_ret
    exact ⟨rfl, hk⟩
  · rw [findS_no h0]
    generalize checkS S = n at *
    have hn : ((n : Int) != 0) = true := by simp; omega
    go_enter Tryz.func112, Tryz.ntmps112
    go_wp2_with (go_at_call 28
                 (with_reducible refine HC.out.mono ?_)
                 rintro e w1 ⟨rfl, hk1⟩
                 have hk := hK0.trans hk1 fun _ _ h => h)
    go_ret
    exact ⟨rfl, hk⟩
theorem Fact_any (S : Sg) (a f c : Option Addr) (ca cf cc : Nat) (x : ByteArray) (w : World) (hS : SigR w S a ca f cf c cc) (hT : Tab w) :
    Calls Tryz.prog 104 #[.agg #[.slice a S.A.length ca, .slice f S.F.length cf, .slice c S.C.length cc], .string x] w fun e w' => e = .returned (.int .i64 (findS S S.F x)) ∧ Keep NoF w w' := by
  have hK0 : Keep NoF w (w.alloc (.cells (boxS S a ca f cf c cc) 24)) := (Keep.refl _ _).alloc _
  have HF := Lib.hid (find_any S a f c ca cf cc S.F f cf x _ (hS.keep hK0) (hT.keep0 hK0) hS.lF (hS.keep hK0).F)
  unfold boxS at *
  generalize findS S S.F x = q at *
  go_enter Tryz.func104, Tryz.ntmps104
  go_wp2_with (go_at_call 130; (with_reducible refine HF.out.mono ?_); rintro e w1 ⟨rfl, hk1⟩; have hk := hK0.trans hk1 fun _ _ h => h)
  go_ret
  exact ⟨rfl, hk⟩
theorem rFact_any (S : Sg) (a f c : Option Addr) (ca cf cc : Nat) (x : ByteArray) (w : World) (hS : SigR w S a ca f cf c cc) :
    Calls Tryz.prog 110 #[.agg #[.slice a S.A.length ca, .slice f S.F.length cf, .slice c S.C.length cc], .string x] w fun e w' => e = .returned (.int .i64 (findS S S.F x)) ∧ Keep NoF w w' := by
  have HB := Lib.hid (fun w' => @box_cells w w' S a f c ca cf cc 24)
  have hK0 : Keep NoF w (w.alloc (.cells (boxS S a ca f cf c cc) 24)) := (Keep.refl _ _).alloc _
  have HC := Lib.hid (rCheck_any S a f c ca cf cc _ (hS.keep hK0))
  have HI := Lib.hid (fun w1 (hk : Keep NoF w w1) => rfind_any S.F f cf x w1 hS.lF (hS.keep hk).F)
  unfold boxS at *
  by_cases h0 : checkS S = 0
  · rw [findS_ok h0]
    rw [h0] at HC
    generalize Lib.idxOfS S.F x = q at *
    go_enter Tryz.func110, Tryz.ntmps110
    go_wp2_with (first
      | (go_at_call 28
         (with_reducible refine HC.out.mono ?_)
         rintro e w1 ⟨rfl, hk1⟩
         obtain ⟨c0, c1, c2, hsz⟩ := HB.out w1 hk1
         have hk := hK0.trans hk1 fun _ _ h => h)
      | (go_at_call 62; (with_reducible refine (HI.out w1 hk).mono ?_); rintro e w' ⟨rfl, hw'⟩; obtain rfl := hw'.symm))
    go_ret
    exact ⟨rfl, hk⟩
  · rw [findS_no h0]
    generalize checkS S = n at *
    have hn : ((n : Int) != 0) = true := by simp; omega
    go_enter Tryz.func110, Tryz.ntmps110
    go_wp2_with (go_at_call 28
                 (with_reducible refine HC.out.mono ?_)
                 rintro e w1 ⟨rfl, hk1⟩
                 have hk := hK0.trans hk1 fun _ _ h => h)
    go_ret
    exact ⟨rfl, hk⟩
end
end Go.Proofs.YtmnhgeggojgflaaGreatDoor
