/- The law WorldsetPermutes answers true. Conditions: the library's variables lie as they are read. -/
import Derived.Test.YtckmhngcnimmdaaDoorWsAw
import Derived.Test.YtckmhngcnimmdaaDoorWsPe
set_option linter.unusedVariables false
set_option linter.unusedSimpArgs false
namespace Go.Proofs.YtckmhngcnimmdaaDoor
open Go.RowKit

/-- Block g holds the numbers f 0 .. f 63. -/
def Arr (W : World) (g : Nat) (f : Nat → Nat) : Prop := ∃ C : Array Value, Bk W g 3 C ∧ C.size = 64 ∧ ∀ k, k < 64 → C[k]? = some (.int .i64 (f k))
section
variable {W W' : World} {g : Nat} {f f' : Nat → Nat}
theorem Arr.cell (h : Arr W g f) {k : Nat} (hk : k < 64) : W.cell? ⟨g, k, none⟩ = some (.int .i64 (f k)) := by
  obtain ⟨C, hb, _, hc⟩ := h
  rw [hb.cell k, hc k hk]
theorem Arr.frozen (h : Arr W g f) (k : Nat) : W.frozen? ⟨g, k, none⟩ = false := by
  obtain ⟨C, hb, _⟩ := h
  exact hb.frozen k
theorem Arr.lt (h : Arr W g f) : g < W.heap.size := by
  obtain ⟨C, hb, _⟩ := h
  exact hb.lt
theorem Arr.set (h : Arr W g f) {k : Nat} (hk : k < 64) (v : Nat) : Arr (W.setCell ⟨g, k, none⟩ (.int .i64 v)) g (fun j => if j = k then v else f j) := by
  obtain ⟨C, hb, hs, hc⟩ := h
  refine ⟨_, hb.put k _, by simp [hs], fun j hj => ?_⟩
  show _ = some (Value.int .i64 ((if j = k then v else f j : Nat) : Int))
  by_cases hjk : j = k
  · subst hjk
    rw [if_pos rfl, Array.getElem?_setIfInBounds_self, if_pos (by omega)]
  · rw [if_neg hjk, Array.getElem?_setIfInBounds_ne (Ne.symm hjk), hc j hj]
theorem Arr.far (h : Arr W g f) {p : Addr} (hp : g ≠ p.block) (u : Value) : Arr (W.setCell p u) g f := by
  obtain ⟨C, hb, hs, hc⟩ := h
  exact ⟨C, hb.far hp u, hs, hc⟩
theorem Arr.keep {F : Nat → Prop} (h : Arr W g f) (hk : Keep F W W') (hf : ¬ F g) : Arr W' g f := by
  obtain ⟨C, hb, hs, hc⟩ := h
  exact ⟨C, hb.keep hk hf, hs, hc⟩
theorem Arr.congr (h : Arr W g f) (he : ∀ k, k < 64 → f k = f' k) : Arr W g f' := by
  obtain ⟨C, hb, hs, hc⟩ := h
  exact ⟨C, hb, hs, fun k hk => by rw [← he k hk]; exact hc k hk⟩
theorem Arr.drew (h : Arr W g f) : Arr W.drew g f := h
theorem Arr.drewN (h : Arr W g f) (n : Nat) : Arr (W.drewN n) g f := h
theorem Arr.rd (h : Arr W g f) : Rd W (.slice (some ⟨g, 0, none⟩) 64 64) 1 64 (((List.range 64).map fun k => ((f k : Nat) : Int)).map zV) := by
  refine ⟨by simp, some ⟨g, 0, none⟩, 64, rfl, Nat.le_refl _, fun _ => ⟨g, 0, rfl, fun j u hu => ?_⟩⟩
  rw [List.getElem?_map] at hu
  obtain ⟨z, hz, rfl⟩ := Option.map_eq_some_iff.1 hu
  rw [List.getElem?_map] at hz
  obtain ⟨k, hk, rfl⟩ := Option.map_eq_some_iff.1 hz
  obtain ⟨hlt, e⟩ := List.getElem?_eq_some_iff.1 hk
  rw [List.length_range] at hlt
  rw [List.getElem_range] at e
  subst e
  rw [Nat.zero_add]
  exact h.cell hlt
theorem range_getD (f : Nat → Nat) {x : Nat} (hx : x < 64) : ((List.range 64).map fun k => ((f k : Nat) : Int)).getD x 0 = (f x : Int) := by
  rw [List.getD_eq_getElem?_getD, List.getElem?_map, List.getElem?_range hx]
  rfl
end
theorem made_zero (n : Nat) : madeCells #[.int .i64 0] n = (List.replicate n (Value.int .i64 0)).toArray := by
  apply Array.ext_getElem?
  intro i
  by_cases hi : i < n
  · simp [madeCells, List.getElem?_replicate, hi, Nat.mod_one]
  · simp [madeCells, List.getElem?_replicate, hi]
def zeros : Array Value := (List.replicate 64 (Value.int .i64 0)).toArray
theorem make64 (w : World) : (Instr.makeSlice 22 (.int .i64 64) (.int .i64 64)).run Tryd.prog w = .ok (.slice (some ⟨w.heap.size, 0, none⟩) 64 64) (w.alloc (.cells zeros 3)) := by
  have := run_make_row' 22 3 (.int .i64 0) 8 Tryd.underlying22 infoInt rfl .i64 .i64 64 (by omega) (by omega) w
  rw [made_zero] at this
  exact this
theorem arr_zeros (w : World) : Arr (w.alloc (.cells zeros 3)) w.heap.size (fun _ => 0) :=
  ⟨zeros, Bk.new w 3 zeros, by simp [zeros], fun k hk => by
    show (List.replicate 64 (Value.int .i64 0)).toArray[k]? = _
    rw [List.getElem?_toArray, List.getElem?_replicate, if_pos hk]
    rfl⟩
theorem arr_zeros2 (w : World) : Arr ((w.alloc (.cells zeros 3)).alloc (.cells zeros 3)) (w.heap.size + 1) (fun _ => 0) := by
  have := arr_zeros (w.alloc (.cells zeros 3))
  rwa [World.size_alloc] at this
theorem arr_zeros1 (w : World) : Arr ((w.alloc (.cells zeros 3)).alloc (.cells zeros 3)) w.heap.size (fun _ => 0) :=
  (arr_zeros w).keep ((Keep.refl NoF _).alloc _) fun h => h

section
set_option maxRecDepth 100000
set_option maxHeartbeats 1000000
theorem walk_WorldsetPermutes (s : Nat) (l : List Int) (A : Option Addr) (c : Nat) (w : World) (hs : s < 18446744073709551616) (hl : l.length ≤ 9223372036854775807) (hrd : Rd w (.slice A l.length c) 1 l.length (l.map (.int .u8))) (hwf : ∀ n ∈ l, (Lit.int .u8 n).wf = true) (ht : Tab w) :
    Calls Tryd.prog 8 #[.int .u64 s, .slice A l.length c] w fun e w' => e = .returned (.bool true) ∧ Keep NoF w w' := by
  by_cases h64 : 64 < l.length
  · go_enter Tryd.func8, Tryd.ntmps8
    go_wp2_with (go_at_call 11; (with_reducible refine (awake_any w ht).mono ?_); rintro e w1 ⟨rfl, hk1⟩)
    go_ret
    exact ⟨rfl, hk1⟩
  · have HBY : Hid (∀ k, k < l.length → ∃ b bl off : Nat, b < 256 ∧ A = some ⟨bl, off, none⟩ ∧ w.cell? ⟨bl, off + k, none⟩ = some (.int .u8 b)) := Lib.hid fun k hk => by
      obtain ⟨-, A', c', he, -, hh⟩ := hrd
      injection he with he1 he2 he3
      obtain ⟨bl, off, hA, hc⟩ := hh (by omega)
      have hx : l[k]? = some l[k] := List.getElem?_eq_getElem hk
      have h1 := hwf _ (List.getElem_mem hk)
      simp [Lit.wf, IntKind.min, IntKind.max, IntKind.signed, IntKind.bits] at h1
      refine ⟨l[k].toNat, bl, off, by omega, by rw [he1, hA], ?_⟩
      rw [hc k (.int .u8 l[k]) (by rw [List.getElem?_map, hx]; rfl)]
      congr 2
      omega
    have hmk := make64
    generalize l.length = L at *
    clear hrd hwf
    go_enter Tryd.func8, Tryd.ntmps8
    go_upto_region 3 with (fail)
    go_cut [5, 6] (fun v5 v6 wc => ∃ g1 g2 : Nat, v5 = .slice (some ⟨g1, 0, none⟩) 64 64 ∧ v6 = .slice (some ⟨g2, 0, none⟩) 64 64 ∧ g1 ≠ g2 ∧ w.heap.size ≤ g1 ∧ w.heap.size ≤ g2 ∧ Arr wc g1 (fun _ => 0) ∧ Arr wc g2 (fun _ => 0) ∧ Keep NoF w wc)
    case first =>
      go_region
      all_goals
        go_wp2
        go_meet
        first
          | exact ⟨_, _, rfl, rfl, by omega, by omega, by omega, arr_zeros1 w, arr_zeros2 w, (((Keep.refl NoF w).alloc _).alloc _).drew⟩
          | exact ⟨_, _, rfl, rfl, by omega, by omega, by omega, arr_zeros2 w, arr_zeros1 w, (((Keep.refl NoF w).alloc _).alloc _).drew⟩
    case rest =>
      obtain ⟨g1, g2, rfl, rfl, hne, hg1, hg2, ha1, ha2, hk1⟩ := hcut
      obtain ⟨W1, rfl⟩ : ∃ W1 : World, W1 = wc := ⟨_, rfl⟩
      clear hmk
      go_wp2
      go_loopw [25] (fun i wr => ∃ (x : Nat) (f : Nat → Nat), i = .int .i64 x ∧ x ≤ 64 ∧ Hid (∀ k, k < x → f k = k) ∧ Arr wr g1 f ∧ Arr wr g2 (fun _ => 0) ∧ Keep NoF w wr) (fun i _ => 64 - (intOf i).toNat)
      case atStart => exact ⟨0, _, rfl, by omega, Lib.hid (fun k hk => by omega), ha1, ha2, hk1⟩
      case round =>
        obtain ⟨x, f, rfl, hx, hf, hr1, hr2, hkr⟩ := hrel
        clear ha1 ha2 hk1
        by_cases hlt : x < 64
        · have hc := hr1.cell hlt
          have hz := hr1.frozen x
          go_wp2
          go_roundw
          case rel =>
            refine ⟨x + 1, _, by go_num, by omega, Lib.hid fun k hk => ?_, hr1.set hlt x, hr2.far (Ne.symm hne) _, hkr.setCell (.inr hg1) _⟩
            show (if k = x then x else f k) = k
            by_cases hkx : k = x
            · rw [if_pos hkx, hkx]
            · rw [if_neg hkx, hf.out k (by omega)]
          case measure => simp only [intOf]; omega
        · obtain rfl : x = 64 := by omega
          have hid1 : Arr wr g1 (fun k => k) := hr1.congr fun k hk => hf.out k hk
          have hwr : Keep NoF w wr := hkr
          clear hr1 hkr hf
          go_wp2
          go_loopw [35] (fun i wq => ∃ (x : Nat) (p : Nat → Nat), i = .int .i64 x ∧ x ≤ L ∧ PermF p ∧ Arr wq g1 p ∧ Arr wq g2 (fun _ => 0) ∧ Keep NoF w wq) (fun i _ => L - (intOf i).toNat)
          case atStart => exact ⟨0, _, rfl, by omega, permF_id, hid1, hr2, hwr⟩
          case round =>
            obtain ⟨x, p, rfl, hx, hp, hq1, hq2, hkq⟩ := hrel
            clear hid1 hr2 hwr
            have HP := Lib.hid hp
            clear hp
            by_cases hlt : x < L
            · obtain ⟨b, bl, off, hb, rfl, hc⟩ := HBY.out x hlt
              have hc' := hkq.cellv hc fun h => h
              have hx64 : x < 64 := by omega
              have hj64 : b % 64 < 64 := Nat.mod_lt _ (by omega)
              have hbm : (b : Int) % 64 = ((b % 64 : Nat) : Int) := by omega
              have hci := hq1.cell hx64
              have hcj := hq1.cell hj64
              have hfi := hq1.frozen x
              have hfj := hq1.frozen (b % 64)
              clear hc
              generalize b % 64 = j at *
              have hs2 : (wr.setCell ⟨g1, x, none⟩ (.int .i64 (p j))).cell? ⟨g1, j, none⟩ = some (.int .i64 (p j)) := by
                have := (hq1.set hx64 (p j)).cell hj64
                simpa using this
              have hs3 := (hq1.set hx64 (p j)).frozen j
              have hj0 : (j : Int) < 64 := by omega
              have hx0 : (x : Int) < 64 := by omega
              go_wp2
              go_region
              all_goals
                go_wp2
                go_roundw
                case rel => exact ⟨x + 1, swapF p x j, by go_num, by omega, swapF_perm HP.out hx64 hj64, ((hq1.set hx64 (p j)).set hj64 (p x)).congr (fun k _ => rfl), (hq2.far (Ne.symm hne) _).far (Ne.symm hne) _, ((hkq.setCell (.inr hg1) _).setCell (.inr hg1) _).drew⟩
                case measure => simp only [intOf]; omega
            · obtain rfl : x = L := by omega
              have hwq : Keep NoF w wr := hkq
              have hb2 := hq2
              clear hkq hq2
              go_wp2
              go_loopw [60] (fun i wz => ∃ (y : Nat) (q : Nat → Nat), i = .int .i64 y ∧ y ≤ 64 ∧ Hid (∀ k, k < y → q (p k) = k) ∧ Arr wz g1 p ∧ Arr wz g2 q ∧ Keep NoF w wz) (fun i _ => 64 - (intOf i).toNat)
              case atStart => exact ⟨0, _, rfl, by omega, Lib.hid (fun k hk => by omega), hq1, hb2, hwq⟩
              case round =>
                obtain ⟨y, q, rfl, hy, hq, hz1, hz2, hkz⟩ := hrel
                clear hb2 hwq hq1
                by_cases hlt2 : y < 64
                · have hpy := HP.out.1 y hlt2
                  have hcy := hz1.cell hlt2
                  have hcp := hz2.cell hpy
                  have hfp := hz2.frozen (p y)
                  have HPY := Lib.hid (rfl : p y = p y)
                  obtain ⟨z, hz⟩ : ∃ z, z = p y := ⟨_, rfl⟩
                  rw [← hz] at hpy hcy hcp hfp
                  have HZ := Lib.hid hz
                  clear hz HPY
                  go_wp2
                  go_roundw
                  case rel =>
                    refine ⟨y + 1, _, by go_num, by omega, Lib.hid fun k hk => ?_, hz1.far hne _, hz2.set hpy y, hkz.setCell (.inr hg2) _⟩
                    show (if p k = z then y else q (p k)) = k
                    by_cases hky : k = y
                    · rw [if_pos (by rw [hky, HZ.out]), hky]
                    · rw [if_neg (fun e => hky (HP.out.2 k y (by omega) hlt2 (by rw [e, HZ.out]))), hq.out k (by omega)]
                  case measure => simp only [intOf]; omega
                · obtain rfl : y = 64 := by omega
                  have hqa : ∀ k, k < 64 → q (p k) = k := fun k hk => hq.out k hk
                  have HTT : Hid (∀ w1, Arr w1 g1 p → Tab w1 → Calls Tryd.prog 25 #[.int .u64 s, .slice (some ⟨g1, 0, none⟩) 64 64] w1 fun e w' => e = .returned (.tuple #[.int .u64 (orP p (mem s)), .int .i64 0]) ∧ Keep NoF w1 w') := Lib.hid fun w1 h1 hT => by
                    have := Rename_any s ((List.range 64).map fun k => ((p k : Nat) : Int)) (some ⟨g1, 0, none⟩) 64 w1 hs (by simp) (by simpa using h1.rd) hT
                    rw [renL_orP p _ (by simp) (mem s) 0 fun x hx => ⟨(mem_lt hx).1, HP.out.1 x (mem_lt hx).1, range_getD p (mem_lt hx).1⟩, Nat.zero_or] at this
                    simpa using this
                  have htl : orP p (mem s) < 18446744073709551616 := orP_lt p _ fun x hx => HP.out.1 x (mem_lt hx).1
                  have HUU : Hid (∀ w1, Arr w1 g2 q → Tab w1 → Calls Tryd.prog 25 #[.int .u64 (orP p (mem s)), .slice (some ⟨g2, 0, none⟩) 64 64] w1 fun e w' => e = .returned (.tuple #[.int .u64 s, .int .i64 0]) ∧ Keep NoF w1 w') := Lib.hid fun w1 h1 hT => by
                    have := Rename_any (orP p (mem s)) ((List.range 64).map fun k => ((q k : Nat) : Int)) (some ⟨g2, 0, none⟩) 64 w1 htl (by simp) (by simpa using h1.rd) hT
                    rw [renL_orP q _ (by simp) (mem (orP p (mem s))) 0 fun y hy => ⟨(mem_lt hy).1, by
                      obtain ⟨x, hx, rfl⟩ := (perm_mem HP.out y).1 hy
                      rw [hqa x (mem_lt hx).1]
                      exact (mem_lt hx).1, range_getD q (mem_lt hy).1⟩, Nat.zero_or, perm_back HP.out hs hqa] at this
                    simpa using this
                  have HB1 := Lib.hid (fun w1 => wbits_any (orP p (mem s)) htl w1)
                  rw [perm_len HP.out] at HB1
                  have HB2 := Lib.hid (fun w1 => wbits_any s hs w1)
                  have hmm := mem_len s
                  clear hqa hq
                  generalize orP p (mem s) = t at *
                  generalize (mem s).length = n at *
                  go_wp2_with (first
                    | (go_at_call 25; (with_reducible refine (HTT.out wr hz1 (ht.keep0 hkz)).mono ?_); rintro e w5 ⟨rfl, hk5⟩; have K5 := Lib.hid (hkz.trans hk5 fun _ _ h => h); have A5 := Lib.hid (hz2.keep hk5 fun h => h))
                    | (go_at_call 25; (with_reducible refine (HUU.out w5 A5.out (ht.keep0 K5.out)).mono ?_); rintro e w6 ⟨rfl, hk6⟩; have K6 := Lib.hid (K5.out.trans hk6 fun _ _ h => h))
                    | (go_at_call 31; (with_reducible refine (HB1.out _).mono ?_); rintro e w' ⟨rfl, hw'⟩; obtain rfl := hw'.symm)
                    | (go_at_call 31; (with_reducible refine (HB2.out _).mono ?_); rintro e w' ⟨rfl, hw'⟩; obtain rfl := hw'.symm)
                    | (go_at_call 11; (with_reducible refine (awake_any w6 (ht.keep0 K6.out)).mono ?_); rintro e w7 ⟨rfl, hk7⟩))
                  go_ret
                  exact ⟨rfl, K6.out.trans hk7 fun _ _ h => h⟩
end
end Go.Proofs.YtckmhngcnimmdaaDoor
