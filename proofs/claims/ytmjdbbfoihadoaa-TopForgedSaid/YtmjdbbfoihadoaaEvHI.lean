/- What model.Group and model.Meet do in a valid model. Conditions: the group is not empty and is in range. What model.Group and model.Meet do in a valid model. Conditions: the group is not empty and is in range. No condition. -/
import Derived.Test.YtmjdbbfoihadoaaEvF
import Derived.Test.YtmjdbbfoihadoaaEvAC
import Derived.Test.YtmjdbbfoihadoaaApps
import Derived.Lib.SliceRun
import Derived.Deep.RegionWith
import Derived.Deep.Cut
set_option linter.unusedVariables false
set_option linter.unusedSimpArgs false
namespace Go.Proofs.Ytmjdbbfoihadoaa
open Go.RowKit
open Ev
attribute [local go_sem] Oper.semAt_some
theorem nil_u6 (a : Option Addr) (n c : Nat) (w : World) : (binOp .eql 22 (.slice a n c) (.slice none 0 0)).run Try.prog w = .ok (.bool a.isNone) w := Lib.run_eql_slice_nil w 22 38 a n c 0 0 Try.underlying22
theorem infoU6 : (Try.prog.info? 38).map (fun i => (i.zero, i.size, i.bytes)) = some (some (.int .u64 0), 1, 8) := by kernel_rfl
theorem eU6 : ElemT Try.prog 22 38 (.int .u64 0) 1 8 := ⟨Try.underlying22, info_parts infoU6, rfl, by omega⟩
theorem u6_len (l : List Nat) : (u6 l).length = l.length := by simp [u6]
theorem u6_one (l : List Nat) : ∀ u ∈ u6 l, u.oneCell' = true := by
  intro u hu
  obtain ⟨x, _, rfl⟩ := List.mem_map.1 hu
  rfl
theorem joinR_snoc (J : Nat → Nat → Nat) : ∀ (l : List (List Nat)) (r : List Nat) (a g : Nat) (o : Option (List Nat)), joinR J (l ++ [r]) a g o = if g.testBit (a + l.length) = true then some (match joinR J l a g o with | none => r | some x => List.zipWith J x r) else joinR J l a g o
  | [], r, a, g, o => by
    simp only [joinR, List.nil_append, List.length_nil, Nat.add_zero]
    cases o <;> rfl
  | r' :: l, r, a, g, o => by
    rw [List.cons_append]
    unfold joinR
    rw [joinR_snoc J l r, List.length_cons, show a + 1 + l.length = a + (l.length + 1) by omega]
theorem joinR_take (J : Nat → Nat → Nat) {R : List (List Nat)} {k g : Nat} (hk : k < R.length) : joinR J (R.take (k + 1)) 0 g none = if g.testBit k = true then some (match joinR J (R.take k) 0 g none with | none => R.getD k [] | some x => List.zipWith J x (R.getD k [])) else joinR J (R.take k) 0 g none := by
  have e : R.take (k + 1) = R.take k ++ [R.getD k []] := by
    rw [List.take_succ_eq_append_getElem hk, List.getD_eq_getElem?_getD, List.getElem?_eq_getElem hk]; rfl
  rw [e, joinR_snoc, List.length_take, Nat.zero_add, Nat.min_eq_left (by omega)]
theorem and1_small {m : Nat} (hm : m < 256) : bits .and .i64 (m : Int) 1 = ((m % 2 : Nat) : Int) := by
  have h1 : (BitVec.ofInt 64 (m : Int)).toNat = m := by
    rw [BitVec.ofInt_natCast, BitVec.toNat_ofNat]; exact Nat.mod_eq_of_lt (by omega)
  have h2 : (BitVec.ofInt 64 (1 : Int)).toNat = 1 := by decide
  show IntKind.i64.wrap ((BitVec.ofInt 64 (m : Int) &&& BitVec.ofInt 64 (1 : Int)).toNat : Int) = _
  rw [BitVec.toNat_and, h1, h2, IntKind.wrap_i64, Nat.and_one_is_mod]
  omega
theorem gbit0 {g j : Nat} (hg : g < 256) : (bits .and .i64 ((g : Int) / 2 ^ j) 1 == 0) = !g.testBit j := by
  have e : (g : Int) / 2 ^ j = ((g / 2 ^ j : Nat) : Int) := by simp
  have hlt : g / 2 ^ j < 256 := Nat.lt_of_le_of_lt (Nat.div_le_self _ _) hg
  rw [e, and1_small hlt, Nat.testBit_eq_decide_div_mod_eq]
  rcases Nat.mod_two_eq_zero_or_one (g / 2 ^ j) with h | h <;> rw [h] <;> rfl
theorem gbit1 {g j : Nat} (hg : g < 256) : (bits .and .i64 ((g : Int) / 2 ^ j) 1 == 1) = g.testBit j := by
  have e : (g : Int) / 2 ^ j = ((g / 2 ^ j : Nat) : Int) := by simp
  have hlt : g / 2 ^ j < 256 := Nat.lt_of_le_of_lt (Nat.div_le_self _ _) hg
  rw [e, and1_small hlt, Nat.testBit_eq_decide_div_mod_eq]
  rcases Nat.mod_two_eq_zero_or_one (g / 2 ^ j) with h | h <;> rw [h] <;> rfl
theorem own_bkE {w : World} {base n size : Nat} {e : TypeId} {v : Value} {xs : List Value} (h : w.ownsRow base e size v n xs) (hn : 0 < n) : ∃ g cap cur, v = .slice (some ⟨g, 0, none⟩) n cap ∧ base ≤ g ∧ Bk w g e cur ∧ n ≤ cap := by
  rcases h.2 with ⟨_, h1⟩ | ⟨g, cap, cur, h1, h2, h3, h4, _⟩
  · omega
  · exact ⟨g, cap, cur, h1, h2, h3, h4⟩
section
set_option maxRecDepth 100000
set_option maxHeartbeats 1000000
theorem slClone_any (l : List Nat) (hp : 0 < l.length) (hl : l.length ≤ 1000) (A : Option Addr) (c : Nat) (w : World) (hrd : Rd w (.slice A l.length c) 1 l.length (u6 l)) :
    Calls Try.prog 68 #[.slice A l.length c] w fun e w' => ∃ g cap, e = .returned (.slice (some ⟨g, 0, none⟩) l.length cap) ∧ w'.ownsRow w.heap.size 38 1 (.slice (some ⟨g, 0, none⟩) l.length cap) l.length (u6 l) ∧ Keep NoF w w' := by
  obtain ⟨_, hc, bl, off, rfl, _⟩ := hrd.nat_lt hp
  have HRD := Lib.hid hrd
  have HO : Hid ((w.alloc (.cells #[] 38)).ownsRow w.heap.size 38 1 (.slice (some ⟨w.heap.size, 0, none⟩) 0 0) 0 []) := Lib.hid ⟨rfl, .inr ⟨w.heap.size, 0, #[], rfl, Nat.le_refl _, Bk.new w _ _, Nat.le_refl _, by unfold maxLen; omega, rfl, rfl⟩⟩
  have hrd2 := hrd.kept (show Keep NoF w (w.alloc (.cells #[] 38)) from (Keep.refl _ _).alloc _) fun _ _ h => h
  have HR2 := Lib.hid hrd2
  have HK0 : Hid (Keep NoF w (w.alloc (.cells #[] 38))) := Lib.hid ((Keep.refl _ _).alloc _)
  clear hrd hrd2
  have hnil := nil_u6 (some ⟨bl, off, none⟩) l.length c
  go_enter Try.func68, Try.ntmps68
  go_wp2_with (first
    | (at_builtin
       refine wpList_apps ?_ eU6 (.tmp 5) (.tmp 6) ?_ ?_ HO.out (some ⟨bl, off, none⟩) l.length c (u6 l) ?_ HR2.out (u6_one l) ?_ ?_ ?_ ?_
       · rfl
       · rfl
       · rfl
       · rfl
       · omega
       · omega
       · simp
       intro v1 w1 hown1 hg1))
  rw [Nat.zero_add, List.nil_append] at hown1
  obtain ⟨g, cap, cur, rfl, h1, h2, h3⟩ := own_bkE hown1 hp
  go_ret
  exact ⟨g, cap, rfl, hown1, HK0.out.grown hg1 fun k hk => by cases hk; exact .inr (Nat.le_refl _)⟩
theorem and_natH {a b : Nat} (ha : a < 18446744073709551616) (hb : b < 18446744073709551616) : bits .and .u64 (a : Int) (b : Int) = ((a &&& b : Nat) : Int) := bits_and_u64_nat _ _ ha hb
theorem or_natH {a b : Nat} (ha : a < 18446744073709551616) (hb : b < 18446744073709551616) : bits .or .u64 (a : Int) (b : Int) = ((a ||| b : Nat) : Int) := bits_or_u64_nat _ _ ha hb
theorem moMeet1_any (a b : Nat) (ha : a < 18446744073709551616) (hb : b < 18446744073709551616) (w : World) : Calls Try.prog 56 #[.int .u64 (a : Int), .int .u64 (b : Int)] w fun e w' => e = .returned (.int .u64 ((a &&& b : Nat) : Int)) ∧ w' = w := by
  have hv := and_natH (a := a) (b := b) ha hb
  generalize a &&& b = c at *
  go_enter Try.func56, Try.ntmps56
  go_wp2
  go_ret
  exact ⟨rfl, rfl⟩
theorem moGroup1_any (a b : Nat) (ha : a < 18446744073709551616) (hb : b < 18446744073709551616) (w : World) : Calls Try.prog 57 #[.int .u64 (a : Int), .int .u64 (b : Int)] w fun e w' => e = .returned (.int .u64 ((a ||| b : Nat) : Int)) ∧ w' = w := by
  have hv := or_natH (a := a) (b := b) ha hb
  generalize a ||| b = c at *
  go_enter Try.func57, Try.ntmps57
  go_wp2
  go_ret
  exact ⟨rfl, rfl⟩
end
end Go.Proofs.Ytmjdbbfoihadoaa
namespace Go.Proofs.Ytmjdbbfoihadoaa
open Go.RowKit
open Ev
attribute [local go_sem] Oper.semAt_some
theorem pow4 {n : Nat} (h : n ≤ 4) : wrap64 ((2 : Int) ^ n) = ((2 ^ n : Nat) : Int) := by
  have : n = 0 ∨ n = 1 ∨ n = 2 ∨ n = 3 ∨ n = 4 := by omega
  rcases this with rfl | rfl | rfl | rfl | rfl <;> simp [wrap64]
def OutI (base n : Nat) (w : World) (v : Value) : Option (List Nat) → Prop
  | none => v = .slice none 0 0
  | some y => ∃ gg cap, v = .slice (some ⟨gg, 0, none⟩) n cap ∧ y.length = n ∧ w.ownsRow base 38 1 v n (u6 y) ∧ ∀ k : Nat, y.getD k 0 < 18446744073709551616
theorem zip_lt {J : Nat → Nat → Nat} (hJ : ∀ a b, a < 18446744073709551616 → b < 18446744073709551616 → J a b < 18446744073709551616) {x r : List Nat} {n : Nat} (hx : x.length = n) (hr : r.length = n) (h1 : ∀ k, x.getD k 0 < 18446744073709551616) (h2 : ∀ k, r.getD k 0 < 18446744073709551616) : ∀ k, (List.zipWith J x r).getD k 0 < 18446744073709551616 := fun k => by
  by_cases hk : k < n
  · rw [zip_getD J hx hr hk]
    exact hJ _ _ (h1 k) (h2 k)
  · rw [List.getD_eq_getElem?_getD, List.getElem?_eq_none (by rw [List.length_zipWith]; omega)]
    decide
theorem own_setE {w : World} {base n cap g : Nat} {e : TypeId} {xs : List Value} (h : w.ownsRow base e 1 (.slice (some ⟨g, 0, none⟩) n cap) n xs) (i : Nat) (u : Value) : (w.setCell ⟨g, i, none⟩ u).ownsRow base e 1 (.slice (some ⟨g, 0, none⟩) n cap) n (xs.set i u) := by
  refine ⟨by rw [List.length_set]; exact h.1, .inr ?_⟩
  rcases h.2 with ⟨h1, _⟩ | ⟨g', cap', cur, h1, h2, h3, h4, h5, h6, h7⟩
  · cases h1
  · obtain ⟨rfl, rfl⟩ : g = g' ∧ cap = cap' := by cases h1; exact ⟨rfl, rfl⟩
    have hb : Bk w g e cur := h3
    refine ⟨g, cap, cur.setIfInBounds i u, rfl, h2, hb.put i u, h4, h5, by rw [Array.size_setIfInBounds]; exact h6, ?_⟩
    rw [Array.toList_setIfInBounds, List.take_set, h7]
theorem own_bkG {w : World} {base n m cap size g : Nat} {e : TypeId} {xs : List Value} (h : w.ownsRow base e size (.slice (some ⟨g, 0, none⟩) m cap) n xs) (hn : 0 < n) : base ≤ g ∧ ∃ cur, Bk w g e cur := by
  obtain ⟨g', cap', cur, e1, h0, h1, _⟩ := own_bkE h hn
  injection e1 with e2
  injection e2 with e3
  injection e3 with e4
  exact ⟨e4 ▸ h0, cur, e4 ▸ h1⟩
theorem u6_set (l : List Nat) (k v : Nat) : (u6 l).set k (.int .u64 (v : Int)) = u6 (l.set k v) := by unfold u6; rw [List.map_set]
theorem own_baseE {w : World} {b b' n size : Nat} {e : TypeId} {v : Value} {xs : List Value} (h : w.ownsRow b e size v n xs) (hb : b' ≤ b) : w.ownsRow b' e size v n xs := by
  refine ⟨h.1, ?_⟩
  rcases h.2 with h2 | ⟨g, cap, cur, h1, h2, h3⟩
  · exact .inl h2
  · exact .inr ⟨g, cap, cur, h1, by omega, h3⟩
theorem step_list {α : Type} {z x : List α} {k : Nat} {v : α} (hz : z.length = x.length) (hk : k < x.length) (hv : z[k]? = some v) : (z.take k ++ x.drop k).set k v = z.take (k + 1) ++ x.drop (k + 1) := by
  obtain ⟨hlt, rfl⟩ := List.getElem?_eq_some_iff.1 hv
  rw [List.drop_eq_getElem_cons hk, List.set_append_right _ _ (by rw [List.length_take]; omega), List.length_take, Nat.min_eq_left (by omega), Nat.sub_self, List.set_cons_zero, List.take_succ_eq_append_getElem hlt, List.append_assoc]
  rfl
section
set_option maxRecDepth 100000
set_option maxHeartbeats 2000000
theorem gather_moMeet {M : Md} {va ra : Option Addr} {cv cr : Nat} {rs : List (Option Addr × Nat)} (w : World) (hM : MdR w M va cv ra cr rs) (hok : Okm M) {g : Nat} (h1 : 1 ≤ g) (h2 : g < 2 ^ M.R.length) :
    Calls Try.prog 55 #[.agg #[.int .i64 M.W, .slice va M.V.length cv, .slice ra M.R.length cr], .int .i64 (g : Int), .func (.func 56) #[] #[]] w fun e w' => ∃ gg cap, e = .returned (.slice (some ⟨gg, 0, none⟩) M.n cap) ∧ w'.ownsRow w.heap.size 38 1 (.slice (some ⟨gg, 0, none⟩) M.n cap) M.n (u6 (grpN (· &&& ·) M.R g)) ∧ Keep NoF w w' := by
  have k0 : Keep NoF w (w.alloc (.cells #[.int .i64 M.W, .slice va M.V.length cv, .slice ra M.R.length cr] 25)) := (Keep.refl _ _).alloc _
  have b0 := Bk.new w 25 #[.int .i64 M.W, .slice va M.V.length cv, .slice ra M.R.length cr]
  have hm0 := (model_zero hM.u).2 hok
  have HC : Hid (Calls Try.prog 23 #[.agg #[.int .i64 M.W, .slice va M.V.length cv, .slice ra M.R.length cr]] (w.alloc (.cells #[.int .i64 M.W, .slice va M.V.length cv, .slice ra M.R.length cr] 25)) fun e w' => e = .returned (.int .i64 0) ∧ Keep NoF (w.alloc (.cells #[.int .i64 M.W, .slice va M.V.length cv, .slice ra M.R.length cr] 25)) w') := Lib.hid (by have := moCheck_any _ (hM.keep k0); rwa [hm0] at this)
  have hrl := hok.rl
  have hn := hok.n1
  have hg16 : g < 256 := Nat.lt_of_lt_of_le h2 (Nat.le_trans (Nat.pow_le_pow_right (n := 2) (by omega) hrl) (by decide))
  have hpw := pow4 hrl
  have hge : ¬ wrap64 ((2 : Int) ^ M.R.length) ≤ (g : Int) := by
    rw [hpw]
    omega
  have hl1 : ¬ (g : Int) < 1 := by omega
  have hd1 : decide ((g : Int) < 1) = false := decide_eq_false hl1
  have hd2 : decide (wrap64 ((2 : Int) ^ M.R.length) ≤ (g : Int)) = false := decide_eq_false hge
  obtain ⟨y, hy, hye, hyl⟩ := grp_some hok h1 h2 (· &&& ·)
  have HY := Lib.hid hy
  rw [hye]
  have HM := Lib.hid hM
  have HOK := Lib.hid hok
  have HB := Lib.hid b0
  have HG : Hid (∀ j : Nat, (bits .and .i64 ((g : Int) / 2 ^ j) 1 == 0) = !g.testBit j) := Lib.hid fun j => gbit0 hg16
  have hn1 : 1 ≤ M.n := hn.1
  have hn64 : M.n ≤ 64 := hn.2.1
  clear hM hok b0 hm0 h1 h2 hy hye hpw hn hg16
  go_enter Try.func55, Try.ntmps55
  go_upto_region 1 with (fail)
  generalize w.alloc (.cells #[.int .i64 M.W, .slice va M.V.length cv, .slice ra M.R.length cr] 25) = W0 at *
  have s0 : W0.cell? ⟨w.heap.size, 0, none⟩ = some (.int .i64 M.W) := HB.out.cell 0
  have s1 : W0.cell? ⟨w.heap.size, 1, none⟩ = some (.slice va M.V.length cv) := HB.out.cell 1
  have s2 : W0.cell? ⟨w.heap.size, 2, none⟩ = some (.slice ra M.R.length cr) := HB.out.cell 2
  go_wp2_with (first
    | (go_at_call 23; (with_reducible refine HC.out.mono ?_); rintro e w1 ⟨rfl, k1⟩; have t2 : w1.cell? ⟨w.heap.size, 2, none⟩ = some (.slice ra M.R.length cr) := k1.cellv s2 fun h => h))
  clear hge hl1 hd1 hd2 s0 s1 s2 t2 HC
  have hz1 : w.heap.size ≤ w1.heap.size := (k0.trans k1 fun _ _ h => h).size
  have HKK := Lib.hid (k0.trans k1 fun _ _ h => h)
  clear k1
  go_loopw [7, 29] (fun t v wr => ∃ j : Nat, v = .int .i64 (j : Int) ∧ j ≤ M.R.length ∧ OutI w1.heap.size M.n wr t (joinR (· &&& ·) (M.R.take j) 0 g none) ∧ Keep NoF w1 wr) (fun _ v _ => M.R.length - (intOf v).toNat)
  case atStart => exact ⟨0, rfl, by omega, rfl, Keep.refl _ _⟩
  case round =>
    obtain ⟨j, rfl, hj, HO, hkw⟩ := hrel
    by_cases hlt : j < M.R.length
    · have kwr := HKK.out.trans hkw fun _ _ h => h
      obtain ⟨bl, off, A, c, rfl, hcr, hc0, hrd0, _⟩ := HM.out.at_ hlt
      have hc := kwr.cellv hc0 fun h => h
      have hrd := hrd0.kept kwr fun _ _ h => h
      have hlt' : (j : Int) < (M.R.length : Int) := by omega
      have hbit := HG.out j
      have hjt := joinR_take (· &&& ·) (g := g) hlt
      have hrl2 : (M.R.getD j []).length = M.n := HOK.out.len _ (getD_memR hlt)
      have hb1 : (0 : Int) ≤ (j : Int) := by omega
      have hb2 : (j : Int) < 64 := by omega
      have hb3 : ¬ (j : Int) < 0 := by omega
      have HLT64 : Hid (∀ k : Nat, (M.R.getD j []).getD k 0 < 18446744073709551616) := Lib.hid fun k => Ev.lt64 hn64 (Ev.row_lt HOK.out j k)
      generalize hr : M.R.getD j [] = r at *
      have HRR := Lib.hid hr
      clear hr
      rw [hrl2] at hc
      have HRD0 := Lib.hid hrd0
      clear hc0 hrd0
      cases htb : g.testBit j with
      | false =>
        rw [htb] at hbit hjt
        have HJT := Lib.hid hjt
        clear hjt htb hrl2 hrd
        have hbit2 : (bits .and .i64 ((g : Int) / 2 ^ j) 1 == 0) = true := hbit
        clear hbit
        go_wp2
        go_roundw
        case rel => exact ⟨j + 1, by go_num, by omega, by rw [HJT.out]; exact HO, hkw⟩
        case measure => simp only [intOf]; omega
      | true =>
        rw [htb, if_pos rfl] at hjt
        rw [htb] at hbit
        have hbit2 : (bits .and .i64 ((g : Int) / 2 ^ j) 1 == 0) = false := hbit
        clear hbit htb
        cases ho : joinR (· &&& ·) (M.R.take j) 0 g none with
        | none =>
          rw [ho] at HO hjt
          obtain rfl := HO
          have HJT := Lib.hid hjt
          have HCL := Lib.hid (slClone_any r (by omega) (by omega) A c wr hrd)
          rw [hrl2] at HCL
          clear hjt hrd ho
          have hnil := nil_u6 none 0 0
          go_wp2_with (first
            | (go_at_call 68; (with_reducible refine HCL.out.mono ?_); rintro e w2 ⟨gg, cap, rfl, hown, k2⟩))
          go_roundw
          case rel => exact ⟨j + 1, by go_num, by omega, by rw [HJT.out]; exact ⟨gg, cap, rfl, hrl2, own_baseE hown hkw.size, HLT64.out⟩, hkw.trans k2 fun _ _ h => h⟩
          case measure => simp only [intOf]; omega
        | some x =>
          rw [ho] at HO hjt
          obtain ⟨gg, cap, rfl, hxl, hown, hx64⟩ := HO
          have HJT := Lib.hid hjt
          have HRD := Lib.hid hrd
          have HX64 := Lib.hid hx64
          clear hjt hrd ho hx64
          have hnil := nil_u6 (some ⟨gg, 0, none⟩) M.n cap
          have hzl : (List.zipWith (· &&& ·) x r).length = M.n := by rw [List.length_zipWith]; omega
          go_wp2
          go_loopw [45] (fun v wq => ∃ k : Nat, v = .int .i64 (k : Int) ∧ k ≤ M.n ∧ Hid (wq.ownsRow w1.heap.size 38 1 (.slice (some ⟨gg, 0, none⟩) M.n cap) M.n (u6 ((List.zipWith (· &&& ·) x r).take k ++ x.drop k))) ∧ Keep NoF w1 wq) (fun v _ => M.n - (intOf v).toNat)
          case atStart => exact ⟨0, rfl, by omega, Lib.hid hown, hkw⟩
          case round =>
            obtain ⟨k, rfl, hk, HOW, hkq⟩ := hrel
            by_cases hlk : k < M.n
            · have hlk' : (k : Int) < (M.n : Int) := by omega
              have hk0 : (0 : Int) ≤ (k : Int) := by omega
              have hxk : x[k]? = some (x.getD k 0) := by rw [List.getElem?_eq_getElem (show k < x.length by omega), List.getD_eq_getElem?_getD, List.getElem?_eq_getElem (show k < x.length by omega)]; rfl
              have hat : wr.cell? ⟨gg, k, none⟩ = some (.int .u64 (x.getD k 0 : Nat)) := by
                have := HOW.out.cells (g := gg) rfl k (.int .u64 (x.getD k 0 : Nat)) (by
                  unfold u6
                  rw [List.getElem?_map, List.getElem?_append_right (by rw [List.length_take]; omega), List.length_take, Nat.min_eq_left (by omega), Nat.sub_self, List.getElem?_drop, Nat.add_zero, hxk]; rfl)
                rwa [Addr.add_lit, Nat.zero_add] at this
              obtain ⟨_, hcA, bl2, off2, rfl, hrk⟩ := (HRD0.out.kept (HKK.out.trans hkq fun _ _ h => h) fun _ _ h => h).nat_lt (show k < r.length by omega)
              obtain ⟨hgb, cur, hbk⟩ := own_bkG HOW.out (by omega)
              have hfz := hbk.frozen k
              have hgl := hbk.lt
              have HJ := Lib.hid fun W : World => moMeet1_any (x.getD k 0) (r.getD k 0) (HX64.out k) (HLT64.out k) W
              have HZ : Hid (u6 ((List.zipWith (· &&& ·) x r).take (k + 1) ++ x.drop (k + 1)) = (u6 ((List.zipWith (· &&& ·) x r).take k ++ x.drop k)).set k (.int .u64 ((x.getD k 0 &&& r.getD k 0 : Nat) : Int))) := Lib.hid (by
                rw [u6_set, step_list (by omega) (by omega)]
                rw [List.getElem?_eq_getElem (by omega)]
                have := zip_getD (· &&& ·) hxl hrl2 hlk
                rw [List.getD_eq_getElem?_getD, List.getElem?_eq_getElem (by omega)] at this
                exact congrArg some this)
              clear hxk
              generalize x.getD k 0 &&& r.getD k 0 = q at *
              generalize x.getD k 0 = xk at *
              generalize r.getD k 0 = rk at *
              go_wp2
              go_region_with (first
                | (go_at_call 56; (with_reducible refine (HJ.out _).mono ?_); rintro e w5 ⟨rfl, hw5⟩; obtain rfl := hw5.symm))
              all_goals
                go_wp2
                go_roundw
                case rel => exact ⟨k + 1, by go_num, by omega, Lib.hid (by rw [HZ.out]; exact own_setE (own_keep HOW.out fun _ _ => rfl) k _), (hkq.drewN _).setCell (.inr hgb) _⟩
                case measure => simp only [intOf]; omega
            · obtain rfl : k = M.n := by omega
              have hlk' : ¬ (M.n : Int) < (M.n : Int) := by omega
              have HF : Hid ((List.zipWith (· &&& ·) x r).take M.n ++ x.drop M.n = List.zipWith (· &&& ·) x r) := Lib.hid (by rw [List.take_of_length_le (by omega), List.drop_of_length_le (by omega), List.append_nil])
              go_wp2
              go_roundw
              case rel => exact ⟨j + 1, by go_num, by omega, by rw [HJT.out]; exact ⟨gg, cap, rfl, hzl, by have := HOW.out; rwa [HF.out] at this, zip_lt (fun a b ha _ => Nat.lt_of_le_of_lt Nat.and_le_left ha) hxl hrl2 HX64.out HLT64.out⟩, hkq⟩
              case measure => simp only [intOf]; omega
    · obtain rfl : j = M.R.length := by omega
      have hlt' : ¬ (M.R.length : Int) < (M.R.length : Int) := by omega
      rw [List.take_length, HY.out] at HO
      obtain ⟨gg, cap, rfl, _, hown, _⟩ := HO
      go_wp2
      go_ret
      exact ⟨gg, cap, rfl, own_baseE hown hz1, HKK.out.trans hkw fun _ _ h => h⟩
theorem moMeet_any {M : Md} {va ra : Option Addr} {cv cr : Nat} {rs : List (Option Addr × Nat)} (w : World) (hM : MdR w M va cv ra cr rs) (hok : Okm M) {g : Nat} (h1 : 1 ≤ g) (h2 : g < 2 ^ M.R.length) :
    Calls Try.prog 28 #[.agg #[.int .i64 M.W, .slice va M.V.length cv, .slice ra M.R.length cr], .int .i64 (g : Int)] w fun e w' => ∃ gg cap, e = .returned (.slice (some ⟨gg, 0, none⟩) M.n cap) ∧ w'.ownsRow w.heap.size 38 1 (.slice (some ⟨gg, 0, none⟩) M.n cap) M.n (u6 (grpN (· &&& ·) M.R g)) ∧ Keep NoF w w' := by
  have k0 : Keep NoF w (w.alloc (.cells #[.int .i64 M.W, .slice va M.V.length cv, .slice ra M.R.length cr] 25)) := (Keep.refl _ _).alloc _
  have HG := Lib.hid (gather_moMeet _ (hM.keep k0) hok h1 h2)
  clear hM hok h1 h2
  go_enter Try.func28, Try.ntmps28
  go_wp2_with (first
    | (go_at_call 55; (with_reducible refine HG.out.mono ?_); rintro e w2 ⟨gg, cap, rfl, hown, k2⟩))
  go_ret
  exact ⟨gg, cap, rfl, own_baseE hown k0.size, k0.trans k2 fun _ _ h => h⟩
theorem gather_moGroup {M : Md} {va ra : Option Addr} {cv cr : Nat} {rs : List (Option Addr × Nat)} (w : World) (hM : MdR w M va cv ra cr rs) (hok : Okm M) {g : Nat} (h1 : 1 ≤ g) (h2 : g < 2 ^ M.R.length) :
    Calls Try.prog 55 #[.agg #[.int .i64 M.W, .slice va M.V.length cv, .slice ra M.R.length cr], .int .i64 (g : Int), .func (.func 57) #[] #[]] w fun e w' => ∃ gg cap, e = .returned (.slice (some ⟨gg, 0, none⟩) M.n cap) ∧ w'.ownsRow w.heap.size 38 1 (.slice (some ⟨gg, 0, none⟩) M.n cap) M.n (u6 (grpN (· ||| ·) M.R g)) ∧ Keep NoF w w' := by
  have k0 : Keep NoF w (w.alloc (.cells #[.int .i64 M.W, .slice va M.V.length cv, .slice ra M.R.length cr] 25)) := (Keep.refl _ _).alloc _
  have b0 := Bk.new w 25 #[.int .i64 M.W, .slice va M.V.length cv, .slice ra M.R.length cr]
  have hm0 := (model_zero hM.u).2 hok
  have HC : Hid (Calls Try.prog 23 #[.agg #[.int .i64 M.W, .slice va M.V.length cv, .slice ra M.R.length cr]] (w.alloc (.cells #[.int .i64 M.W, .slice va M.V.length cv, .slice ra M.R.length cr] 25)) fun e w' => e = .returned (.int .i64 0) ∧ Keep NoF (w.alloc (.cells #[.int .i64 M.W, .slice va M.V.length cv, .slice ra M.R.length cr] 25)) w') := Lib.hid (by have := moCheck_any _ (hM.keep k0); rwa [hm0] at this)
  have hrl := hok.rl
  have hn := hok.n1
  have hg16 : g < 256 := Nat.lt_of_lt_of_le h2 (Nat.le_trans (Nat.pow_le_pow_right (n := 2) (by omega) hrl) (by decide))
  have hpw := pow4 hrl
  have hge : ¬ wrap64 ((2 : Int) ^ M.R.length) ≤ (g : Int) := by
    rw [hpw]
    omega
  have hl1 : ¬ (g : Int) < 1 := by omega
  have hd1 : decide ((g : Int) < 1) = false := decide_eq_false hl1
  have hd2 : decide (wrap64 ((2 : Int) ^ M.R.length) ≤ (g : Int)) = false := decide_eq_false hge
  obtain ⟨y, hy, hye, hyl⟩ := grp_some hok h1 h2 (· ||| ·)
  have HY := Lib.hid hy
  rw [hye]
  have HM := Lib.hid hM
  have HOK := Lib.hid hok
  have HB := Lib.hid b0
  have HG : Hid (∀ j : Nat, (bits .and .i64 ((g : Int) / 2 ^ j) 1 == 0) = !g.testBit j) := Lib.hid fun j => gbit0 hg16
  have hn1 : 1 ≤ M.n := hn.1
  have hn64 : M.n ≤ 64 := hn.2.1
  clear hM hok b0 hm0 h1 h2 hy hye hpw hn hg16
  go_enter Try.func55, Try.ntmps55
  go_upto_region 1 with (fail)
  generalize w.alloc (.cells #[.int .i64 M.W, .slice va M.V.length cv, .slice ra M.R.length cr] 25) = W0 at *
  have s0 : W0.cell? ⟨w.heap.size, 0, none⟩ = some (.int .i64 M.W) := HB.out.cell 0
  have s1 : W0.cell? ⟨w.heap.size, 1, none⟩ = some (.slice va M.V.length cv) := HB.out.cell 1
  have s2 : W0.cell? ⟨w.heap.size, 2, none⟩ = some (.slice ra M.R.length cr) := HB.out.cell 2
  go_wp2_with (first
    | (go_at_call 23; (with_reducible refine HC.out.mono ?_); rintro e w1 ⟨rfl, k1⟩; have t2 : w1.cell? ⟨w.heap.size, 2, none⟩ = some (.slice ra M.R.length cr) := k1.cellv s2 fun h => h))
  clear hge hl1 hd1 hd2 s0 s1 s2 t2 HC
  have hz1 : w.heap.size ≤ w1.heap.size := (k0.trans k1 fun _ _ h => h).size
  have HKK := Lib.hid (k0.trans k1 fun _ _ h => h)
  clear k1
  go_loopw [7, 29] (fun t v wr => ∃ j : Nat, v = .int .i64 (j : Int) ∧ j ≤ M.R.length ∧ OutI w1.heap.size M.n wr t (joinR (· ||| ·) (M.R.take j) 0 g none) ∧ Keep NoF w1 wr) (fun _ v _ => M.R.length - (intOf v).toNat)
  case atStart => exact ⟨0, rfl, by omega, rfl, Keep.refl _ _⟩
  case round =>
    obtain ⟨j, rfl, hj, HO, hkw⟩ := hrel
    by_cases hlt : j < M.R.length
    · have kwr := HKK.out.trans hkw fun _ _ h => h
      obtain ⟨bl, off, A, c, rfl, hcr, hc0, hrd0, _⟩ := HM.out.at_ hlt
      have hc := kwr.cellv hc0 fun h => h
      have hrd := hrd0.kept kwr fun _ _ h => h
      have hlt' : (j : Int) < (M.R.length : Int) := by omega
      have hbit := HG.out j
      have hjt := joinR_take (· ||| ·) (g := g) hlt
      have hrl2 : (M.R.getD j []).length = M.n := HOK.out.len _ (getD_memR hlt)
      have hb1 : (0 : Int) ≤ (j : Int) := by omega
      have hb2 : (j : Int) < 64 := by omega
      have hb3 : ¬ (j : Int) < 0 := by omega
      have HLT64 : Hid (∀ k : Nat, (M.R.getD j []).getD k 0 < 18446744073709551616) := Lib.hid fun k => Ev.lt64 hn64 (Ev.row_lt HOK.out j k)
      generalize hr : M.R.getD j [] = r at *
      have HRR := Lib.hid hr
      clear hr
      rw [hrl2] at hc
      have HRD0 := Lib.hid hrd0
      clear hc0 hrd0
      cases htb : g.testBit j with
      | false =>
        rw [htb] at hbit hjt
        have HJT := Lib.hid hjt
        clear hjt htb hrl2 hrd
        have hbit2 : (bits .and .i64 ((g : Int) / 2 ^ j) 1 == 0) = true := hbit
        clear hbit
        go_wp2
        go_roundw
        case rel => exact ⟨j + 1, by go_num, by omega, by rw [HJT.out]; exact HO, hkw⟩
        case measure => simp only [intOf]; omega
      | true =>
        rw [htb, if_pos rfl] at hjt
        rw [htb] at hbit
        have hbit2 : (bits .and .i64 ((g : Int) / 2 ^ j) 1 == 0) = false := hbit
        clear hbit htb
        cases ho : joinR (· ||| ·) (M.R.take j) 0 g none with
        | none =>
          rw [ho] at HO hjt
          obtain rfl := HO
          have HJT := Lib.hid hjt
          have HCL := Lib.hid (slClone_any r (by omega) (by omega) A c wr hrd)
          rw [hrl2] at HCL
          clear hjt hrd ho
          have hnil := nil_u6 none 0 0
          go_wp2_with (first
            | (go_at_call 68; (with_reducible refine HCL.out.mono ?_); rintro e w2 ⟨gg, cap, rfl, hown, k2⟩))
          go_roundw
          case rel => exact ⟨j + 1, by go_num, by omega, by rw [HJT.out]; exact ⟨gg, cap, rfl, hrl2, own_baseE hown hkw.size, HLT64.out⟩, hkw.trans k2 fun _ _ h => h⟩
          case measure => simp only [intOf]; omega
        | some x =>
          rw [ho] at HO hjt
          obtain ⟨gg, cap, rfl, hxl, hown, hx64⟩ := HO
          have HJT := Lib.hid hjt
          have HRD := Lib.hid hrd
          have HX64 := Lib.hid hx64
          clear hjt hrd ho hx64
          have hnil := nil_u6 (some ⟨gg, 0, none⟩) M.n cap
          have hzl : (List.zipWith (· ||| ·) x r).length = M.n := by rw [List.length_zipWith]; omega
          go_wp2
          go_loopw [45] (fun v wq => ∃ k : Nat, v = .int .i64 (k : Int) ∧ k ≤ M.n ∧ Hid (wq.ownsRow w1.heap.size 38 1 (.slice (some ⟨gg, 0, none⟩) M.n cap) M.n (u6 ((List.zipWith (· ||| ·) x r).take k ++ x.drop k))) ∧ Keep NoF w1 wq) (fun v _ => M.n - (intOf v).toNat)
          case atStart => exact ⟨0, rfl, by omega, Lib.hid hown, hkw⟩
          case round =>
            obtain ⟨k, rfl, hk, HOW, hkq⟩ := hrel
            by_cases hlk : k < M.n
            · have hlk' : (k : Int) < (M.n : Int) := by omega
              have hk0 : (0 : Int) ≤ (k : Int) := by omega
              have hxk : x[k]? = some (x.getD k 0) := by rw [List.getElem?_eq_getElem (show k < x.length by omega), List.getD_eq_getElem?_getD, List.getElem?_eq_getElem (show k < x.length by omega)]; rfl
              have hat : wr.cell? ⟨gg, k, none⟩ = some (.int .u64 (x.getD k 0 : Nat)) := by
                have := HOW.out.cells (g := gg) rfl k (.int .u64 (x.getD k 0 : Nat)) (by
                  unfold u6
                  rw [List.getElem?_map, List.getElem?_append_right (by rw [List.length_take]; omega), List.length_take, Nat.min_eq_left (by omega), Nat.sub_self, List.getElem?_drop, Nat.add_zero, hxk]; rfl)
                rwa [Addr.add_lit, Nat.zero_add] at this
              obtain ⟨_, hcA, bl2, off2, rfl, hrk⟩ := (HRD0.out.kept (HKK.out.trans hkq fun _ _ h => h) fun _ _ h => h).nat_lt (show k < r.length by omega)
              obtain ⟨hgb, cur, hbk⟩ := own_bkG HOW.out (by omega)
              have hfz := hbk.frozen k
              have hgl := hbk.lt
              have HJ := Lib.hid fun W : World => moGroup1_any (x.getD k 0) (r.getD k 0) (HX64.out k) (HLT64.out k) W
              have HZ : Hid (u6 ((List.zipWith (· ||| ·) x r).take (k + 1) ++ x.drop (k + 1)) = (u6 ((List.zipWith (· ||| ·) x r).take k ++ x.drop k)).set k (.int .u64 ((x.getD k 0 ||| r.getD k 0 : Nat) : Int))) := Lib.hid (by
                rw [u6_set, step_list (by omega) (by omega)]
                rw [List.getElem?_eq_getElem (by omega)]
                have := zip_getD (· ||| ·) hxl hrl2 hlk
                rw [List.getD_eq_getElem?_getD, List.getElem?_eq_getElem (by omega)] at this
                exact congrArg some this)
              clear hxk
              generalize x.getD k 0 ||| r.getD k 0 = q at *
              generalize x.getD k 0 = xk at *
              generalize r.getD k 0 = rk at *
              go_wp2
              go_region_with (first
                | (go_at_call 57; (with_reducible refine (HJ.out _).mono ?_); rintro e w5 ⟨rfl, hw5⟩; obtain rfl := hw5.symm))
              all_goals
                go_wp2
                go_roundw
                case rel => exact ⟨k + 1, by go_num, by omega, Lib.hid (by rw [HZ.out]; exact own_setE (own_keep HOW.out fun _ _ => rfl) k _), (hkq.drewN _).setCell (.inr hgb) _⟩
                case measure => simp only [intOf]; omega
            · obtain rfl : k = M.n := by omega
              have hlk' : ¬ (M.n : Int) < (M.n : Int) := by omega
              have HF : Hid ((List.zipWith (· ||| ·) x r).take M.n ++ x.drop M.n = List.zipWith (· ||| ·) x r) := Lib.hid (by rw [List.take_of_length_le (by omega), List.drop_of_length_le (by omega), List.append_nil])
              go_wp2
              go_roundw
              case rel => exact ⟨j + 1, by go_num, by omega, by rw [HJT.out]; exact ⟨gg, cap, rfl, hzl, by have := HOW.out; rwa [HF.out] at this, zip_lt (fun a b ha hb => Nat.or_lt_two_pow (n := 64) ha hb) hxl hrl2 HX64.out HLT64.out⟩, hkq⟩
              case measure => simp only [intOf]; omega
    · obtain rfl : j = M.R.length := by omega
      have hlt' : ¬ (M.R.length : Int) < (M.R.length : Int) := by omega
      rw [List.take_length, HY.out] at HO
      obtain ⟨gg, cap, rfl, _, hown, _⟩ := HO
      go_wp2
      go_ret
      exact ⟨gg, cap, rfl, own_baseE hown hz1, HKK.out.trans hkw fun _ _ h => h⟩
theorem moGroup_any {M : Md} {va ra : Option Addr} {cv cr : Nat} {rs : List (Option Addr × Nat)} (w : World) (hM : MdR w M va cv ra cr rs) (hok : Okm M) {g : Nat} (h1 : 1 ≤ g) (h2 : g < 2 ^ M.R.length) :
    Calls Try.prog 29 #[.agg #[.int .i64 M.W, .slice va M.V.length cv, .slice ra M.R.length cr], .int .i64 (g : Int)] w fun e w' => ∃ gg cap, e = .returned (.slice (some ⟨gg, 0, none⟩) M.n cap) ∧ w'.ownsRow w.heap.size 38 1 (.slice (some ⟨gg, 0, none⟩) M.n cap) M.n (u6 (grpN (· ||| ·) M.R g)) ∧ Keep NoF w w' := by
  have k0 : Keep NoF w (w.alloc (.cells #[.int .i64 M.W, .slice va M.V.length cv, .slice ra M.R.length cr] 25)) := (Keep.refl _ _).alloc _
  have HG := Lib.hid (gather_moGroup _ (hM.keep k0) hok h1 h2)
  clear hM hok h1 h2
  go_enter Try.func29, Try.ntmps29
  go_wp2_with (first
    | (go_at_call 55; (with_reducible refine HG.out.mono ?_); rintro e w2 ⟨gg, cap, rfl, hown, k2⟩))
  go_ret
  exact ⟨gg, cap, rfl, own_baseE hown k0.size, k0.trans k2 fun _ _ h => h⟩
end
end Go.Proofs.Ytmjdbbfoihadoaa
