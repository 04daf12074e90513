/- Evidence: what common does. Conditions: the model is valid, the node's group is one of it, the worlds of the claims are worlds of the model. -/
import Derived.Test.YtmjdbbfoihadoaaEvU
import Derived.Test.YtmjdbbfoihadoaaEvO
import Derived.Stop.RegionWithIn
import Derived.Deep.RegionHeld3
import Derived.Deep.Cut
set_option linter.unusedVariables false
set_option linter.unusedSimpArgs false
namespace Go.Proofs.Ytmjdbbfoihadoaa
open Go.RowKit Go.Shelf
open Ev
open Fm (Nd)
attribute [local go_sem] Oper.semAt_some

theorem step_apps {P : Program} {w : World} {t e : TypeId} {z : Value} {size bytes : Nat} {Q : Exit → Act → World → Prop} {K : Act → World → Prop} {ops : Array Oper} {o : Oper} {a : Act} {D : Prop} (hgd : o.guard = none) (E : ElemT P t e z size bytes) (s x : Operand)
    (ho : o.op = .call { callee := .builtin .append, args := #[s, x], argTypes := #[t, t] }) {base : Nat} {v : Value} {n : Nat} {xs : List Value} (hs : a.eval s = v) (hown : w.ownsRow base e size v n xs)
    (A : Option Addr) (m c : Nat) (news : List Value) (hx : a.eval x = .slice A m c) (hrd : Rd w (.slice A m c) size m news) (h1 : ∀ u ∈ news, u.oneCell' = true)
    (h63 : n + m ≤ 9223372036854775807) (hbytes : (n + m) * bytes ≤ 140737488355328) (hbase : base ≤ w.heap.size)
    (h : ∀ v' w', w'.ownsRow base e size v' (n + m) (xs ++ news) → w.grownBy w' v.ownBlock → K (a.put o.dst v') w') :
    if Region.wanted o (yielded ops a.tmps) = true then Oper.wp P o a w K Q else D := by
  rw [if_pos (by simp [Region.wanted, hgd])]
  exact wp_apps E s x ho hs hown A m c news hx hrd h1 h63 hbytes hbase h
def edgeL (M : Md) (m : Nd) (w : Nat) (l : List Nat) : Nat := l.foldl (fun o v => o ||| succN M m v) (succN M m w)
theorem edgeL_snoc (M : Md) (m : Nd) (w : Nat) (l : List Nat) (x : Nat) : edgeL M m w (l ++ [x]) = edgeL M m w l ||| succN M m x := by unfold edgeL; rw [List.foldl_append]; rfl
theorem edgeL_lt {M : Md} {m : Nd} (hs : ∀ v, v < M.n → succN M m v < 18446744073709551616) {w : Nat} (hw : w < M.n) : ∀ (l : List Nat), (∀ v ∈ l, v < M.n) → edgeL M m w l < 18446744073709551616 := by
  intro l
  suffices h : ∀ (l : List Nat) (o : Nat), o < 18446744073709551616 → (∀ v ∈ l, v < M.n) → l.foldl (fun o v => o ||| succN M m v) o < 18446744073709551616 from fun hl => h l _ (hs w hw) hl
  intro l
  induction l with
  | nil => intro o ho _; exact ho
  | cons a l ih => intro o ho hl; exact ih _ (Nat.or_lt_two_pow (n := 64) ho (hs a (hl a (by simp)))) (fun v hv => hl v (List.mem_cons_of_mem _ hv))
def EdgI (w : World) (M : Md) (va ra : Option Addr) (cv cr : Nat) (i e0 g x y rk : Int) (st fl wd b : Nat) (p : Option Addr × Nat) (xs : List Nat) (W : World) : Prop :=
  Bk W w.heap.size 25 #[.int .i64 M.W, .slice va M.V.length cv, .slice ra M.R.length cr] ∧ Bk W (w.heap.size + 1) 53 #[.int .i64 13, .int .i64 i, .int .i64 e0, .int .i64 g, .int .i64 x, .int .i64 y] ∧
  Bk W (w.heap.size + 1 + 1) 40 #[.int .i64 (wd : Int), .int .i64 rk, .bool true, .slice p.1 fl p.2, .int .u64 st] ∧ Bk W b 38 #[.int .u64 (edgeL M ⟨13, i, e0, g, x, y⟩ wd xs : Nat)] ∧ Keep NoF w W
section
set_option maxRecDepth 100000
set_option maxHeartbeats 2000000
variable {w : World} {M : Md} {va ra : Option Addr} {cv cr : Nat} {rs : List (Option Addr × Nat)}
theorem evcommon_yes (hM : MdR w M va cv ra cr rs) (hok : Okm M) (i e0 g x y rk : Int) (hg : 0 ≤ g ∧ g < ((2 ^ M.R.length : Nat) : Int)) (hs : ∀ v, v < M.n → succN M ⟨13, i, e0, g, x, y⟩ v < 2 ^ M.n) (p : Option Addr × Nat) (fl st wd : Nat) (hwd : wd < M.n) (hst : st < 2 ^ M.n)
    (L : List Cl) (A : Option Addr) (c : Nat) (hL : L.length ≤ 1000000) (hrd : Rd w (.slice A L.length c) 3 L.length (clsC L)) :
    Calls Try.prog 35 #[.agg #[.int .i64 M.W, .slice va M.V.length cv, .slice ra M.R.length cr], .agg #[.int .i64 13, .int .i64 i, .int .i64 e0, .int .i64 g, .int .i64 x, .int .i64 y], .agg #[.int .i64 (wd : Int), .int .i64 rk, .bool true, .slice p.1 fl p.2, .int .u64 st], .slice A L.length c] w fun e w' =>
      e = .returned (.bool (decide (L = eachL st y true ++ eachL (adN (edgeN M ⟨13, i, e0, g, x, y⟩ wd st) st) x false))) ∧ Keep NoF w w' := by
  have hmix : Try.prog.follows .mixedOrders = true := by kernel_rfl
  have hst64 := Ev.lt64 hok.n1.2.1 hst
  have HS : Hid (∀ (W : World) (v : Nat), Keep NoF w W → v < M.n → Calls Try.prog 36 #[.agg #[.int .i64 M.W, .slice va M.V.length cv, .slice ra M.R.length cr], .agg #[.int .i64 13, .int .i64 i, .int .i64 e0, .int .i64 g, .int .i64 x, .int .i64 y], .int .i64 (v : Int)] W fun e w' => e = .returned (.int .u64 (succN M ⟨13, i, e0, g, x, y⟩ v : Nat)) ∧ Keep NoF W w') :=
    Lib.hid fun W v hk hv => evsucc_any (hM.keep hk) hok ⟨13, i, e0, g, x, y⟩ v (fun h => by rcases h with h | h <;> exact absurd h (show ¬ (13 : Int) = _ by decide)) (fun _ => hg) hv
  have HED := Lib.hid fun l hl => edgeL_lt (m := ⟨13, i, e0, g, x, y⟩) (fun v hv => Ev.lt64 hok.n1.2.1 (hs v hv)) hwd l hl
  have HS64 : Hid (∀ v, v < M.n → succN M ⟨13, i, e0, g, x, y⟩ v < 18446744073709551616) := Lib.hid fun v hv => Ev.lt64 hok.n1.2.1 (hs v hv)
  have HMN : Hid (∀ v ∈ mem st, v < M.n) := Lib.hid fun v hv => Ev.bit_lt hst (mem_lt hv).2
  have HEQ : Hid (edgeL M ⟨13, i, e0, g, x, y⟩ wd (mem st) = edgeN M ⟨13, i, e0, g, x, y⟩ wd st) := Lib.hid rfl
  have HRD := Lib.hid hrd
  clear hM hg hs hst hrd
  refine (callsIn_wide (n := 3)).1 ?_
  refine callsIn_of_wp_marks Try.func35 rfl trivial ?_ rfl
  simp only [Try.ntmps35, List.size_toArray, List.length_cons, List.length_nil, Nat.reduceAdd, Nat.reduceSub, Array.replicate_succ, Array.replicate_zero, List.push_toArray, List.append_toArray, List.nil_append, List.cons_append]
  gi_wp2_with (first
    | (refine ⟨trivial, ?_⟩; gi_at_call 36; refine (callsIn_wide.2 (HS.out _ _ ((((Keep.refl NoF w).alloc _).alloc _).alloc _) hwd)).mono ?_; rintro e w1 ⟨rfl, K1⟩
       have hz1 := K1.size
       have q0 := (((Bk.new w 25 #[.int .i64 M.W, .slice va M.V.length cv, .slice ra M.R.length cr]).alloc (.cells #[.int .i64 13, .int .i64 i, .int .i64 e0, .int .i64 g, .int .i64 x, .int .i64 y] 53)).alloc (.cells #[.int .i64 (wd : Int), .int .i64 rk, .bool true, .slice p.1 fl p.2, .int .u64 st] 40)).keep K1 fun h => h
       have q1 := ((Bk.new (w.alloc (.cells #[.int .i64 M.W, .slice va M.V.length cv, .slice ra M.R.length cr] 25)) 53 #[.int .i64 13, .int .i64 i, .int .i64 e0, .int .i64 g, .int .i64 x, .int .i64 y]).alloc (.cells #[.int .i64 (wd : Int), .int .i64 rk, .bool true, .slice p.1 fl p.2, .int .u64 st] 40)).keep K1 fun h => h
       have q2 := (Bk.new ((w.alloc (.cells #[.int .i64 M.W, .slice va M.V.length cv, .slice ra M.R.length cr] 25)).alloc (.cells #[.int .i64 13, .int .i64 i, .int .i64 e0, .int .i64 g, .int .i64 x, .int .i64 y] 53)) 40 #[.int .i64 (wd : Int), .int .i64 rk, .bool true, .slice p.1 fl p.2, .int .u64 st]).keep K1 fun h => h
       have k1 := ((((Keep.refl NoF w).alloc (.cells #[.int .i64 M.W, .slice va M.V.length cv, .slice ra M.R.length cr] 25)).alloc (.cells #[.int .i64 13, .int .i64 i, .int .i64 e0, .int .i64 g, .int .i64 x, .int .i64 y] 53)).alloc (.cells #[.int .i64 (wd : Int), .int .i64 rk, .bool true, .slice p.1 fl p.2, .int .u64 st] 40)).trans K1 fun _ _ h => h
       simp only [World.size_alloc] at q1 q2 hz1
       have q24 := (q2.alloc (.cells #[.int .u64 (succN M ⟨13, i, e0, g, x, y⟩ wd : Nat)] 38)).cell 4)
    | (refine ⟨trivial, ?_⟩; gi_at_call 58; refine (callsIn_wide.2 (evmembers_any st _)).mono ?_; rintro e w' ⟨rfl, rfl⟩))
  have hwb : w.heap.size + 3 ≤ w1.heap.size := by omega
  refine each_at (n := 3) (B := w1.heap.size + 1) (s := st) (w1.heap.size + 2) (by simp) (by omega) hst64 rfl (by simpa using Bk.new (w1.alloc (.cells #[.int .u64 (succN M ⟨13, i, e0, g, x, y⟩ wd : Nat)] 38)) 38 #[.int .u64 st]) rfl
    0 (EdgI w M va ra cv cr i e0 g x y rk st fl wd w1.heap.size p) (fun _ _ => False) (fun _ _ => False) ?hI (fun _ _ _ h _ => h.elim) (fun _ _ _ h _ => h.elim) ?h0 ?a1 ?assign ?body ?done ?stop ?brk
  case assign =>
    intro l x W K hK
    gi_wp2
    exact hK
  case hI =>
    rintro pre W W' ⟨h0, h1, h2, h3, hk⟩ hb
    exact ⟨h0.keep hb (by rintro (h | h | h) <;> omega), h1.keep hb (by rintro (h | h | h) <;> omega), h2.keep hb (by rintro (h | h | h) <;> omega), h3.keep hb (by rintro (h | h | h) <;> omega), keep_book hk hb (by omega) (by omega)⟩
  case h0 => exact ⟨(q0.alloc _).alloc _, (q1.alloc _).alloc _, (q2.alloc _).alloc _, (Bk.new w1 38 #[.int .u64 (succN M ⟨13, i, e0, g, x, y⟩ wd : Nat)]).alloc _, (k1.alloc _).alloc _⟩
  case body =>
    rintro l pre v W hpx ⟨h0, h1, h2, h3, hk⟩ hBW hDW
    have hvn := HMN.out v (hpx.subset (by simp))
    have hpn : ∀ u ∈ pre, u < M.n := fun u hu => HMN.out u (hpx.subset (by simp [hu]))
    have e1 := HED.out pre hpn
    have HSN := Lib.hid (edgeL_snoc M ⟨13, i, e0, g, x, y⟩ wd pre v)
    have HOR : Hid ((bits .or .u64 (edgeL M ⟨13, i, e0, g, x, y⟩ wd pre : Nat) (succN M ⟨13, i, e0, g, x, y⟩ v : Nat)) = ((edgeL M ⟨13, i, e0, g, x, y⟩ wd pre ||| succN M ⟨13, i, e0, g, x, y⟩ v : Nat) : Int)) := Lib.hid (or_nat e1 (HS64.out v hvn))
    have c0 := h3.cell 0
    have f0 := h3.frozen 0
    have m0 := h0.cell 0
    have m1 := h0.cell 1
    have m2 := h0.cell 2
    have n0 := h1.cell 0
    have n1 := h1.cell 1
    have n2 := h1.cell 2
    have n3 := h1.cell 3
    have n4 := h1.cell 4
    have n5 := h1.cell 5
    have HC := Lib.hid (HS.out (W.drew) v hk.drew hvn)
    have H3 := Lib.hid h3
    gi_wp2
    gi_region_with (refine ⟨trivial, ?_⟩; gi_at_call 36; refine (CallsIn.inRound l (callsIn_wide.2 HC.out)).mono ?_; rintro e w4 ⟨rfl, k40⟩
                    have k4 : Keep NoF W w4 := k40.undrew
                    have d9 := k4.cellv c0 fun h => h
                    have g9 := (H3.out.keep k4 fun h => h).frozen 0)
    all_goals
      gi_wp2
      rw [HOR.out, ← HSN.out]
      refine ⟨same3_set (Same3.keep k4 (by omega) (by omega) fun _ h => h.elim) (by rintro (h | h | h) <;> omega) _, (h0.keep k4 fun h => h).far (by simp; omega) _, (h1.keep k4 fun h => h).far (by simp; omega) _, (h2.keep k4 fun h => h).far (by simp; omega) _, bk_set (H3.out.keep k4 fun h => h) _, (hk.trans k4 fun _ _ h => h).setCell (.inr (by simp; omega)) _⟩
  case done =>
    rintro W ⟨h0, h1, h2, h3, hk⟩ hD
    have c0 := h3.cell 0
    have r4 := h2.cell 4
    have n4 := h1.cell 4
    have n5 := h1.cell 5
    have hed := HED.out (mem st) HMN.out
    have han := and_not (edgeL M ⟨13, i, e0, g, x, y⟩ wd (mem st)) st hed hst64
    rw [HEQ.out] at han hed c0
    have hlt := Nat.lt_of_le_of_lt (Nat.and_le_left (n := edgeN M ⟨13, i, e0, g, x, y⟩ wd st) (m := 18446744073709551615 - st)) hed
    change adN _ _ < _ at hlt
    have HE1 := Lib.hid (eveach_any st y true hst64)
    have HE2 := Lib.hid (eveach_any (adN (edgeN M ⟨13, i, e0, g, x, y⟩ wd st) st) x false hlt)
    have ll1 : (eachL st y true).length ≤ 64 := by unfold eachL; rw [List.length_map]; exact mem_len _
    have ll2 : (eachL (adN (edgeN M ⟨13, i, e0, g, x, y⟩ wd st) st) x false).length ≤ 64 := by unfold eachL; rw [List.length_map]; exact mem_len _
    generalize hg1 : edgeN M ⟨13, i, e0, g, x, y⟩ wd st = ed at *
    generalize hg2 : adN ed st = ad at *
    generalize hg3 : eachL st y true = l1 at *
    generalize hg4 : eachL ad x false = l2 at *
    have HG : Hid (eachL st y true ++ eachL (adN (edgeN M ⟨13, i, e0, g, x, y⟩ wd st) st) x false = l1 ++ l2) := Lib.hid (by rw [hg1, hg2, hg3, hg4])
    clear hg1 hg2 hg3 hg4
    have HEC : Hid (∀ (W' : World) (B : Option Addr) (d : Nat), Keep NoF W W' → Rd W' (.slice B (l1.length + l2.length) d) 3 (l1.length + l2.length) (clsC l1 ++ clsC l2) → Calls Try.prog 32 #[.slice A L.length c, .slice B (l1.length + l2.length) d] W' fun e w' => e = .returned (.bool (decide (L = l1 ++ l2))) ∧ Keep NoF W' w') := Lib.hid fun W' B d hkW hR => by
      rw [← clsC_app, ← List.length_append] at hR
      rw [← List.length_append]
      exact slEqC_any L (l1 ++ l2) A B c d W' (HRD.out.kept (hk.trans hkW fun _ _ h => h) fun _ _ h => h) hR (by omega) (by rw [List.length_append]; omega)
    have HSS : Hid (∀ w' : World, Keep NoF W w' → w'.cell? ⟨w.heap.size + 1 + 1, 4, none⟩ = some (.int .u64 st) ∧ w'.cell? ⟨w.heap.size + 1, 5, none⟩ = some (.int .i64 y) ∧ w'.cell? ⟨w.heap.size + 1, 4, none⟩ = some (.int .i64 x) ∧ w'.cell? ⟨w1.heap.size, 0, none⟩ = some (.int .u64 ed)) :=
      Lib.hid fun w' h => ⟨h.cellv r4 fun h => h, h.cellv n5 fun h => h, h.cellv n4 fun h => h, h.cellv c0 fun h => h⟩
    have K0 : Keep NoF W W.drew := (Keep.refl _ _).drew
    have HK := Lib.hid hk
    have HD := Lib.hid hD
    clear hk hD h0 h1 h2 h3
    gi_wp2
    refine wpIn_wide.2 ?_
    go_region_held3 (fun w' => w'.cell? ⟨w.heap.size + 1 + 1, 4, none⟩ = some (.int .u64 st) ∧ w'.cell? ⟨w.heap.size + 1, 5, none⟩ = some (.int .i64 y) ∧ w'.cell? ⟨w.heap.size + 1, 4, none⟩ = some (.int .i64 x) ∧ w'.cell? ⟨w1.heap.size, 0, none⟩ = some (.int .u64 ed))
      (first
        | with_reducible exact HSS.out _ K0
        | with_reducible exact HSS.out _ K4
        | with_reducible exact HSS.out _ K5
        | with_reducible exact HSS.out _ K6
        | with_reducible exact HSS.out _ K7)
      (first
        | (go_at_call 37
           (with_reducible refine (HE1.out _).mono ?_)
           rintro e w4 ⟨v1, rfl, o1, k4⟩
           have K4 : Keep NoF W w4 := K0.trans k4 fun _ _ h => h)
        | (go_at_call 37
           (with_reducible refine (HE2.out _).mono ?_)
           rintro e w5 ⟨v2, rfl, o2, k5⟩
           have K5 : Keep NoF W w5 := K4.trans k5 fun _ _ h => h
           have hz4 := k4.size
           have hz5 := k5.size
           have o15 := own_keep o1 fun k hk => k5.block k (o1.lt k hk).2 fun h => h
           obtain ⟨A2, c2, rfl⟩ := own_form o2
           have R2 := Rd.of_own o2)
        | (refine step_apps (by rfl) elemClaim (.tmp 36) (.tmp 43) (by rfl) (by rfl) o15 A2 _ c2 _ (by rfl) R2 (clsC_one _) (by omega) (by omega) (by omega) ?_
           intro v6 w6 o6 g6
           have K6 : Keep NoF W w6 := K5.grown g6 fun k hk => .inr (by have := (o15.lt k hk).1; exact this)
           obtain ⟨A6, c6, rfl⟩ := own_form o6)
        | (go_at_call 32
           (with_reducible refine (HEC.out _ _ _ K6 (Rd.of_own o6)).mono ?_)
           rintro e w7 ⟨rfl, k7⟩
           have K7 : Keep NoF W w7 := K6.trans k7 fun _ _ h => h))
    gi_wp2
    have hD7 : w7.heap[w1.heap.size + 2]? = some (.deferred (some [])) := (K7.block _ (Array.getElem?_eq_some_iff.1 HD.out).1 fun h => h).trans HD.out
    refine ⟨by simp, .inl ⟨_, _, rfl, run_takeDeferred hD7, ?_⟩⟩
    exact ⟨_, results_tmp rfl _ _ _, by rw [HG.out]; rfl, keep_end (HK.out.trans K7 fun _ _ h => h) (by omega) _⟩
  case stop =>
    intro pre W h _
    exact h.elim
  case brk =>
    intro pre W h _
    exact h.elim
end
end Go.Proofs.Ytmjdbbfoihadoaa
