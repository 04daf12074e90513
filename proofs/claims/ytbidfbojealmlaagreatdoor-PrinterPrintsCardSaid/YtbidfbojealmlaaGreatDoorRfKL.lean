/- The printer's reference: named and Print; it answers what the specification says. Conditions: the signature and the formula are few. The printer's reference: named and Print answer what the specification says. No condition. -/
import Derived.Test.YtbidfbojealmlaaGreatDoorRfH
import Derived.Test.YtbidfbojealmlaaGreatDoorRfJ
set_option linter.unusedVariables false
set_option linter.unusedSimpArgs false
namespace Go.Proofs.YtbidfbojealmlaaGreatDoor
open Go.RowKit
open Fm (Nd checkE compactL cl usesX usesY tree tr Rep ins put Fit Ord)
open Fm.Form
/- What a text has at the places of the canonical list. -/
theorem parL_ge (own level : Nat) (l : List UInt8) : l.length ≤ (parL own level l).length := by
  unfold parL
  split
  · omega
  · simp; omega
theorem prL_un_le (S : Sg) (op i e g : Int) (x : Fm.Form) : (prL S x).length ≤ (prL S (un op i e g x)).length := by
  rw [prL, List.length_append]
  have := parL_ge (lvO (top x)) 5 (prL S x)
  omega
theorem prL_bin_y (S : Sg) (op i e g : Int) (x y : Fm.Form) : (prL S y).length ≤ (prL S (bin op i e g x y)).length := by
  have h1 := parL_ge (lvO (top y)) 5 (prL S y)
  have h2 := parL_ge (lvO (top y)) (rtO op) (prL S y)
  rw [prL]
  split
  · simp only [List.length_append]; omega
  · split
    · simp only [List.length_append]; omega
    · simp only [List.length_append]; omega
theorem prL_bin_x (S : Sg) (op i e g : Int) (x y : Fm.Form) (hx : Nm S x) : (prL S x).length ≤ 4 ∨ (prL S x).length ≤ (prL S (bin op i e g x y)).length := by
  have h1 := parL_ge (lvO (top x)) (ltO op) (prL S x)
  rw [prL]
  split
  · right; simp only [List.length_append]; omega
  · split
    · by_cases ht : top x = 1
      · left
        cases x with
        | leaf op' i' e' g' =>
          have : op' = 1 := ht
          rw [prL, if_pos this]
          decide
        | un op' i' e' g' x' =>
          have h1 : op' = 1 := ht
          have h2 := hx.1
          rw [h1] at h2
          exact absurd h2 (by decide)
        | bin op' i' e' g' x' y' =>
          have h1 : op' = 1 := ht
          have h2 := hx.1
          rw [h1] at h2
          exact absurd h2 (by decide)
      · right
        unfold cdL
        rw [if_neg ht]
        simp only [List.length_append, List.length_cons]; omega
    · right; simp only [List.length_append]; omega
theorem nm_fit {S : Sg} : ∀ {t : Fm.Form}, Nm S t → Fit t
  | leaf .., h => h.1
  | un .., h => ⟨h.1, h.2.1, nm_fit h.2.2.2⟩
  | bin .., h => ⟨h.1, nm_fit h.2.2.1, nm_fit h.2.2.2⟩
theorem put_places {P : Fm.Form → Prop} {n : Nd} {o : List Nd} (h : ∀ k, k < o.length → ∃ s, P s ∧ Rep s o k) (hn : ∃ s, P s ∧ Rep s (put n o).2 (put n o).1) : ∀ k, k < (put n o).2.length → ∃ s, P s ∧ Rep s (put n o).2 k := by
  intro k hk
  by_cases hlt : k < o.length
  · obtain ⟨s, h1, h2⟩ := h k hlt
    exact ⟨s, h1, h2.mono (Fm.put_prefix n o)⟩
  · have hk2 := hk
    have : k = (put n o).1 := by
      unfold put at hk2 ⊢
      split at hk2
      · exact absurd hk2 hlt
      · rename_i hm
        rw [if_neg hm]
        simp only [List.length_append, List.length_cons, List.length_nil] at hk2
        show k = o.length
        omega
    rw [this]
    exact hn
theorem ins_places {P : Fm.Form → Prop} (hu : ∀ op i e g x, P (un op i e g x) → P x) (hb : ∀ op i e g x y, P (bin op i e g x y) → P x ∧ P y) : ∀ (t : Fm.Form) (o : List Nd), P t → (∀ k, k < o.length → ∃ s, P s ∧ Rep s o k) → ∀ k, k < (ins t o).2.length → ∃ s, P s ∧ Rep s (ins t o).2 k
  | leaf op i e g, o, hp, h => put_places h ⟨_, hp, Fm.rep_ins (leaf op i e g) o⟩
  | un op i e g x, o, hp, h => put_places (ins_places hu hb x o (hu _ _ _ _ _ hp) h) ⟨_, hp, Fm.rep_ins (un op i e g x) o⟩
  | bin op i e g x y, o, hp, h => put_places (ins_places hu hb y _ (hb _ _ _ _ _ _ hp).2 (ins_places hu hb x o (hb _ _ _ _ _ _ hp).1 h)) ⟨_, hp, Fm.rep_ins (bin op i e g x y) o⟩
/-- Every place of the canonical list stands for a formula with names, whose text is too long only if the whole one is. -/
theorem text_places {S : Sg} {l : List Nd} (hok : okN S l = true) : ∀ k, k < (compactL l).length → Nm S (tree (compactL l) k) ∧ (4000 < (prL S (tree (compactL l) k)).length → 4000 < (prL S (tr l)).length) := by
  obtain ⟨hn, h0, _⟩ := nm_of hok
  have hord := Fm.compactL_ord h0
  rw [Fm.compactL_ok h0] at hord ⊢
  intro k hk
  obtain ⟨s, ⟨h1, h2⟩, h3⟩ := ins_places (P := fun s => Nm S s ∧ (4000 < (prL S s).length → 4000 < (prL S (tr l)).length))
    (fun op i e g x hp => ⟨hp.1.2.2.2, fun h => hp.2 (by have := prL_un_le S op i e g x; omega)⟩)
    (fun op i e g x y hp => ⟨⟨hp.1.2.2.1, fun h => hp.2 (by rcases prL_bin_x S op i e g x y hp.1.2.2.1 with h5 | h5 <;> omega)⟩, hp.1.2.2.2, fun h => hp.2 (by have := prL_bin_y S op i e g x y; omega)⟩)
    (tr l) [] ⟨hn, fun h => h⟩ (fun k hk => absurd hk (by simp)) k hk
  rw [Fm.tree_of_rep hord (nm_fit h1) h3]
  exact ⟨h1, h2⟩
theorem top_tree {L : List Nd} {k : Nat} {n : Nd} (h : L[k]? = some n) : top (tree L k) = n.op := by
  have e : L.getD k default = n := by rw [List.getD_eq_getElem?_getD, h]; rfl
  rw [Fm.tree_eq, e]
  split
  · rfl
  · split <;> rfl
theorem nm_len {S : Sg} (h0 : checkS S = 0) {l : List ByteArray} (hl : ∀ x ∈ l, x ∈ S.all) (i : Int) : (nmB l i).data.toList.length ≤ 8 := by
  unfold nmB
  rw [List.getD_eq_getElem?_getD]
  cases hg : l[i.toNat]? with
  | none => exact (by decide : (0 : Nat) ≤ 8)
  | some x =>
    have := (name_size ((checkS_ok h0).name x (hl x (List.mem_of_getElem? hg))).1).2
    exact this
theorem gr_len {S : Sg} (h0 : checkS S = 0) (g : Int) : (grL S g).length ≤ 36 := by
  have hA := (checkS_ok h0).lA
  have h1 := joinC_size (sel g.toNat S.A 0) fun x hx => (name_size ((checkS_ok h0).name x (by have := sel_sub g.toNat S.A 0 x hx; simp [Sg.all, this])).1).2
  have h2 := sel_len g.toNat S.A 0
  unfold grL
  have : (joinC (sel g.toNat S.A 0)).data.toList.length = (joinC (sel g.toNat S.A 0)).size := rfl
  omega
theorem hd_len2 {S : Sg} (h0 : checkS S = 0) (op i e g : Int) : (hdL S op i e g).length ≤ 100 := by
  have h1 := nm_len h0 (l := S.A) (fun x hx => by simp [Sg.all, hx]) i
  have h2 := nm_len h0 (l := S.C) (fun x hx => by simp [Sg.all, hx]) i
  have h3 := gr_len h0 g
  have h4 : (digW e).data.toList.length = 1 := rfl
  unfold hdL
  repeat' split
  all_goals simp only [List.length_append, List.length_cons, List.length_nil] <;> omega
theorem cn_len2 {S : Sg} (h0 : checkS S = 0) (op i g : Int) : (cnL S op i g).length ≤ 100 := by
  have h1 := nm_len h0 (l := S.A) (fun x hx => by simp [Sg.all, hx]) i
  have h3 := gr_len h0 g
  unfold cnL
  repeat' split
  all_goals simp only [List.length_append, List.length_cons, List.length_nil] <;> omega
section
set_option maxRecDepth 100000
set_option maxHeartbeats 4000000
variable {S : Sg} {w : World} {a f c A T : Option Addr} {ca cf cc c1 cT i : Nat} {L : List Nd} {tx : List ByteArray}
theorem rtext_any (hS : SigR w S a ca f cf c cc) (h0 : checkS S = 0) (hrd : Rd w (.slice A L.length c1) 6 L.length (fmC L)) (hL : L.length ≤ 200) (hord : Ord L) (hi : i < L.length) (hnm : ∀ k, k < L.length → Nm S (tree L k)) (ht : Rd w (.slice T i cT) 1 tx.length (strs tx)) (hti : tx.length = i)
    (htx : ∀ k, k < i → tx[k]? = some (txt (prL S (tree L k))) ∧ (prL S (tree L k)).length ≤ 4000) :
    Calls Tryz.prog 34 #[.agg #[.slice a S.A.length ca, .slice f S.F.length cf, .slice c S.C.length cc], .slice A L.length c1, .slice T i cT, .int .i64 (i : Int)] w fun e w' => e = .returned (.string (txt (prL S (tree L i)))) ∧ Keep NoF w w' := by
  have hn := List.getElem?_eq_getElem hi
  have hq := hnm i hi
  obtain ⟨o1, o2, o3, o4⟩ := hord i _ hn
  generalize L[i] = n at *
  cases hx : usesX n.op
  · rw [Fm.tree_leaf hn hx] at hq ⊢
    obtain ⟨op, ni, ne, ng, nx, ny⟩ := n
    simp only at hq hx hn ⊢
    rcases leaf_cases hq.1 hq.2 with ⟨rfl | rfl, rfl, rfl, rfl⟩ | ⟨rfl, rfl, rfl, n, rfl, hn0⟩
    · rw [prL, if_pos rfl]
      exact rtext_1 hS hrd hL ht hti hn
    · rw [prL, if_neg (by decide), if_pos rfl]
      exact rtext_2 hS hrd hL ht hti hn
    · rw [prL, if_neg (by decide), if_neg (by decide)]
      exact rtext_3 hS hrd hL ht hti hn0 hn
  · obtain ⟨ax, hax, hlt⟩ : ∃ ax : Nat, n.x = (ax : Int) ∧ ax < i := ⟨n.x.toNat, by have := o1 hx; omega, by have := o1 hx; omega⟩
    have hm := List.getElem?_eq_getElem (show ax < L.length by omega)
    obtain ⟨t1, t2⟩ := htx ax hlt
    have hpx := top_tree hm
    cases hy : usesY n.op
    · rw [Fm.tree_un hn hy hx (by omega), show n.x.toNat = ax by omega] at hq ⊢
      rw [prL, hpx]
      obtain ⟨op, ni, ne, ng, nx, ny⟩ := n
      simp only at hq hx hy hn hax ⊢
      subst hax
      have hv : lvO op = 5 ∧ op ≠ 1 ∧ op ≠ 2 ∧ op ≠ 3 ∧ op ≠ 16 ∧ op ≠ 13 ∧ op ≠ 14 := by
        simp only [Fm.usesX, Fm.usesY, Bool.and_eq_true, Bool.or_eq_false_iff, Bool.and_eq_false_iff, decide_eq_true_eq, decide_eq_false_iff_not] at hx hy
        refine ⟨?_, by omega, by omega, by omega, by omega, by omega, by omega⟩
        unfold lvO
        rw [if_neg (by omega), if_neg (by omega), if_neg (by omega), if_neg (by omega), if_neg (by omega)]
      obtain ⟨v0, v1, v2, v3, v16, v13, v14⟩ := hv
      refine rtext_un hS hrd hL ht hti hn hlt hm t1 t2 v1 v2 v3 v16 v13 v14 v0 (by have := hd_len2 h0 op ni ne ng; omega) fun W hW => ?_
      rcases un_cases hx hy hq.2.2.1 with ⟨ho, rfl, rfl, rfl⟩ | ⟨ho, rfl, rfl, n, rfl, hn0⟩ | ⟨ho, rfl, rfl, n, rfl, hn1, hn2⟩ | ⟨rfl, rfl, n, m, rfl, rfl, hn0, hm0⟩
      · rcases ho with rfl | rfl | rfl
        · exact rhead_4 hW h0 _ _
        · exact rhead_18 hW h0 _ _
        · exact rhead_20 hW h0 _ _
      · rcases ho with rfl | rfl | rfl
        · exact rhead_9 hW h0 _ _ hn0
        · exact rhead_10 hW h0 _ _ hn0
        · exact rhead_15 hW h0 _ _ hn0
      · rcases ho with rfl | rfl
        · exact rhead_11 hW h0 _ _ hn1 hn2
        · exact rhead_12 hW h0 _ _ hn1 hn2
      · exact rhead_17 hW h0 _ _ hn0 hm0
    · obtain ⟨ay, hay, hlt'⟩ : ∃ ay : Nat, n.y = (ay : Int) ∧ ay < i := ⟨n.y.toNat, by have := o3 hy; omega, by have := o3 hy; omega⟩
      have hm' := List.getElem?_eq_getElem (show ay < L.length by omega)
      obtain ⟨t3, t4⟩ := htx ay hlt'
      have hpy := top_tree hm'
      have hnx := hnm ax (by omega)
      rw [Fm.tree_bin hn hy (by omega) (by omega), show n.x.toNat = ax by omega, show n.y.toNat = ay by omega] at hq ⊢
      rw [prL, hpx, hpy]
      obtain ⟨op, ni, ne, ng, nx, ny⟩ := n
      simp only at hq hx hy hn hax hay ⊢
      subst hax
      subst hay
      have hcd : ∀ (op i g : Int), L[ax].op ≠ 1 → (cnL S op i g ++ 124 :: (prL S (tree L ax) ++ [93])) ++ parL (lvO L[ay].op) 5 (prL S (tree L ay)) = cnL S op i g ++ (cdL (tree L ax) (prL S (tree L ax)) ++ ([93] ++ parL (lvO L[ay].op) 5 (prL S (tree L ay)))) := fun op i g h => by
        unfold cdL
        rw [hpx, if_neg h]
        simp
      have hce : ∀ (op i g : Int), L[ax].op = 1 → (cnL S op i g ++ [93]) ++ parL (lvO L[ay].op) 5 (prL S (tree L ay)) = cnL S op i g ++ (cdL (tree L ax) (prL S (tree L ax)) ++ ([93] ++ parL (lvO L[ay].op) 5 (prL S (tree L ay)))) := fun op i g h => by
        unfold cdL
        rw [hpx, if_pos h]
        simp
      rcases bin_cases hy hq.2.1 with ⟨ho, rfl, rfl, rfl⟩ | ⟨rfl, rfl, rfl, n, rfl, hn1, hn2⟩ | ⟨rfl, rfl, rfl, n, rfl, hn0⟩
      · rcases ho with rfl | rfl | rfl | rfl | rfl | rfl | rfl
        · rw [if_neg (by decide), if_neg (by decide)]
          exact rtext_5 hS hrd hL ht hti hn hlt hlt' hm hm' t1 t3 t2 t4
        · rw [if_neg (by decide), if_neg (by decide)]
          exact rtext_6 hS hrd hL ht hti hn hlt hlt' hm hm' t1 t3 t2 t4
        · rw [if_neg (by decide), if_neg (by decide)]
          exact rtext_7 hS hrd hL ht hti hn hlt hlt' hm hm' t1 t3 t2 t4
        · rw [if_neg (by decide), if_neg (by decide)]
          exact rtext_8 hS hrd hL ht hti hn hlt hlt' hm hm' t1 t3 t2 t4
        · rw [if_neg (by decide), if_neg (by decide)]
          exact rtext_19 hS hrd hL ht hti hn hlt hlt' hm hm' t1 t3 t2 t4
        · rw [if_neg (by decide), if_neg (by decide)]
          exact rtext_21 hS hrd hL ht hti hn hlt hlt' hm hm' t1 t3 t2 t4
        · rw [if_pos rfl]
          have := rtext_16 hS hrd hL ht hti hn hlt hlt' hm hm' t1 t3 t2 t4
          simpa using this
      · rw [if_neg (by decide), if_pos (.inl rfl)]
        by_cases hm1 : L[ax].op = 1
        · rw [← hce _ _ _ hm1]
          exact rtext_13e hS hrd hL ht hti hn hlt hlt' hm hm' t1 t3 t2 t4 hm1 (by have := cn_len2 h0 13 0 (n : Int); rw [List.length_append]; simp; omega) fun W hW => rhead_13e hW h0 _ _ hn1 hn2
        · rw [← hcd _ _ _ hm1]
          exact rtext_13 hS hrd hL ht hti hn hlt hlt' hm hm' t1 t3 t2 t4 hm1 (by have := cn_len2 h0 13 0 (n : Int); rw [List.length_append]; simp; omega) fun W hW => rhead_13 hW h0 _ _ hn1 hn2 (prL_ne h0 _ hnx) t2
      · rw [if_neg (by decide), if_pos (.inr rfl)]
        by_cases hm1 : L[ax].op = 1
        · rw [← hce _ _ _ hm1]
          exact rtext_14e hS hrd hL ht hti hn hlt hlt' hm hm' t1 t3 t2 t4 hm1 (by have := cn_len2 h0 14 (n : Int) 0; rw [List.length_append]; simp; omega) fun W hW => rhead_14e hW h0 _ _ hn0
        · rw [← hcd _ _ _ hm1]
          exact rtext_14 hS hrd hL ht hti hn hlt hlt' hm hm' t1 t3 t2 t4 hm1 (by have := cn_len2 h0 14 (n : Int) 0; rw [List.length_append]; simp; omega) fun W hW => rhead_14 hW h0 _ _ hn0 (prL_ne h0 _ hnx) t2
end
end Go.Proofs.YtbidfbojealmlaaGreatDoor
namespace Go.Proofs.YtbidfbojealmlaaGreatDoor
open Go.RowKit
open Fm (Nd checkE compactL cl usesX usesY tree tr Rep)
open Fm.Form
section
set_option maxRecDepth 100000
set_option maxHeartbeats 4000000
theorem acts_snoc {l : List Nd} {k c : Nat} {n : Nd} (h : l[k]? = some n) : actsB (l.take (k + 1)) c = (actsB (l.take k) c && !(decide (n.op = 17) && decide ((c : Int) ≤ n.i))) := by
  rw [take_snoc1 h]
  simp [actsB]
theorem acts_no {l : List Nd} {k c : Nat} {n : Nd} (h : l[k]? = some n) (h1 : n.op = 17) (h2 : (c : Int) ≤ n.i) : actsB l c = false := by
  unfold actsB
  rw [List.all_eq_false]
  exact ⟨n, List.mem_of_getElem? h, by simp [h1, h2]⟩
theorem rnamed_any (S : Sg) (a f c : Option Addr) (ca cf cc : Nat) (L : List Nd) (A : Option Addr) (c1 : Nat) (w : World) (hS : SigR w S a ca f cf c cc) (hrd : Rd w (.slice A L.length c1) 6 L.length (fmC L)) (hck : checkE L = 0) :
    Calls Tryz.prog 33 #[.agg #[.slice a S.A.length ca, .slice f S.F.length cf, .slice c S.C.length cc], .slice A L.length c1] w fun e w' => e = .returned (.bool (fitsB L S.A.length S.F.length && actsB L S.C.length)) ∧ Keep NoF w w' := by
  have h200 := (Fm.checkE_zero.1 hck).2.1
  have hK0 : Keep NoF w (w.alloc (.cells #[.slice a S.A.length ca, .slice f S.F.length cf, .slice c S.C.length cc] 24)) := (Keep.refl _ _).alloc _
  have HF := Lib.hid (fqFits_ex L A c1 S.A.length S.F.length (w.alloc (.cells #[.slice a S.A.length ca, .slice f S.F.length cf, .slice c S.C.length cc] 24)) (hrd.kept hK0 fun _ _ h => h) hck)
  have b0 : Bk (w.alloc (.cells #[.slice a S.A.length ca, .slice f S.F.length cf, .slice c S.C.length cc] 24)) w.heap.size 24 #[.slice a S.A.length ca, .slice f S.F.length cf, .slice c S.C.length cc] := Bk.new w _ _
  have HRD := Lib.hid hrd
  have hlA := hS.lA
  have hlF := hS.lF
  have hlC := hS.lC
  clear hS hrd hck
  cases hfb : fitsB L S.A.length S.F.length with
  | false =>
    rw [hfb] at HF
    rw [Bool.false_and]
    clear hfb b0
    generalize L.length = n at *
    go_enter Tryz.func33, Tryz.ntmps33
    go_wp2_with (go_at_call 61; (with_reducible refine HF.out.mono ?_); rintro e w1 ⟨rfl, k1⟩)
    go_ret
    exact ⟨rfl, hK0.trans k1 fun _ _ h => h⟩
  | true =>
    rw [hfb] at HF
    rw [Bool.true_and]
    generalize hab : actsB L S.C.length = ab at *
    have HAB := Lib.hid hab
    clear hfb hab
    go_enter Tryz.func33, Tryz.ntmps33
    go_upto_region 1 with (fail)
    generalize (w.alloc (.cells #[.slice a S.A.length ca, .slice f S.F.length cf, .slice c S.C.length cc] 24)) = W at *
    have s0 : W.cell? ⟨w.heap.size, 0, none⟩ = some (.slice a S.A.length ca) := b0.cell 0
    have s1 : W.cell? ⟨w.heap.size, 1, none⟩ = some (.slice f S.F.length cf) := b0.cell 1
    have HB0 := Lib.hid b0
    clear b0
    go_wp2_with (go_at_call 61; (with_reducible refine HF.out.mono ?_); rintro e w1 ⟨rfl, k1⟩)
    clear s0 s1
    go_loopw [5] (fun t wr => ∃ k : Nat, t = .int .i64 (k : Int) ∧ k ≤ L.length ∧ Hid (actsB (L.take k) S.C.length = true) ∧ Keep NoF W wr) (fun t _ => L.length - (intOf t).toNat)
    case atStart => exact ⟨0, rfl, by omega, Lib.hid rfl, k1⟩
    case round =>
      obtain ⟨k, rfl, hk, HA, hkw⟩ := hrel
      by_cases hlt : k < L.length
      · have hx := List.getElem?_eq_getElem hlt
        obtain ⟨bl, off, rfl, _, hc1, x0, x1, -, -, -, -⟩ := (HRD.out.kept (hK0.trans hkw fun _ _ h => h) fun _ _ h => h).nd hx
        have s2 : wr.cell? ⟨w.heap.size, 2, none⟩ = some (.slice c S.C.length cc) := hkw.cellv (HB0.out.cell 2) fun h => h
        generalize L[k] = n at *
        have HX := Lib.hid hx
        clear hx
        have l1 : (k : Int) < (L.length : Int) := by omega
        have l0 : (0 : Int) ≤ (k : Int) := by omega
        by_cases hop : n.op = 17
        · rw [hop] at x0
          by_cases hc2 : (S.C.length : Int) ≤ n.i
          · have HNO : Hid (ab = false) := Lib.hid (HAB.out.symm.trans (acts_no HX.out hop hc2))
            have hd : decide ((S.C.length : Int) ≤ n.i) = true := decide_eq_true hc2
            clear hop
            go_wp2
            go_quiet (fail)
            go_wp2
            go_ret
            exact ⟨by rw [HNO.out]; rfl, (hK0.trans hkw fun _ _ h => h).drewN _⟩
          · have HA2 : Hid (actsB (L.take (k + 1)) S.C.length = true) := Lib.hid (by rw [acts_snoc HX.out, HA.out, decide_eq_false hc2]; simp)
            have hd : decide ((S.C.length : Int) ≤ n.i) = false := decide_eq_false hc2
            have hc3 : n.i < (S.C.length : Int) := by omega
            clear hop
            go_wp2
            go_quiet (fail)
            go_wp2
            go_roundw
            case rel => exact ⟨k + 1, by go_num, by omega, HA2, hkw.drewN _⟩
            case measure => simp only [intOf]; omega
        · have HA2 : Hid (actsB (L.take (k + 1)) S.C.length = true) := Lib.hid (by rw [acts_snoc HX.out, HA.out, decide_eq_false hop]; simp)
          have hop' : (n.op == 17) = false := by simpa using hop
          clear hop
          go_wp2
          go_quiet (fail)
          go_wp2
          go_roundw
          case rel => exact ⟨k + 1, by go_num, by omega, HA2, hkw.drewN _⟩
          case measure => simp only [intOf]; omega
      · have l1 : ¬ (k : Int) < (L.length : Int) := by omega
        have HAT : Hid (ab = true) := Lib.hid (by have := HA.out; rw [List.take_of_length_le (by omega)] at this; rw [← HAB.out, this])
        go_wp2
        go_ret
        exact ⟨by rw [HAT.out]; rfl, hK0.trans hkw fun _ _ h => h⟩
def txs (S : Sg) (L : List Nd) (k : Nat) : List ByteArray := (List.range k).map fun j => txt (prL S (tree L j))
theorem txs_len (S : Sg) (L : List Nd) (k : Nat) : (txs S L k).length = k := by simp [txs]
theorem txs_at {S : Sg} {L : List Nd} {k j : Nat} (h : j < k) : (txs S L k)[j]? = some (txt (prL S (tree L j))) := by
  unfold txs
  rw [List.getElem?_map, List.getElem?_range h]
  rfl
theorem txs_snoc (S : Sg) (L : List Nd) (k : Nat) : txs S L (k + 1) = txs S L k ++ [txt (prL S (tree L k))] := by
  unfold txs
  rw [List.range_succ, List.map_append]
  rfl
theorem rPrint_any (S : Sg) (a f c : Option Addr) (ca cf cc : Nat) (l : List Nd) (A : Option Addr) (cA : Nat) (w : World) (hS : SigR w S a ca f cf c cc) (hll : l.length ≤ 9223372036854775807) (hrd : Rd w (.slice A l.length cA) 6 l.length (fmC l)) :
    Calls Tryz.prog 13 #[.agg #[.slice a S.A.length ca, .slice f S.F.length cf, .slice c S.C.length cc], .slice A l.length cA] w (PrPost S l w) := by
  have hK0 : Keep NoF w (w.alloc (.cells #[.slice a S.A.length ca, .slice f S.F.length cf, .slice c S.C.length cc] 24)) := (Keep.refl _ _).alloc _
  have b0 : Bk (w.alloc (.cells #[.slice a S.A.length ca, .slice f S.F.length cf, .slice c S.C.length cc] 24)) w.heap.size 24 #[.slice a S.A.length ca, .slice f S.F.length cf, .slice c S.C.length cc] := Bk.new w _ _
  have HC := Lib.hid (rCheck_any S a f c ca cf cc _ (hS.keep hK0))
  have HFC := Lib.hid fun W (hk : Keep NoF w W) => fqCheck_any l A cA W hll (hrd.kept hk fun _ _ h => h)
  have HS := Lib.hid hS
  have HRD := Lib.hid hrd
  have HKW : Hid (∀ v, Keep NoF (w.alloc (.cells #[.slice a S.A.length ca, .slice f S.F.length cf, .slice c S.C.length cc] 24)) v → Keep NoF w v) := Lib.hid fun v h => hK0.trans h fun _ _ h => h
  have HB : Hid (∀ v, Keep NoF (w.alloc (.cells #[.slice a S.A.length ca, .slice f S.F.length cf, .slice c S.C.length cc] 24)) v → v.cell? ⟨w.heap.size, 0, none⟩ = some (.slice a S.A.length ca) ∧ v.cell? ⟨w.heap.size, 1, none⟩ = some (.slice f S.F.length cf) ∧ v.cell? ⟨w.heap.size, 2, none⟩ = some (.slice c S.C.length cc)) := Lib.hid fun v h => ⟨h.cellv (b0.cell 0) fun h => h, h.cellv (b0.cell 1) fun h => h, h.cellv (b0.cell 2) fun h => h⟩
  by_cases h0 : checkS S = 0
  · have HH0 := Lib.hid h0
    rw [h0] at HC
    by_cases h1 : checkE l = 0
    · have HE0 := Lib.hid h1
      have HCO := Lib.hid fun W (hk : Keep NoF w W) => fqCompact_any l A cA W (hrd.kept hk fun _ _ h => h) h1
      rw [h1] at HFC
      have h200 := (Fm.compactL_len h1).1
      have hpos := (Fm.compactL_len h1).2
      have hckL : checkE (compactL l) = 0 := by rw [Fm.compactL_ok h1]; exact Fm.cl_check (Fm.tr_good h1) (by rw [← Fm.compactL_ok h1]; exact h200)
      have hfit : fitsB (compactL l) S.A.length S.F.length = fitsB l S.A.length S.F.length := by
        have : compactL (compactL l) = compactL l := by rw [Fm.compactL_ok hckL, Fm.compactL_ok h1, Fm.tr_cl (Fm.tr_good h1).fit]
        unfold fitsB
        rw [this, hckL, h1]
      have hordL := Fm.compactL_ord h1
      have htr : tree (compactL l) ((compactL l).length - 1) = tr l := by
        have := Fm.tr_cl (Fm.tr_good h1).fit
        rw [← Fm.compactL_ok h1] at this
        exact this
      have HNM := Lib.hid fun (W : World) (A3 : Option Addr) (a3 : Nat) (hk : Keep NoF w W) hr => rnamed_any S a f c ca cf cc (compactL l) A3 a3 W (hS.keep hk) hr hckL
      rw [hfit] at HNM
      have hokE : okN S l = (fitsB l S.A.length S.F.length && actsB (compactL l) S.C.length) := rfl
      rw [← hokE] at HNM
      cases hok : okN S l with
      | false =>
        have HPF : Hid (printF S l = ([], 2)) := Lib.hid (by
          unfold printF
          rw [if_neg (by rw [HH0.out]; simp), if_neg (by rw [HE0.out]; simp), if_pos hok])
        rw [hok] at HNM
        clear h0 h1 hS hrd hckL hfit hordL htr hokE hok b0
        generalize compactL l = L at *
        generalize l.length = ll at *
        go_enter Tryz.func13, Tryz.ntmps13
        go_upto_region 1 with (fail)
        generalize (w.alloc (.cells #[.slice a S.A.length ca, .slice f S.F.length cf, .slice c S.C.length cc] 24)) = W at *
        obtain ⟨s0, s1, s2⟩ := HB.out W (Keep.refl _ _)
        go_wp2_with (first
          | (go_at_call 30; (with_reducible refine HC.out.mono ?_); rintro e w1 ⟨rfl, K1⟩; have k1 := HKW.out _ K1)
          | (go_at_call 31; (with_reducible refine (HFC.out _ k1).mono ?_); rintro e w2 ⟨rfl, K2⟩; have k2 := k1.trans K2 fun _ _ h => h)
          | (go_at_call 32; (with_reducible refine (HCO.out _ k2).mono ?_); rintro e w3 ⟨A3, a3, rfl, R3, K3, F3⟩; have k3 := k2.trans K3 fun _ _ h => h; obtain ⟨d0, d1, d2⟩ := HB.out w3 (K1.trans (K2.trans K3 fun _ _ h => h) fun _ _ h => h); have HR3 := Lib.hid R3; clear R3 F3)
          | (go_at_call 33; (with_reducible refine (HNM.out _ _ _ k3 HR3.out).mono ?_); rintro e w4 ⟨rfl, K4⟩; have k4 := k3.trans K4 fun _ _ h => h))
        refine bodyPost_ret (v := .tuple #[.string ⟨#[]⟩, .int .i64 2]) (by simp [results, Tryz.results13, go_sem]) rfl ?_
        exact PrPost.err HPF.out k4
      | true =>
        have hpl := text_places hok
        have HFN : Hid (printF S l = if 4000 < (prL S (tr l)).length then ([], 8) else (prL S (tr l), 0)) := Lib.hid (by
          unfold printF
          rw [if_neg (by rw [HH0.out]; simp), if_neg (by rw [HE0.out]; simp), if_neg (by rw [hok]; simp)])
        rw [hok] at HNM
        clear hfit hokE hok b0 hckL
        generalize compactL l = L at *
        have HTX := Lib.hid fun (W : World) (A3 T : Option Addr) (a3 cT k : Nat) (hk : Keep NoF w W) (h1 : Rd W (.slice A3 L.length a3) 6 L.length (fmC L)) (h2 : k < L.length) (h3 : Rd W (.slice T k cT) 1 (txs S L k).length (strs (txs S L k))) (h4 : ∀ j, j < k → (prL S (tree L j)).length ≤ 4000) => rtext_any (hS.keep hk) h0 h1 h200 hordL h2 (fun j hj => (hpl j hj).1) h3 (txs_len S L k) fun j hj => ⟨txs_at hj, h4 j hj⟩
        have HPL := Lib.hid hpl
        have HTR := Lib.hid htr
        clear h0 h1 hS hrd hordL htr hpl
        generalize l.length = ll at *
        go_enter Tryz.func13, Tryz.ntmps13
        go_upto_region 1 with (fail)
        generalize (w.alloc (.cells #[.slice a S.A.length ca, .slice f S.F.length cf, .slice c S.C.length cc] 24)) = W at *
        obtain ⟨s0, s1, s2⟩ := HB.out W (Keep.refl _ _)
        go_wp2_with (first
          | (go_at_call 30; (with_reducible refine HC.out.mono ?_); rintro e w1 ⟨rfl, K1⟩; have k1 := HKW.out _ K1)
          | (go_at_call 31; (with_reducible refine (HFC.out _ k1).mono ?_); rintro e w2 ⟨rfl, K2⟩; have k2 := k1.trans K2 fun _ _ h => h)
          | (go_at_call 32; (with_reducible refine (HCO.out _ k2).mono ?_); rintro e w3 ⟨A3, a3, rfl, R3, K3, F3⟩; have k3 := k2.trans K3 fun _ _ h => h; have kW3 := K1.trans (K2.trans K3 fun _ _ h => h) fun _ _ h => h; obtain ⟨d0, d1, d2⟩ := HB.out w3 kW3; have HR3 := Lib.hid R3; clear R3 F3)
          | (go_at_call 33; (with_reducible refine (HNM.out _ _ _ k3 HR3.out).mono ?_); rintro e w4 ⟨rfl, K4⟩; have k4 := k3.trans K4 fun _ _ h => h))
        have HK34 := Lib.hid K4
        have HKW3 := Lib.hid kW3
        clear s0 s1 s2 d0 d1 d2 kW3
        go_loopw [8, 9] (fun t v wr => ∃ k : Nat, v = .int .i64 (k : Int) ∧ k ≤ L.length ∧ Hid (wr.ownsRow w4.heap.size 9 1 t k (strs (txs S L k))) ∧ Hid (∀ j, j < k → (prL S (tree L j)).length ≤ 4000) ∧ Keep NoF w4 wr) (fun _ v _ => L.length - (intOf v).toNat)
        case atStart => exact ⟨0, rfl, by omega, Lib.hid (own_nil _ _ _ _), Lib.hid fun j hj => by omega, Keep.refl _ _⟩
        case round =>
          obtain ⟨k, rfl, hk, HO, HLE, hkw⟩ := hrel
          have ho := HO.out
          obtain ⟨B, cB, rfl⟩ := own_form ho
          have kwr := k4.trans hkw fun _ _ h => h
          have kW := HKW3.out.trans (HK34.out.trans hkw fun _ _ h => h) fun _ _ h => h
          by_cases hlt : k < L.length
          · have l1 : (k : Int) < (L.length : Int) := by omega
            obtain ⟨s0, s1, s2⟩ := HB.out wr kW
            have HT1 := Lib.hid (HTX.out wr A3 B a3 cB k kwr (HR3.out.kept (HK34.out.trans hkw fun _ _ h => h) fun _ _ h => h) hlt (by rw [txs_len]; exact Rd.of_own ho) HLE.out)
            have hsn := txs_snoc S L k
            have hsz := txt_size (prL S (tree L k))
            by_cases hbig : 4000 < (prL S (tree L k)).length
            · have hb2 : (4000 : Int) < ((txt (prL S (tree L k))).size : Int) := by omega
              have HPF : Hid (printF S l = ([], 8)) := Lib.hid (by rw [HFN.out, if_pos ((HPL.out k hlt).2 hbig)])
              clear hsn hsz ho hbig
              generalize txt (prL S (tree L k)) = tb at *
              go_wp2_with (go_at_call 34; (with_reducible refine HT1.out.mono ?_); rintro e w5 ⟨rfl, K5⟩)
              refine bodyPost_ret (v := .tuple #[.string ⟨#[]⟩, .int .i64 8]) (by simp [results, Tryz.results13, go_sem]) rfl ?_
              exact PrPost.err HPF.out (kwr.trans K5 fun _ _ h => h)
            · have hb2 : ¬ (4000 : Int) < ((txt (prL S (tree L k))).size : Int) := by omega
              have HSN : Hid (strs (txs S L (k + 1)) = strs (txs S L k) ++ [.string (txt (prL S (tree L k)))]) := Lib.hid (by rw [hsn]; simp [strs])
              have HL2 : Hid (∀ j, j < k + 1 → (prL S (tree L j)).length ≤ 4000) := Lib.hid fun j hj => by
                by_cases hjk : j = k
                · subst hjk; omega
                · exact HLE.out j (by omega)
              clear hsn hsz hbig
              generalize txt (prL S (tree L k)) = tb at *
              have HOW := Lib.hid ho
              clear ho
              go_wp2_with (first
                | (go_at_call 34
                   (with_reducible refine HT1.out.mono ?_)
                   rintro e w5 ⟨rfl, K5⟩
                   have ho5 := own_keep HOW.out fun y hy => K5.block y (HOW.out.lt y hy).2 fun h => h)
                | (at_builtin
                   refine wpList_app ?_ eStrs (.tmp 41) (.tmp 43) ?_ ?_ (ho5.alloc _) ⟨w5.heap.size, 0, none⟩ 1 1 [.string tb] ?_ ?_ ?_ ?_ ?_ ?_ ?_ ?_ ?_
                   · rfl
                   · rfl
                   · rfl
                   · rfl
                   · rfl
                   · exact World.news_of_block (cs := #[.string tb]) (t := 9) (fr := (0, 0)) (heap_alloc_new w5 _)
                   · simp [Value.oneCell']
                   · omega
                   · omega
                   · omega
                   · have := K5.size; have := HK34.out.size; have := hkw.size; simp; omega
                   intro g4 cap4 w6 hown4 hA4))
              go_roundw
              case rel =>
                refine ⟨k + 1, by go_num, by omega, Lib.hid (by rw [HSN.out]; exact hown4), HL2, ?_⟩
                exact ((hkw.trans K5 fun _ _ h => h).alloc _).grown hA4.grown fun y hy => .inr (ho5.lt y hy).1
              case measure => simp only [intOf]; omega
          · obtain rfl : k = L.length := by omega
            have l1 : ¬ (L.length : Int) < (L.length : Int) := by omega
            obtain ⟨p, hp⟩ : ∃ p, L.length = p + 1 := ⟨L.length - 1, by omega⟩
            have hz1 : (L.length : Int) - 1 = (p : Int) := by omega
            have hz2 : (0 : Int) ≤ (p : Int) := by omega
            have hz3 : (p : Int) < (L.length : Int) := by omega
            obtain ⟨g, cap, cur, he, _, hbk, _⟩ := own_bk ho (by omega)
            have hat : wr.cell? ⟨g, p, none⟩ = some (.string (txt (prL S (tree L p)))) := by
              rw [he] at ho
              have := ho.cells (g := g) rfl p (.string (txt (prL S (tree L p)))) (by unfold strs; rw [List.getElem?_map, txs_at (by omega)]; rfl)
              rwa [Addr.add_lit, Nat.zero_add] at this
            obtain ⟨hB, rfl⟩ : B = some ⟨g, 0, none⟩ ∧ cB = cap := by cases he; exact ⟨rfl, rfl⟩
            subst hB
            have HPF : Hid (printF S l = (prL S (tree L p), 0)) := Lib.hid (by
              have e1 : tree L p = tr l := by rw [← HTR.out, hp]; rfl
              have := HLE.out p (by omega)
              rw [HFN.out, ← e1, if_neg (by omega)])
            have HP := Lib.hid hp
            clear ho he hp
            go_wp2
            refine bodyPost_ret (v := .tuple #[.string (txt (prL S (tree L p))), .int .i64 0]) (by simp [results, Tryz.results13, go_sem]) rfl ?_
            exact ⟨by rw [HPF.out], kwr⟩
    · have HPF : Hid (printF S l = ([], checkE l)) := Lib.hid (by unfold printF; rw [if_neg (by rw [HH0.out]; simp), if_pos h1])
      have hx : (checkE l != 0) = true := by simpa using h1
      clear h0 h1 hS hrd b0
      generalize checkE l = x at *
      generalize l.length = ll at *
      go_enter Tryz.func13, Tryz.ntmps13
      go_upto_region 1 with (fail)
      generalize (w.alloc (.cells #[.slice a S.A.length ca, .slice f S.F.length cf, .slice c S.C.length cc] 24)) = W at *
      obtain ⟨s0, s1, s2⟩ := HB.out W (Keep.refl _ _)
      go_wp2_with (first
        | (go_at_call 30; (with_reducible refine HC.out.mono ?_); rintro e w1 ⟨rfl, K1⟩; have k1 := HKW.out _ K1)
        | (go_at_call 31; (with_reducible refine (HFC.out _ k1).mono ?_); rintro e w2 ⟨rfl, K2⟩; have k2 := k1.trans K2 fun _ _ h => h))
      refine bodyPost_ret (v := .tuple #[.string ⟨#[]⟩, .int .i64 x]) (by simp [results, Tryz.results13, go_sem]) rfl ?_
      exact PrPost.err HPF.out k2
  · have HPF : Hid (printF S l = ([], (checkS S : Int))) := Lib.hid (by unfold printF; rw [if_pos h0])
    have hx : (((checkS S : Nat) : Int) != 0) = true := by simpa using h0
    clear h0 hS hrd b0
    generalize ((checkS S : Nat) : Int) = x at *
    generalize l.length = ll at *
    go_enter Tryz.func13, Tryz.ntmps13
    go_upto_region 1 with (fail)
    generalize (w.alloc (.cells #[.slice a S.A.length ca, .slice f S.F.length cf, .slice c S.C.length cc] 24)) = W at *
    obtain ⟨s0, s1, s2⟩ := HB.out W (Keep.refl _ _)
    go_wp2_with (go_at_call 30; (with_reducible refine HC.out.mono ?_); rintro e w1 ⟨rfl, K1⟩; have k1 := HKW.out _ K1)
    refine bodyPost_ret (v := .tuple #[.string ⟨#[]⟩, .int .i64 x]) (by simp [results, Tryz.results13, go_sem]) rfl ?_
    exact PrPost.err HPF.out k1
end
end Go.Proofs.YtbidfbojealmlaaGreatDoor
