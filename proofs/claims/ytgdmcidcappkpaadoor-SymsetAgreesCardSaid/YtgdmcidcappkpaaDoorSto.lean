/- The store of the package bdd in memory, and what its methods do to it. What the store's method node does. What the store's methods variable, at and load do. What the store's method ite does. No condition. -/
import Derived.Test.YtgdmcidcappkpaaDoorProg
import Derived.Test.YtgdmcidcappkpaaDoorBase
import Derived.Test.YtgdmcidcappkpaaDoorLaw
import Derived.DeepKeys4
import Derived.Deep.QuietTactic
import Derived.BigQuiet
import Derived.Deep.RegionHeld3
import Derived.Deep.RegionLaw
import Derived.Deep.DeepCutAuto
import Derived.Lib.Hide
import Derived.Laws.Cover1
set_option linter.unusedVariables false
set_option linter.unusedSimpArgs false
namespace Go.Proofs.YtgdmcidcappkpaaDoor
open Go.RowKit

abbrev Nd := Dd.Nd
def ndV (n : Nd) : Value := .agg #[.int .i64 n.1, .int .i64 n.2.1, .int .i64 n.2.2]
def ndC (n : Nd) : List Value := [.int .i64 n.1, .int .i64 n.2.1, .int .i64 n.2.2]
def ndsC (N : List Nd) : List Value := N.flatMap ndC
def tiny (x : Nat) : Prop := x < 4611686018427387904
def ndOk (n : Nd) : Prop := tiny n.1 ∧ tiny n.2.1 ∧ tiny n.2.2
def inV (n : Nat) : Value := .int .i64 n

theorem laid : laidOutB Tryd.prog = true := by kernel_rfl
theorem keyNode : Maps.Keyed Tryd.prog 74 := Maps.Keyed.of_law (deep_law_laid laid (m := 5) (by omega) (of_decide_eq_true (by kernel_rfl)) (by kernel_rfl) (by kernel_rfl))
theorem keyThree : Maps.Keyed Tryd.prog 84 := Maps.Keyed.of_law (deep_law_laid laid (m := 5) (by omega) (of_decide_eq_true (by kernel_rfl)) (by kernel_rfl) (by kernel_rfl))

theorem typesSize : Tryd.prog.types.size + 1 = (Tryd.prog.types.size - 1) + 2 := by kernel_rfl
theorem kt1 : Tryd.prog.keyType 74 = true := by kernel_rfl
theorem kt2 : Tryd.prog.keyType 84 = true := by kernel_rfl
theorem cellsNode : Tryd.prog.cellsOf 74 = 3 := by kernel_rfl
theorem cellsKey : Tryd.prog.cellsOf 84 = 3 := by kernel_rfl
theorem cellsInt : Tryd.prog.cellsOf 3 = 1 := by kernel_rfl
theorem wf_tiny {x : Nat} (h : tiny x) : (Lit.int .i64 (x : Int)).wf = true := by
  unfold tiny at h
  have h1 : IntKind.i64.min = -9223372036854775808 := by decide
  have h2 : IntKind.i64.max = 9223372036854775807 := by decide
  simp only [Lit.wf, h1, h2, Bool.and_eq_true, decide_eq_true_eq]; omega
theorem lits_int (d : Nat) {x : Nat} (h : tiny x) : Tryd.prog.keyLits (d + 1) 3 [.int .i64 (x : Int)] = some [.int .i64 x] := by
  simp [Program.keyLits, Tryd.underlying3, wf_tiny h]
theorem lits_node (d : Nat) (n : Nd) (h : ndOk n) : ∃ l, Tryd.prog.keyLits (d + 2) 74 (ndC n) = some l := by
  have h1 := lits_int d h.1
  have h2 := lits_int d h.2.1
  have h3 := lits_int d h.2.2
  unfold Program.keyLits
  rw [Tryd.underlying74]
  simp only [ndC, cellsNode]
  simp [cellsInt, h1, h2, h3]
theorem lits_key (d : Nat) (n : Nd) (h : ndOk n) : ∃ l, Tryd.prog.keyLits (d + 2) 84 (ndC n) = some l := by
  have h1 := lits_int d h.1
  have h2 := lits_int d h.2.1
  have h3 := lits_int d h.2.2
  unfold Program.keyLits
  rw [Tryd.underlying84]
  simp only [ndC, cellsKey]
  simp [cellsInt, h1, h2, h3, List.range_succ]
theorem key_node (n : Nd) (h : ndOk n) : ∃ l, keyOf Tryd.prog 74 (ndV n) = some l := by
  obtain ⟨l, hl⟩ := lits_node (Tryd.prog.types.size - 1) n h
  refine ⟨.string (keyBytes l), ?_⟩
  have hf : (ndV n).formed Tryd.prog 74 = true := by simp [ndV, Value.formed, Tryd.underlying74, cellsNode]
  have hc : (ndV n).cells.toList = ndC n := rfl
  unfold keyOf
  rw [Tryd.underlying74]
  simp only [kt1, hf, typesSize, hc]
  rw [hl]
  rfl
theorem key_three (n : Nd) (h : ndOk n) : ∃ l, keyOf Tryd.prog 84 (ndV n) = some l := by
  obtain ⟨l, hl⟩ := lits_key (Tryd.prog.types.size - 1) n h
  refine ⟨.string (keyBytes l), ?_⟩
  have hf : (ndV n).formed Tryd.prog 84 = true := by simp [ndV, Value.formed, Tryd.underlying84, cellsKey]
  have hc : (ndV n).cells.toList = ndC n := rfl
  unfold keyOf
  rw [Tryd.underlying84]
  simp only [kt2, hf, typesSize, hc]
  rw [hl]
  rfl
theorem ndV_inj (x y : Nd) (h : ndV x = ndV y) : x = y := by
  obtain ⟨a, b, c⟩ := x
  obtain ⟨a', b', c'⟩ := y
  simp only [ndV, Value.agg.injEq, Array.mk.injEq, List.cons.injEq, Value.int.injEq, Int.natCast_inj, true_and, and_true] at h
  obtain ⟨rfl, rfl, rfl⟩ := h
  rfl
theorem encNode : KeyEnc Tryd.prog 74 ndV ndOk := ⟨keyNode, ndV_inj, key_node⟩
theorem encThree : KeyEnc Tryd.prog 84 ndV ndOk := ⟨keyThree, ndV_inj, key_three⟩
end Go.Proofs.YtgdmcidcappkpaaDoor
namespace Go.Proofs.YtgdmcidcappkpaaDoor
open Go.RowKit
open Dd (mk)

def num (N : List Nd) (n : Nd) : Option Nat := if n ∈ N then some (N.idxOf n + 2) else none
abbrev MapNum (w : World) (b : Nat) (g : Nd → Option Nat) : Prop := MapT Tryd.prog 74 ndV inV ndOk w b g
abbrev MapKn (w : World) (b : Nat) (g : Nd → Option Nat) : Prop := MapT Tryd.prog 84 ndV inV ndOk w b g

/-- The store at block b: its nodes N, its results G; F: the blocks that are its own. -/
def Sto (w : World) (b : Nat) (N : List Nd) (G : Nd → Option Nat) (F : Nat → Prop) : Prop :=
  ∃ sv m1 m2, Bk w b 89 #[sv, .map (some m1), .map (some m2)] ∧ w.ownsRow 0 74 3 sv N.length (ndsC N) ∧ MapNum w m1 (num N) ∧ MapKn w m2 G ∧ m1 ≠ m2 ∧
    ∀ k, F k ↔ (k = b ∨ k = m1 ∨ k = m2 ∨ sv.ownBlock = some k)

theorem Sto.lt {w : World} {b : Nat} {N : List Nd} {G : Nd → Option Nat} {F : Nat → Prop} (hs : Sto w b N G F) : ∀ x, F x → x < w.heap.size := by
  obtain ⟨sv, m1, m2, hb, hown, hm1, hm2, hne, hF⟩ := hs
  intro x hx
  rcases (hF x).1 hx with rfl | rfl | rfl | h
  · exact hb.lt
  · exact hm1.lt
  · exact hm2.lt
  · exact (hown.lt x h).2
theorem Sto.block {w w' : World} {b : Nat} {N : List Nd} {G : Nd → Option Nat} {F : Nat → Prop} (hs : Sto w b N G F) (hk : ∀ x, F x → w'.heap[x]? = w.heap[x]?) : Sto w' b N G F := by
  obtain ⟨sv, m1, m2, hb, hown, hm1, hm2, hne, hF⟩ := hs
  exact ⟨sv, m1, m2, hb.block (hk _ ((hF _).2 (.inl rfl))), own_keep hown fun k h => hk k ((hF _).2 (.inr (.inr (.inr h)))), hm1.block (hk _ ((hF _).2 (.inr (.inl rfl)))),
    hm2.block (hk _ ((hF _).2 (.inr (.inr (.inl rfl))))), hne, hF⟩
theorem Sto.kept {w w' : World} {b : Nat} {N : List Nd} {G : Nd → Option Nat} {F F' : Nat → Prop} (hs : Sto w b N G F) (hk : Keep F' w w') (hd : ∀ x, F x → ¬ F' x) : Sto w' b N G F :=
  hs.block fun x hx => hk.block x (hs.lt x hx) (hd x hx)

theorem num_snoc (N : List Nd) (n : Nd) (hn : n ∉ N) : (fun y => if y = n then some (N.length + 2) else num N y) = num (N ++ [n]) := by
  funext y
  unfold num
  by_cases hy : y = n
  · subst hy
    simp [List.idxOf_append, hn]
  · by_cases hm : y ∈ N
    · simp [hy, hm, List.idxOf_append]
    · simp [hy, hm]

theorem zeroInt : ∀ w, (zeroValue 3).run Tryd.prog w = .ok (.int .i64 0) w := by intro w; kernel_rfl

set_option maxHeartbeats 400000 in
theorem node_same (p : Value) (v l : Nat) (w : World) :
    Calls Tryd.prog 73 #[p, .int .i64 v, .int .i64 l, .int .i64 l] w fun e w' => e = .returned (.int .i64 l) ∧ w = w' := by
  go_enter Tryd.func73, Tryd.ntmps73
  go_wp2
  go_ret
  exact ⟨rfl, rfl⟩

set_option maxHeartbeats 400000 in
theorem node_old (b : Nat) (sv : Value) (m1 m2 : Nat) (N : List Nd) (v l h : Nat) (w : World) (hb : Bk w b 89 #[sv, .map (some m1), .map (some m2)]) (hm : MapNum w m1 (num N))
    (ho : ndOk (v, l, h)) (hne : l ≠ h) (hin : (v, l, h) ∈ N) :
    Calls Tryd.prog 73 #[.pointer (some ⟨b, 0, none⟩), .int .i64 v, .int .i64 l, .int .i64 h] w fun e w' => e = .returned (inV (N.idxOf (v, l, h) + 2)) ∧ Keep NoF w w' := by
  have hne' : ((l : Int) == (h : Int)) = false := by simp; omega
  have h1 : ∀ n, ((w.alloc (.cells #[.int .i64 v, .int .i64 l, .int .i64 h] 74)).drewN n).cell? ⟨b, 1, none⟩ = some (.map (some m1)) := fun n => by
    have := ((hb.alloc (.cells #[.int .i64 v, .int .i64 l, .int .i64 h] 74)).drewN n).cell 1
    simpa using this
  have hl : ∀ n, (Instr.lookup 86 (.map (some m1)) (.agg #[.int .i64 v, .int .i64 l, .int .i64 h]) true).run Tryd.prog ((w.alloc (.cells #[.int .i64 v, .int .i64 l, .int .i64 h] 74)).drewN n) =
      .ok (.tuple #[.int .i64 ((N.idxOf (v, l, h) + 2 : Nat) : Int), .bool true]) ((w.alloc (.cells #[.int .i64 v, .int .i64 l, .int .i64 h] 74)).drewN n) := fun n => by
    have hm' : MapNum ((w.alloc (.cells #[.int .i64 v, .int .i64 l, .int .i64 h] 74)).drewN n) m1 (num N) := hm.block (Below.heap_alloc w _ m1 hm.lt)
    have := hm'.look encNode Tryd.underlying86 (zeroInt _) (x := (v, l, h)) ho true
    simpa [num, hin, ndV, inV] using this
  clear hm
  generalize N.idxOf (v, l, h) + 2 = r at *
  go_enter Tryd.func73, Tryd.ntmps73
  go_wp2
  go_quiet (fail)
  go_wp2
  go_ret
  exact ⟨rfl, ((Keep.refl _ _).alloc _).drewN _⟩

theorem infoNode : (Tryd.prog.info? 74).map (fun i => (i.zero, i.size, i.bytes)) = some (some (.agg #[.int .i64 0, .int .i64 0, .int .i64 0]), 3, 24) := by kernel_rfl

set_option maxRecDepth 100000 in
set_option maxHeartbeats 1000000 in
theorem node_new (b : Nat) (sv : Value) (m1 m2 : Nat) (N : List Nd) (v l h : Nat) (w : World) (hb : Bk w b 89 #[sv, .map (some m1), .map (some m2)]) (hm : MapNum w m1 (num N))
    (hown : w.ownsRow 0 74 3 sv N.length (ndsC N)) (hlen : N.length ≤ 1099511627776)
    (ho : ndOk (v, l, h)) (hne : l ≠ h) (hin : (v, l, h) ∉ N) :
    Calls Tryd.prog 73 #[.pointer (some ⟨b, 0, none⟩), .int .i64 v, .int .i64 l, .int .i64 h] w fun e w' => e = .returned (inV (N.length + 2)) ∧ 
      ∃ sv', Bk w' b 89 #[sv', .map (some m1), .map (some m2)] ∧ w'.ownsRow 0 74 3 sv' (N.length + 1) (ndsC N ++ ndC (v, l, h)) ∧ MapNum w' m1 (num (N ++ [(v, l, h)])) ∧ Keep (fun k => k = b ∨ k = m1 ∨ sv.ownBlock = some k) w w' ∧
        (∀ k, sv'.ownBlock = some k → sv.ownBlock = some k ∨ w.heap.size ≤ k) := by
  obtain ⟨i0, hi0, hz0, hz1, hz2⟩ := info_parts infoNode
  have hne' : ((l : Int) == (h : Int)) = false := by simp; omega
  have h1 : ∀ n, ((w.alloc (.cells #[.int .i64 v, .int .i64 l, .int .i64 h] 74)).drewN n).cell? ⟨b, 1, none⟩ = some (.map (some m1)) := fun n => by
    have := ((hb.alloc (.cells #[.int .i64 v, .int .i64 l, .int .i64 h] 74)).drewN n).cell 1
    simpa using this
  have hl : ∀ n, (Instr.lookup 86 (.map (some m1)) (.agg #[.int .i64 v, .int .i64 l, .int .i64 h]) true).run Tryd.prog ((w.alloc (.cells #[.int .i64 v, .int .i64 l, .int .i64 h] 74)).drewN n) =
      .ok (.tuple #[.int .i64 0, .bool false]) ((w.alloc (.cells #[.int .i64 v, .int .i64 l, .int .i64 h] 74)).drewN n) := fun n => by
    have hm' : MapNum ((w.alloc (.cells #[.int .i64 v, .int .i64 l, .int .i64 h] 74)).drewN n) m1 (num N) := hm.block (Below.heap_alloc w _ m1 hm.lt)
    have := hm'.look encNode Tryd.underlying86 (zeroInt _) (x := (v, l, h)) ho true
    simpa [num, hin, ndV, inV] using this
  go_enter Tryd.func73, Tryd.ntmps73
  go_wp2
  go_quiet (fail)
  clear hl h1
  go_wp2
  have hbn : w.heap.size ≠ b := by have := hb.lt; omega
  have hs0 : sv.ownBlock ≠ some b := own_ne_bk hown hb (by decide)
  have hsn : sv.ownBlock ≠ some w.heap.size := fun he => by have := (hown.lt _ he).2; omega
  have hb2 := (hb.alloc (.cells #[.int .i64 v, .int .i64 l, .int .i64 h] 74)).drewN nq
  have hn2 := (Bk.new w 74 #[.int .i64 v, .int .i64 l, .int .i64 h]).drewN nq
  have hown2 : ((w.alloc (.cells #[.int .i64 v, .int .i64 l, .int .i64 h] 74)).drewN nq).ownsRow 0 74 3 sv N.length (ndsC N) := own_keep hown fun k hk => Below.heap_alloc w _ k (hown.lt k hk).2
  have hmW0 : MapNum ((w.alloc (.cells #[.int .i64 v, .int .i64 l, .int .i64 h] 74)).drewN nq) m1 (num N) := hm.block (Below.heap_alloc w _ m1 hm.lt)
  have hkW : Keep NoF w ((w.alloc (.cells #[.int .i64 v, .int .i64 l, .int .i64 h] 74)).drewN nq) := ((Keep.refl _ _).alloc _).drewN _
  have hsz : ((w.alloc (.cells #[.int .i64 v, .int .i64 l, .int .i64 h] 74)).drewN nq).heap.size = w.heap.size + 1 := by simp [World.drewN]
  generalize (w.alloc (.cells #[.int .i64 v, .int .i64 l, .int .i64 h] 74)).drewN nq = W at *
  have HS := Lib.hid hsz
  have hmW : MapNum W m1 (num N) := hmW0
  have hmx : some m1 ≠ sv.ownBlock := (own_ne_map hown hm).symm
  have hlt0 : w.heap.size < W.heap.size := by omega
  have hbl : b < W.heap.size := hb2.lt
  clear hsz
  have c0 : W.cell? ⟨b, 0, none⟩ = some sv := by rw [hb2.cell]; rfl
  have c1 : W.cell? ⟨w.heap.size, 0, none⟩ = some (.int .i64 v) := by rw [hn2.cell]; rfl
  have c2 : W.cell? ⟨w.heap.size, 1, none⟩ = some (.int .i64 l) := by rw [hn2.cell]; rfl
  have c3 : W.cell? ⟨w.heap.size, 2, none⟩ = some (.int .i64 h) := by rw [hn2.cell]; rfl
  have f0 : W.frozen? ⟨b, 0, none⟩ = false := hb2.frozen 0
  go_cut [] (fun w' => ∃ gg cap, Bk w' b 89 #[.slice (some ⟨gg, 0, none⟩) (N.length + 1) cap, .map (some m1), .map (some m2)] ∧
    w'.ownsRow 0 74 3 (.slice (some ⟨gg, 0, none⟩) (N.length + 1) cap) (N.length + 1) (ndsC N ++ ndC (v, l, h)) ∧ MapNum w' m1 (num N) ∧ Bk w' w.heap.size 74 #[.int .i64 v, .int .i64 l, .int .i64 h] ∧
    Keep (fun k => k = b ∨ sv.ownBlock = some k) W w' ∧ (sv.ownBlock = some gg ∨ W.heap.size ≤ gg))
  case first =>
    go_region_law
      ((refine step_append_lies _ (by rfl) _ _ _ (by rfl) 0 74 i0 _ 3 24 Tryd.underlying24 hi0 hz0 hz1 hz2 rfl (by omega) sv N.length (ndsC N) (by rfl) ((hown2.alloc _).drew)
          ⟨W.heap.size, 0, none⟩ 1 1 [.int .i64 v, .int .i64 l, .int .i64 h] (by rfl) (by rfl) (World.news_of_block (cs := #[.int .i64 v, .int .i64 l, .int .i64 h]) (t := 74) (fr := (0, 0)) (heap_alloc_new W _)) (by simp [Value.oneCell'])
          (by omega) (by unfold maxLen; omega) (by omega) (by simp) (W.heap.size + 1) (by simp) ?_; intro gg cap w1 hown1 hgrow hat hlt
        have hb3 : Bk w1 b 89 #[sv, .map (some m1), .map (some m2)] := Bk.grown (Bk.drew (Bk.alloc hb2 _)) hgrow (Ne.symm hs0)
        have c4 : w1.cell? ⟨b, 0, none⟩ = some sv := by rw [hb3.cell]; rfl
        have f4 : w1.frozen? ⟨b, 0, none⟩ = false := hb3.frozen 0))
    all_goals
      go_wp2
      go_meet
      case rel =>
        have hmW1 : MapNum w1 m1 (num N) := (hmW.block (w' := W.alloc (.cells #[.int .i64 v, .int .i64 l, .int .i64 h] 74)) (Below.heap_alloc W _ m1 hmW.lt)).block (hgrow.block _ (by have := hmW.lt; simp [World.drew]; omega) hmx)
        have hn3 : Bk w1 w.heap.size 74 #[.int .i64 v, .int .i64 l, .int .i64 h] := Bk.grown (Bk.drew (Bk.alloc hn2 _)) hgrow (Ne.symm hsn)
        refine ⟨gg, cap, hb3.put 0 _, own_keep hown1 (fun k hk => ?_), hmW1.block ?_, hn3.far (by simp; omega) _, ?_, ?_⟩
        · have he : gg = k := by simpa [Value.ownBlock] using hk
          subst he
          exact Below.heap_setCell _ _ _ _ (fun e => own_ne_bk hown1 hb3 (by decide) (by simpa [Value.ownBlock] using e))
        · exact Below.heap_setCell _ _ _ _ (hmW1.ne_bk hb3)
        · exact ((((Keep.refl _ _).alloc _).drew).grown hgrow (fun k hk => .inl (.inr hk))).setCell (.inl (.inl rfl)) _
        · rcases hat with h | h
          · exact .inl h
          · exact .inr (by omega)
  case rest =>
    obtain ⟨gg, cap, hb5, hown5, hm5, hn5, hk5, hg5⟩ := hcut
    clear hm hmW0 hmW c0 c1 c2 c3 f0 hown2 hb2 hn2
    obtain ⟨W3, hrun, hm6, hgr6, _⟩ := MapT.upd (w := wc.drew) hm5 encNode Tryd.underlying86 (x := (v, l, h)) ho (N.length + 2)
    have hrun' : (Instr.mapUpdate 86 (.map (some m1)) (.agg #[.int .i64 v, .int .i64 l, .int .i64 h]) (.int .i64 (IntKind.i64.wrap ((N.length : Int) + 1 + 1)))).run Tryd.prog wc.drew = .ok () W3 := by
      rw [IntWalk.i64_in _ (by omega)]; exact hrun
    clear hrun
    have d0 : wc.cell? ⟨b, 0, none⟩ = some (.slice (some ⟨gg, 0, none⟩) (N.length + 1) cap) := by rw [hb5.cell]; rfl
    have d1 : wc.cell? ⟨b, 1, none⟩ = some (.map (some m1)) := by rw [hb5.cell]; rfl
    have e1 : wc.cell? ⟨w.heap.size, 0, none⟩ = some (.int .i64 v) := by rw [hn5.cell]; rfl
    have e2 : wc.cell? ⟨w.heap.size, 1, none⟩ = some (.int .i64 l) := by rw [hn5.cell]; rfl
    have e3 : wc.cell? ⟨w.heap.size, 2, none⟩ = some (.int .i64 h) := by rw [hn5.cell]; rfl
    have hb6 : Bk W3 b 89 #[.slice (some ⟨gg, 0, none⟩) (N.length + 1) cap, .map (some m1), .map (some m2)] := Bk.grown (Bk.drew hb5) hgr6 (by simpa using (hm5.ne_bk hb5).symm)
    have hn6 : Bk W3 w.heap.size 74 #[.int .i64 v, .int .i64 l, .int .i64 h] := Bk.grown (Bk.drew hn5) hgr6 (by simpa using (hm5.ne_bk hn5).symm)
    have k0 : W3.cell? ⟨b, 0, none⟩ = some (.slice (some ⟨gg, 0, none⟩) (N.length + 1) cap) := by rw [hb6.cell]; rfl
    have k1 : W3.cell? ⟨b, 1, none⟩ = some (.map (some m1)) := by rw [hb6.cell]; rfl
    have g1 : W3.cell? ⟨w.heap.size, 0, none⟩ = some (.int .i64 v) := by rw [hn6.cell]; rfl
    have g2 : W3.cell? ⟨w.heap.size, 1, none⟩ = some (.int .i64 l) := by rw [hn6.cell]; rfl
    have g3 : W3.cell? ⟨w.heap.size, 2, none⟩ = some (.int .i64 h) := by rw [hn6.cell]; rfl
    go_wp2
    go_region_held3 (fun w' => w'.cell? ⟨b, 0, none⟩ = some (.slice (some ⟨gg, 0, none⟩) (N.length + 1) cap) ∧ w'.cell? ⟨b, 1, none⟩ = some (.map (some m1)) ∧
        w'.cell? ⟨w.heap.size, 0, none⟩ = some (.int .i64 v) ∧ w'.cell? ⟨w.heap.size, 1, none⟩ = some (.int .i64 l) ∧ w'.cell? ⟨w.heap.size, 2, none⟩ = some (.int .i64 h))
      (first | exact ⟨k0, k1, g1, g2, g3⟩ | exact ⟨d0, d1, e1, e2, e3⟩) (fail)
    go_wp2
    go_ret
    refine ⟨?_, _, hb6, ?_, ?_, ?_, ?_⟩
    · exact congrArg Ending.returned rfl
    · refine own_keep hown5 fun k hk => ?_
      have he : gg = k := by simpa [Value.ownBlock] using hk
      subst he
      refine hgr6.block _ (own_lt hown5 rfl) (fun e => ?_)
      have e' : gg = m1 := by simpa using e
      subst e'
      exact own_ne_map hown5 hm5 rfl
    · refine (num_snoc N (v, l, h) hin) ▸ hm6.congr fun y => ?_
      by_cases hy : y = (v, l, h) <;> simp [hy]
    · have k1 : Keep (fun k => k = b ∨ k = m1 ∨ sv.ownBlock = some k) w wc := (hkW.mono fun _ _ h => h.elim).trans hk5 fun i _ h => h.elim .inl (fun h => .inr (.inr h))
      exact k1.drew.grown hgr6 fun k hk => .inl (.inr (.inl (by simpa using hk.symm)))
    · intro k hk
      have he : gg = k := by simpa [Value.ownBlock] using hk
      subst he
      rcases hg5 with h | h
      · exact .inl h
      · exact .inr (by omega)

theorem ndsC_snoc (N : List Nd) (n : Nd) : ndsC (N ++ [n]) = ndsC N ++ ndC n := by simp [ndsC]

/-- The method node: the world after it holds the store of mk's nodes. -/
theorem node_any {b : Nat} {N : List Nd} {G : Nd → Option Nat} {F : Nat → Prop} {w : World} (hs : Sto w b N G F) (v l h : Nat) (ho : ndOk (v, l, h)) (hlen : N.length ≤ 1099511627776) :
    Calls Tryd.prog 73 #[.pointer (some ⟨b, 0, none⟩), .int .i64 v, .int .i64 l, .int .i64 h] w fun e w' => ∃ F', e = .returned (.int .i64 ((mk N v l h).1 : Nat)) ∧ Sto w' b (mk N v l h).2 G F' ∧ Keep F w w' ∧
      ∀ k, F' k → F k ∨ w.heap.size ≤ k := by
  obtain ⟨sv, m1, m2, hb, hown, hm1, hm2, hne, hF⟩ := hs
  by_cases hlh : l = h
  · subst hlh
    refine (node_same _ v l w).mono fun e w' ⟨he, hw⟩ => ?_
    subst hw
    refine ⟨F, by simpa [mk, inV] using he, by simpa [mk] using ⟨sv, m1, m2, hb, hown, hm1, hm2, hne, hF⟩, Keep.refl _ _, fun k hk => .inl hk⟩
  · by_cases hin : (v, l, h) ∈ N
    · refine (node_old b sv m1 m2 N v l h w hb hm1 ho hlh hin).mono fun e w' ⟨he, hk⟩ => ?_
      have hk' : ∀ k, k < w.heap.size → w'.heap[k]? = w.heap[k]? := fun k hl => hk.block k hl (fun h => h)
      refine ⟨F, by simpa [mk, hlh, hin, inV] using he, ?_, hk.mono fun _ _ h => h.elim, fun k hk => .inl hk⟩
      simp only [mk, hlh, hin, if_false, if_true]
      exact ⟨sv, m1, m2, hb.block (hk' _ hb.lt), own_keep hown fun k hk => hk' k (hown.lt k hk).2, hm1.block (hk' _ hm1.lt), hm2.block (hk' _ hm2.lt), hne, hF⟩
    · refine (node_new b sv m1 m2 N v l h w hb hm1 hown hlen ho hlh hin).mono fun e w' ⟨he, sv', hb', hown', hm1', hk, hsv⟩ => ?_
      refine ⟨fun k => k = b ∨ k = m1 ∨ k = m2 ∨ sv'.ownBlock = some k, by simpa [mk, hlh, hin, inV] using he, ?_, hk.mono fun i _ h => ?_, fun k h => ?_⟩
      · simp only [mk, hlh, hin, if_false]
        refine ⟨sv', m1, m2, hb', ?_, hm1', hm2.block (hk.block _ hm2.lt ?_), hne, fun k => Iff.rfl⟩
        · rw [ndsC_snoc]; simpa using hown'
        · rintro (h | h | h)
          · exact hm2.ne_bk hb h
          · exact hne h.symm
          · exact own_ne_map hown hm2 h
      · rw [hF]
        rcases h with h | h | h
        · exact .inl h
        · exact .inr (.inl h)
        · exact .inr (.inr (.inr h))
      · rw [hF]
        rcases h with h | h | h | h
        · exact .inl (.inl h)
        · exact .inl (.inr (.inl h))
        · exact .inl (.inr (.inr (.inl h)))
        · rcases hsv k h with h | h
          · exact .inl (.inr (.inr (.inr h)))
          · exact .inr h
end Go.Proofs.YtgdmcidcappkpaaDoor
namespace Go.Proofs.YtgdmcidcappkpaaDoor
open Go.RowKit
open Dd (mk var lo hi atP ldStep)

theorem Rd.kept0 {F : Nat → Prop} {w w' : World} {v : Value} {size n : Nat} {xs : List Value} (h : Rd w v size n xs) (hk : Keep F w w') (hf : 0 < n → ∀ k, v.ownBlock = some k → ¬ F k) : Rd w' v size n xs := by
  by_cases h0 : 0 < n
  · exact h.kept hk (hf h0)
  · obtain ⟨h1, A, c, hv, hc, h2⟩ := h
    exact ⟨h1, A, c, hv, hc, fun h => absurd h h0⟩
theorem ndsC_len (N : List Nd) : (ndsC N).length = N.length * 3 := by
  induction N with
  | nil => rfl
  | cons n N ih => simp only [ndsC, List.flatMap_cons, List.length_append, List.length_cons] at ih ⊢; rw [ih]; simp [ndC]; omega
theorem ndsC_at (N : List Nd) (i : Nat) (n : Nd) (h : N[i]? = some n) : (ndsC N)[i * 3]? = some (.int .i64 n.1) ∧ (ndsC N)[i * 3 + 1]? = some (.int .i64 n.2.1) ∧ (ndsC N)[i * 3 + 2]? = some (.int .i64 n.2.2) := by
  induction N generalizing i with
  | nil => simp at h
  | cons m N ih =>
    cases i with
    | zero =>
      simp at h
      subst h
      simp [ndsC, ndC]
    | succ i =>
      have := ih i (by simpa using h)
      have e : ∀ j, (ndsC (m :: N))[(i + 1) * 3 + j]? = (ndsC N)[i * 3 + j]? := fun j => by
        simp only [ndsC, List.flatMap_cons]
        rw [List.getElem?_append_right (by simp [ndC]; omega)]
        congr 1
        simp [ndC]; omega
      have e0 := e 0
      simp only [Nat.add_zero] at e0
      rw [e0, e, e]
      exact this
/-- The cells of a node of the store. -/
theorem Sto.node {b : Nat} {N : List Nd} {G : Nd → Option Nat} {F : Nat → Prop} {w : World} (hs : Sto w b N G F) {i : Nat} (h2 : 2 ≤ i) (hi : i < N.length + 2) :
    ∃ g c, w.cell? ⟨b, 0, none⟩ = some (.slice (some ⟨g, 0, none⟩) N.length c) ∧ N.length ≤ c ∧ w.cell? ⟨g, (i - 2) * 3, none⟩ = some (.int .i64 (var N i)) ∧ w.cell? ⟨g, (i - 2) * 3 + 1, none⟩ = some (.int .i64 (lo N i)) ∧
      w.cell? ⟨g, (i - 2) * 3 + 2, none⟩ = some (.int .i64 (Dd.hi N i)) := by
  obtain ⟨sv, m1, m2, hb, hown, hm1, hm2, hne, hF⟩ := hs
  have hat := Dd.node_at h2 hi
  obtain ⟨c1, c2, c3⟩ := ndsC_at N (i - 2) _ hat
  rcases hown.2 with ⟨_, h0⟩ | ⟨g, cap, cur, rfl, hbg, hg, hnc, hcm, hcs, htake⟩
  · omega
  · have hc := hown.cells (g := g) rfl
    have e := fun j => Addr.add_lit g 0 j
    refine ⟨g, cap, by rw [hb.cell]; rfl, hnc, ?_, ?_, ?_⟩
    · have := hc _ _ c1; rw [Addr.add_lit] at this; simpa using this
    · have := hc _ _ c2; rw [Addr.add_lit] at this; simpa using this
    · have := hc _ _ c3; rw [Addr.add_lit] at this; simpa using this

set_option maxHeartbeats 400000 in
theorem variable_any {b : Nat} {N : List Nd} {G : Nd → Option Nat} {F : Nat → Prop} {w : World} (hs : Sto w b N G F) (i : Nat) (hi : i < N.length + 2) (hlen : N.length ≤ 1099511627776) :
    Calls Tryd.prog 71 #[.pointer (some ⟨b, 0, none⟩), .int .i64 i] w fun e w' => e = .returned (.int .i64 (var N i)) ∧ w = w' := by
  by_cases h2 : i < 2
  · rw [show var N i = 24 by simp [var, h2]]
    go_enter Tryd.func71, Tryd.ntmps71
    go_wp2
    go_ret
    exact ⟨rfl, rfl⟩
  · obtain ⟨g, c, h0, hc, h1, _, _⟩ := hs.node (by omega) hi
    generalize var N i = v at *
    obtain ⟨j, rfl⟩ : ∃ j, i = j + 2 := ⟨i - 2, by omega⟩
    simp only [Nat.add_sub_cancel] at h1
    clear hs
    generalize hn : N.length = n at *
    have hj : j < n := by omega
    clear hn hi h2
    go_enter Tryd.func71, Tryd.ntmps71
    go_wp2
    go_ret
    exact ⟨rfl, rfl⟩

theorem at_any {b : Nat} {N : List Nd} {G : Nd → Option Nat} {F : Nat → Prop} {w : World} (hs : Sto w b N G F) (i v : Nat) (t : Bool) (hi : i < N.length + 2) (hv : v < 24) (hlen : N.length ≤ 1099511627776) :
    Calls Tryd.prog 72 #[.pointer (some ⟨b, 0, none⟩), .int .i64 i, .int .i64 v, .bool t] w fun e w' => e = .returned (.int .i64 (atP N i v t)) ∧ w = w' := by
  have hvar := variable_any hs i hi hlen
  have HV := Lib.hid hvar
  clear hvar
  by_cases h : var N i = v
  · have h2 : ¬ i < 2 := fun h2 => by rw [show var N i = 24 by simp [var, h2]] at h; omega
    obtain ⟨g, c, h0, hc, _, h1, h3⟩ := hs.node (by omega) hi
    have e1 : ((var N i : Int) != (v : Int)) = false := by rw [h]; simp
    obtain ⟨j, rfl⟩ : ∃ j, i = j + 2 := ⟨i - 2, by omega⟩
    simp only [Nat.add_sub_cancel] at h1 h3
    have ea : atP N (j + 2) v t = if t then Dd.hi N (j + 2) else lo N (j + 2) := by simp [atP, h]
    rw [ea]
    clear ea h h2 hs
    generalize var N (j + 2) = vv at *
    generalize lo N (j + 2) = l at *
    generalize Dd.hi N (j + 2) = r at *
    generalize hn : N.length = n at *
    have hj : j < n := by omega
    clear hn hi
    cases t
    all_goals
      go_enter Tryd.func72, Tryd.ntmps72
      go_wp2_with (go_at_call 71; refine HV.out.mono ?_; rintro e w' ⟨rfl, rfl⟩)
      go_ret
      exact ⟨rfl, rfl⟩
  · have e1 : ((var N i : Int) != (v : Int)) = true := by simp; omega
    have ea : atP N i v t = i := by simp [atP, h]
    rw [ea]
    clear ea h hs
    generalize var N i = vv at *
    go_enter Tryd.func72, Tryd.ntmps72
    go_wp2_with (go_at_call 71; refine HV.out.mono ?_; rintro e w' ⟨rfl, rfl⟩)
    go_ret
    exact ⟨rfl, rfl⟩

theorem infoInt : (Tryd.prog.info? 3).map (fun i => (i.zero, i.size, i.bytes)) = some (some (.int .i64 0), 1, 8) := by kernel_rfl

/-- A new, empty store. -/
theorem newStore_any (w : World) : Calls Tryd.prog 68 #[] w fun e w' => ∃ b F, e = .returned (.pointer (some ⟨b, 0, none⟩)) ∧ Sto w' b [] (fun _ => none) F ∧ Keep NoF w w' ∧ ∀ k, F k → w.heap.size ≤ k := by
  have hmm := @run_makeMap Tryd.prog
  go_enter Tryd.func68, Tryd.ntmps68
  go_wp2
  go_ret
  refine ⟨_, _, rfl, ⟨.slice none 0 0, w.heap.size, w.heap.size + 1, ?_, ?_, ?_, ?_, by omega, fun k => Iff.rfl⟩, ((((Keep.refl _ _).alloc _).alloc _).alloc _), ?_⟩
  · have h := Bk.new ((w.alloc (.map #[] 0)).alloc (.map #[] 0)) 89 #[.slice none 0 0, .map (some w.heap.size), .map (some (w.heap.size + 1))]
    have e : ((w.alloc (.map #[] 0)).alloc (.map #[] 0)).heap.size = w.heap.size + 1 + 1 := by simp
    rw [e] at h
    exact h
  · exact World.ownsRow_nil _ _ _ _
  · have h := MapT.new w Tryd.prog 74 ndV inV ndOk
    have h1 := h.block (w' := (w.alloc (.map #[] 0)).alloc (.map #[] 0)) (Below.heap_alloc _ _ _ h.lt)
    have h2 := h1.block (w' := ((w.alloc (.map #[] 0)).alloc (.map #[] 0)).alloc (.cells #[.slice none 0 0, .map (some w.heap.size), .map (some (w.heap.size + 1))] 89)) (Below.heap_alloc _ _ _ h1.lt)
    exact h2.congr fun x => by simp [num]
  · have h := MapT.new (w.alloc (.map #[] 0)) Tryd.prog 84 ndV inV ndOk
    have h2 := h.block (w' := ((w.alloc (.map #[] 0)).alloc (.map #[] 0)).alloc (.cells #[.slice none 0 0, .map (some w.heap.size), .map (some (w.heap.size + 1))] 89)) (Below.heap_alloc _ _ _ h.lt)
    have e : (w.alloc (.map #[] 0)).heap.size = w.heap.size + 1 := by simp
    rw [e] at h2
    exact h2
  · intro k hk
    rcases hk with h | h | h | h
    · omega
    · omega
    · omega
    · simp [Value.ownBlock] at h

theorem eNodes : ElemT Tryd.prog 24 74 (.agg #[.int .i64 0, .int .i64 0, .int .i64 0]) 3 24 := ⟨Tryd.underlying24, info_parts infoNode, rfl, by omega⟩
theorem eInts : ElemT Tryd.prog 69 3 (.int .i64 0) 1 8 := ⟨Tryd.underlying69, info_parts infoInt, rfl, by omega⟩

/-- The head of load's loop: to holds the new numbers of the first k. -/
def LdLoop (b : Nat) (N M : List Nd) (G : Nd → Option Nat) (F : Nat → Prop) (W0 : World) (k : Nat) (tv : Value) (wr : World) : Prop :=
  k ≤ M.length ∧ ∃ F' g cap, tv = .slice (some ⟨g, 0, none⟩) (k + 2) cap ∧ Sto wr b ((M.take k).foldl ldStep ([0, 1], N)).2 G F' ∧ wr.ownsRow W0.heap.size 3 1 tv (k + 2) (((M.take k).foldl ldStep ([0, 1], N)).1.map inV) ∧
    Keep F W0 wr ∧ (∀ x, F' x → F x ∨ W0.heap.size ≤ x) ∧ ¬ F' g

set_option maxRecDepth 100000 in
set_option maxHeartbeats 1000000 in
theorem load_any {b : Nat} {N : List Nd} {G : Nd → Option Nat} {F : Nat → Prop} {w : World} (hs : Sto w b N G F) (hg : Dd.Good N) (M : List Nd) (hm : Dd.Good M) (V : Int) (sl : Value) (r : Nat) (hr : r < M.length + 2)
    (hM : M.length ≤ 4096) (hlen : N.length ≤ 1099511000000) (hrd : Rd w sl 3 M.length (ndsC M)) (hf : 0 < M.length → ∀ k, sl.ownBlock = some k → ¬ F k) :
    Calls Tryd.prog 69 #[.pointer (some ⟨b, 0, none⟩), .agg #[.int .i64 V, sl, .int .i64 r]] w fun e w' => ∃ F', e = .returned (.int .i64 ((Dd.ld N M).1.getD r 0)) ∧ Sto w' b (Dd.ld N M).2 G F' ∧ Keep F w w' ∧
      ∀ k, F' k → F k ∨ w.heap.size ≤ k := by
  have hrd1 := hrd
  obtain ⟨hx, A, c, rfl, hc, _⟩ := hrd
  go_enter Tryd.func69, Tryd.ntmps69
  go_wp2
  have hFlt : ∀ x, F x → x < w.heap.size := hs.lt
  have hs0 : Sto (w.alloc (.cells #[.int .i64 V, .slice A M.length c, .int .i64 r] 26)) b N G F := hs.block fun k hk => Below.heap_alloc _ _ _ (hFlt k hk)
  have hd0 := Bk.new w 26 #[.int .i64 V, .slice A M.length c, .int .i64 r]
  have hk0 : Keep F w (w.alloc (.cells #[.int .i64 V, .slice A M.length c, .int .i64 r] 26)) := (Keep.refl _ _).alloc _
  have hrd0 : Rd (w.alloc (.cells #[.int .i64 V, .slice A M.length c, .int .i64 r] 26)) (.slice A M.length c) 3 M.length (ndsC M) := hrd1.kept0 hk0 hf
  have hsz : (w.alloc (.cells #[.int .i64 V, .slice A M.length c, .int .i64 r] 26)).heap.size = w.heap.size + 1 := by simp
  have HSZ := Lib.hid hsz
  have hlt0 : w.heap.size < (w.alloc (.cells #[.int .i64 V, .slice A M.length c, .int .i64 r] 26)).heap.size := by omega
  have e1 : ∀ o : Obj, ((w.alloc (.cells #[.int .i64 V, .slice A M.length c, .int .i64 r] 26)).alloc o) = ((w.alloc (.cells #[.int .i64 V, .slice A M.length c, .int .i64 r] 26)).alloc o) := fun _ => rfl
  rw [← hsz]
  clear hsz e1
  generalize (w.alloc (.cells #[.int .i64 V, .slice A M.length c, .int .i64 r] 26)) = W0 at *
  go_loopw [5, 12] (fun tv i wr => ∃ k : Nat, i = .int .i64 k ∧ LdLoop b N M G F W0 k tv wr) (fun _ i _ => M.length - (intOf i).toNat)
  case atStart =>
    refine ⟨0, rfl, by omega, F, W0.heap.size, 2, rfl, ?_, ?_, (Keep.refl _ _).alloc _, fun x hx => .inl hx, fun hx => ?_⟩
    · exact hs0.block fun x hx => Below.heap_alloc _ _ _ (hs0.lt x hx)
    · refine ⟨rfl, .inr ⟨W0.heap.size, 2, #[.int .i64 0, .int .i64 1], rfl, Nat.le_refl _, heap_alloc_new _ _, by omega, by unfold maxLen; omega, rfl, ?_⟩⟩
      simp [inV]
    · have := hs0.lt _ hx
      omega
  case round =>
    obtain ⟨k, rfl, hkM, F', g, cap, rfl, hsk, hown, hkk, hFF, hgF⟩ := hrel
    by_cases hlt : k < M.length
    · obtain ⟨_, _, bl, off, rfl, hcell⟩ := (hrd0.kept0 hkk hf).at_ (by omega)
      have hMk : M[k]? = some M[k] := List.getElem?_eq_getElem (by omega)
      obtain ⟨c1, c2, c3⟩ := ndsC_at M k _ hMk
      have d1 := hcell _ _ c1
      have d2 := hcell _ _ c2
      have d3 := hcell _ _ c3
      generalize M[k] = nk at *
      obtain ⟨v, l, h⟩ := nk
      simp only [← Nat.add_assoc] at d1 d2 d3 hMk
      clear hcell c1 c2 c3
      have hat := Dd.node_at (N := M) (i := k + 2) (by omega) (by omega)
      rw [Nat.add_sub_cancel, hMk] at hat
      simp only [Option.some.injEq, Prod.mk.injEq] at hat
      obtain ⟨ev, el, eh⟩ := hat
      have hl : l < k + 2 := by rw [el]; exact hm.lo_lt _ (by omega) (by omega)
      have hh : h < k + 2 := by rw [eh]; exact hm.hi_lt _ (by omega) (by omega)
      have hv : v < 24 := by rw [ev]; exact hm.bound _ (by omega) (by omega)
      have I := Dd.ld_inv hg hm k (by omega)
      have hst : (M.take (k + 1)).foldl ldStep ([0, 1], N) = ldStep ((M.take k).foldl ldStep ([0, 1], N)) (v, l, h) := by
        rw [List.take_add_one, hMk]; simp
      have HST := Lib.hid hst
      have HEV := Lib.hid (And.intro ev (And.intro el eh))
      clear hst hMk ev el eh
      generalize (M.take k).foldl ldStep ([0, 1], N) = st at *
      obtain ⟨tos, Ns⟩ := st
      have hts := I.size
      simp only at hts hsk hown
      obtain ⟨tl1, _⟩ := I.to l hl
      obtain ⟨th1, _⟩ := I.to h hh
      have hNs := I.len
      simp only at tl1 th1 hNs
      have r1 : (tos.map inV)[l]? = some (.int .i64 (tos.getD l 0)) := by simp [List.getD_eq_getElem?_getD, List.getElem?_eq_getElem (show l < tos.length by omega), inV]
      have r2 : (tos.map inV)[h]? = some (.int .i64 (tos.getD h 0)) := by simp [List.getD_eq_getElem?_getD, List.getElem?_eq_getElem (show h < tos.length by omega), inV]
      have q1 := hown.cells (g := g) rfl _ _ r1
      have q2 := hown.cells (g := g) rfl _ _ r2
      rw [Addr.add_lit] at q1 q2
      simp only [Nat.zero_add] at q1 q2
      have HTS := Lib.hid hts
      clear hts r1 r2 hrd0 hs0
      have hnd : ndOk (v, tos.getD l 0, tos.getD h 0) := ⟨(by unfold tiny; omega : tiny v), (by unfold tiny; omega : tiny (tos.getD l 0)), (by unfold tiny; omega : tiny (tos.getD h 0))⟩
      generalize hgtl : tos.getD l 0 = tl at *
      generalize hgth : tos.getD h 0 = th at *
      have HTL := Lib.hid (And.intro hgtl hgth)
      clear hgtl hgth
      go_wp2
      have hnW := Bk.new wr 74 #[.int .i64 v, .int .i64 l, .int .i64 h]
      have hkW : Keep NoF wr (wr.alloc (.cells #[.int .i64 v, .int .i64 l, .int .i64 h] 74)) := (Keep.refl _ _).alloc _
      have hsW : Sto (wr.alloc (.cells #[.int .i64 v, .int .i64 l, .int .i64 h] 74)).drew b Ns G F' := hsk.kept hkW.drew fun _ _ h => h
      have hownW : (wr.alloc (.cells #[.int .i64 v, .int .i64 l, .int .i64 h] 74)).ownsRow W0.heap.size 3 1 (.slice (some ⟨g, 0, none⟩) (k + 2) cap) (k + 2) (tos.map inV) := hown.alloc _
      have hFn : ¬ F' wr.heap.size := fun hx => by have := hsk.lt _ hx; omega
      have hgn : g ≠ wr.heap.size := by have := (hown.lt g rfl).2; omega
      have p1 := hkW.cellv q1 (fun h => h)
      have p2 := hkW.cellv q2 (fun h => h)
      have n0 := hnW.cell 0
      have n1 := hnW.cell 1
      have n2 := hnW.cell 2
      simp only [List.getElem?_toArray, List.getElem?_cons_zero, List.getElem?_cons_succ] at n0 n1 n2
      have hb0 : W0.heap.size ≤ g := (hown.lt g rfl).1
      clear q1 q2 d1 d2 d3 hsk hown
      have b1 : (0 : Int) ≤ (l : Int) := by omega
      have b2 : (l : Int) < (k : Int) + 2 := by omega
      have b3 : (0 : Int) ≤ (h : Int) := by omega
      have b4 : (h : Int) < (k : Int) + 2 := by omega
      generalize wr.alloc (.cells #[.int .i64 v, .int .i64 l, .int .i64 h] 74) = W1 at *
      go_region_held3 (fun w' => w'.cell? ⟨wr.heap.size, 0, none⟩ = some (.int .i64 v) ∧ w'.cell? ⟨wr.heap.size, 1, none⟩ = some (.int .i64 l) ∧ w'.cell? ⟨wr.heap.size, 2, none⟩ = some (.int .i64 h) ∧
          w'.cell? ⟨g, l, none⟩ = some (.int .i64 tl) ∧ w'.cell? ⟨g, h, none⟩ = some (.int .i64 th))
        (first
          | exact ⟨hA.keep s0 (by simp [Value.ownBlock, hgn]), hA.keep s1 (by simp [Value.ownBlock, hgn]), hA.keep s2 (by simp [Value.ownBlock, hgn]), hA.keep s3 (fun _ => by omega), hA.keep s4 (fun _ => by omega)⟩
          | exact ⟨((Keep.refl NoF _).alloc _).cellv t0 (fun h => h), ((Keep.refl NoF _).alloc _).cellv t1 (fun h => h), ((Keep.refl NoF _).alloc _).cellv t2 (fun h => h), ((Keep.refl NoF _).alloc _).cellv t3 (fun h => h), ((Keep.refl NoF _).alloc _).cellv t4 (fun h => h)⟩
          | exact ⟨t0, t1, t2, t3, t4⟩
          | exact ⟨n0, n1, n2, p1, p2⟩)
        (first
          | (go_at_call 73
             refine (node_any hsW v tl th hnd (by omega)).mono ?_
             rintro e w2 ⟨F2, rfl, hs2, hk2, hF2⟩
             have t0 : w2.cell? ⟨wr.heap.size, 0, none⟩ = some (.int .i64 v) := hk2.cellv (w := W1.drew) n0 hFn
             have t1 : w2.cell? ⟨wr.heap.size, 1, none⟩ = some (.int .i64 l) := hk2.cellv (w := W1.drew) n1 hFn
             have t2 : w2.cell? ⟨wr.heap.size, 2, none⟩ = some (.int .i64 h) := hk2.cellv (w := W1.drew) n2 hFn
             have t3 : w2.cell? ⟨g, l, none⟩ = some (.int .i64 tl) := hk2.cellv (w := W1.drew) p1 hgF
             have t4 : w2.cell? ⟨g, h, none⟩ = some (.int .i64 th) := hk2.cellv (w := W1.drew) p2 hgF
             have hown2 : w2.ownsRow W0.heap.size 3 1 (.slice (some ⟨g, 0, none⟩) (k + 2) cap) (k + 2) (tos.map inV) := own_keep (w := W1.drew) hownW fun x hx => by
               have : g = x := by simpa [Value.ownBlock] using hx
               subst this
               exact hk2.block _ (hownW.lt g rfl).2 hgF
             have hz2 : W0.heap.size ≤ w2.heap.size := Nat.le_of_lt (Nat.lt_of_le_of_lt (hown2.lt g rfl).1 (hown2.lt g rfl).2))
          | (refine step_app (by rfl) eInts (.tmp 16) (.tmp 31) (by rfl) (by rfl) (hown2.alloc _) ⟨w2.heap.size, 0, none⟩ 1 1 [.int .i64 ((mk Ns v tl th).1 : Nat)] (by rfl) (by rfl)
               (World.news_of_block (cs := #[.int .i64 ((mk Ns v tl th).1 : Nat)]) (t := 3) (fr := (0, 0)) (heap_alloc_new w2 _)) (by simp [Value.oneCell']) (by omega) (by omega) (by omega) (by simp; omega) ?_
             intro g2 cap2 w3 hown3 hA
             have s0 := ((Keep.refl NoF _).alloc (.cells #[.int .i64 ((mk Ns v tl th).1 : Nat)] 3)).cellv t0 (fun h => h)
             have s1 := ((Keep.refl NoF _).alloc (.cells #[.int .i64 ((mk Ns v tl th).1 : Nat)] 3)).cellv t1 (fun h => h)
             have s2 := ((Keep.refl NoF _).alloc (.cells #[.int .i64 ((mk Ns v tl th).1 : Nat)] 3)).cellv t2 (fun h => h)
             have s3 := ((Keep.refl NoF _).alloc (.cells #[.int .i64 ((mk Ns v tl th).1 : Nat)] 3)).cellv t3 (fun h => h)
             have s4 := ((Keep.refl NoF _).alloc (.cells #[.int .i64 ((mk Ns v tl th).1 : Nat)] 3)).cellv t4 (fun h => h)))
      go_wp2
      go_roundw
      case rel =>
        have hW1s : W0.heap.size ≤ W1.heap.size := Nat.le_trans hkk.size hkW.size
        have hF2g : ¬ F2 g := fun hx => by
          rcases hF2 g hx with h | h
          · exact hgF h
          · have h' : W1.heap.size ≤ g := h
            have := (hownW.lt g rfl).2
            omega
        have hst : (M.take (k + 1)).foldl ldStep ([0, 1], N) = (tos ++ [(mk Ns v tl th).1], (mk Ns v tl th).2) := by
          rw [HST.out, ← HTL.out.1, ← HTL.out.2]; rfl
        have hk3 : Keep F W0 w3 := by
          refine Keep.grown (((hkk.trans hkW (fun _ _ h => h.elim)).trans hk2.undrew fun x hx h => ?_).alloc _) hA.grown fun x hx => ?_
          · rcases hFF x h with h | h
            · exact h
            · omega
          · have : g = x := by simpa [Value.ownBlock] using hx
            subst this
            exact .inr hb0
        refine ⟨k + 1, by go_num, by omega, F2, g2, cap2, by rw [show k + 2 + 1 = k + 1 + 2 by omega], ?_, ?_, hk3, fun x hx => ?_, fun hx => ?_⟩
        · rw [hst]
          exact (hs2.block fun x hx => Below.heap_alloc _ _ _ (hs2.lt x hx)).block fun x hx => hA.grown.block x (by have := hs2.lt x hx; simp; omega) (by
            simp only [Value.ownBlock]
            intro e
            injection e with e
            exact hF2g (e ▸ hx))
        · rw [hst, show k + 1 + 2 = k + 2 + 1 by omega]
          simpa [inV] using hown3
        · rcases hF2 x hx with h | h
          · exact hFF x h
          · exact .inr (Nat.le_trans hW1s h)
        · rcases hA.at_ with h | h
          · have : g = g2 := by simpa [Value.ownBlock] using h
            exact hF2g (this ▸ hx)
          · have := hs2.lt g2 hx
            simp at h
            omega
      case measure => simp [intOf]; omega
    · have hkM' : k = M.length := by omega
      have hld : (M.take k).foldl ldStep ([0, 1], N) = Dd.ld N M := by rw [hkM', List.take_length]; rfl
      rw [hld] at hsk hown
      have I := Dd.ld_inv hg hm M.length (Nat.le_refl _)
      rw [List.take_length] at I
      have hts : (Dd.ld N M).1.length = M.length + 2 := I.size
      have r1 : ((Dd.ld N M).1.map inV)[r]? = some (.int .i64 ((Dd.ld N M).1.getD r 0)) := by simp [List.getD_eq_getElem?_getD, List.getElem?_eq_getElem (show r < (Dd.ld N M).1.length by omega), inV]
      have q1 := hown.cells (g := g) rfl _ _ r1
      rw [Addr.add_lit] at q1
      simp only [Nat.zero_add] at q1
      have b1 : (0 : Int) ≤ (r : Int) := by omega
      have b2 : (r : Int) < (k : Int) + 2 := by omega
      have hd2 : wr.cell? ⟨w.heap.size, 2, none⟩ = some (.int .i64 r) := hkk.cellv (p := ⟨w.heap.size, 2, none⟩) (hd0.cell 2) (fun (h : F w.heap.size) => absurd (hFlt _ h) (by omega))
      generalize hres : (Dd.ld N M).1.getD r 0 = res at *
      have HR := Lib.hid hres
      clear hres r1 hts I hld hrd0 hs0 hd0 hown
      have HKM := Lib.hid hkM'
      clear hkM'
      go_wp2
      go_ret
      refine ⟨F', by rw [HR.out]; rfl, hsk, (hk0.trans hkk fun x _ h => h), fun x hx => ?_⟩
      rcases hFF x hx with h | h
      · exact .inl h
      · exact .inr (by omega)
end Go.Proofs.YtgdmcidcappkpaaDoor
namespace Go.Proofs.YtgdmcidcappkpaaDoor
open Go.RowKit
open Dd (mk var lo hi atP IteRel MemoOk)

/-- What a call that works on the store leaves: the store grown to N', G', its blocks F' old or new. -/
def StoPost (b : Nat) (F : Nat → Prop) (w : World) (R : Nat → List Nd → (Nd → Option Nat) → Prop) (e : Ending) (w' : World) : Prop :=
  ∃ F' N' G' r, e = .returned (.int .i64 (r : Nat)) ∧ Sto w' b N' G' F' ∧ R r N' G' ∧ Keep F w w' ∧ ∀ k, F' k → F k ∨ w.heap.size ≤ k

def minv (N : List Nd) (x y z : Nat) : Nat := min (var N x) (min (var N y) (var N z))

theorem Sto.known {w : World} {b : Nat} {N : List Nd} {G : Nd → Option Nat} {F : Nat → Prop} (hs : Sto w b N G F) :
    ∃ m2, w.cell? ⟨b, 2, none⟩ = some (.map (some m2)) ∧ MapKn w m2 G ∧ F m2 ∧ F b ∧ b ≠ m2 ∧ ∀ w' G', w.grownBy w' (some m2) → MapKn w' m2 G' → Sto w' b N G' F := by
  obtain ⟨sv, m1, m2, hb, hown, hm1, hm2, hne, hF⟩ := hs
  refine ⟨m2, by rw [hb.cell]; rfl, hm2, (hF _).2 (.inr (.inr (.inl rfl))), (hF _).2 (.inl rfl), fun e => hm2.ne_bk hb e.symm, fun w' G' hg hm => ?_⟩
  refine ⟨sv, m1, m2, hb.grown hg ?_, own_keep hown fun k hk => hg.block k (hown.lt k hk).2 ?_, hm1.block (hg.block _ hm1.lt ?_), hm, hne, hF⟩
  · intro e; injection e with e; exact hm2.ne_bk hb e.symm
  · intro e; injection e with e; exact own_ne_map hown hm2 (e ▸ hk)
  · intro e; injection e with e; exact hne e

section
variable {b : Nat} {N : List Nd} {G : Nd → Option Nat} {F : Nat → Prop} {w : World}

theorem ite_const (hs : Sto w b N G F) (A : Dd.Good N) (B : MemoOk N G) (x y z : Nat) (hy : y < N.length + 2) (h : x = 1 ∨ y = z) :
    Calls Tryd.prog 54 #[.pointer (some ⟨b, 0, none⟩), .int .i64 x, .int .i64 y, .int .i64 z] w (StoPost b F w (fun r N' G' => IteRel N x y z r N' G')) := by
  have hR := Dd.ite_then A B hy h
  have hpost : ∀ e w', e = .returned (.int .i64 y) ∧ w = w' → StoPost b F w (fun r N' G' => IteRel N x y z r N' G') e w' := by
    rintro e w' ⟨rfl, rfl⟩
    exact ⟨F, N, G, y, rfl, hs, hR, Keep.refl _ _, fun k hk => .inl hk⟩
  refine Calls.mono ?_ hpost
  clear hpost hR
  by_cases h1 : x = 1
  · subst h1
    go_enter Tryd.func54, Tryd.ntmps54
    go_wp2
    go_ret
    exact ⟨rfl, rfl⟩
  · have h2 : y = z := by rcases h with h | h; exact (h1 h).elim; exact h
    subst h2
    have e1 : ((x : Int) == 1) = false := by simp; omega
    clear h h1
    go_enter Tryd.func54, Tryd.ntmps54
    go_wp2
    go_ret
    exact ⟨rfl, rfl⟩

theorem ite_zero (hs : Sto w b N G F) (A : Dd.Good N) (B : MemoOk N G) (y z : Nat) (hz : z < N.length + 2) (h : y ≠ z) :
    Calls Tryd.prog 54 #[.pointer (some ⟨b, 0, none⟩), .int .i64 0, .int .i64 y, .int .i64 z] w (StoPost b F w (fun r N' G' => IteRel N 0 y z r N' G')) := by
  have hR := Dd.ite_else A B (b := y) hz
  have hpost : ∀ e w', e = .returned (.int .i64 z) ∧ w = w' → StoPost b F w (fun r N' G' => IteRel N 0 y z r N' G') e w' := by
    rintro e w' ⟨rfl, rfl⟩
    exact ⟨F, N, G, z, rfl, hs, hR, Keep.refl _ _, fun k hk => .inl hk⟩
  refine Calls.mono ?_ hpost
  clear hpost hR
  have e1 : ((y : Int) == (z : Int)) = false := by simp; omega
  go_enter Tryd.func54, Tryd.ntmps54
  go_wp2
  go_ret
  exact ⟨rfl, rfl⟩

set_option maxRecDepth 100000 in
theorem ite_known (hs : Sto w b N G F) (A : Dd.Good N) (B : MemoOk N G) (x y z r : Nat) (hx2 : 2 ≤ x) (hyz : y ≠ z) (hN : N.length ≤ 1099511627776) (hr : G (x, y, z) = some r) :
    Calls Tryd.prog 54 #[.pointer (some ⟨b, 0, none⟩), .int .i64 x, .int .i64 y, .int .i64 z] w (StoPost b F w (fun r N' G' => IteRel N x y z r N' G')) := by
  have hR := Dd.ite_hit A B hr
  obtain ⟨l1, l2, l3, _⟩ := B x y z r hr
  have hpost : ∀ e w', e = .returned (.int .i64 r) ∧ Keep NoF w w' → StoPost b F w (fun r N' G' => IteRel N x y z r N' G') e w' := by
    rintro e w' ⟨rfl, hk⟩
    exact ⟨F, N, G, r, rfl, hs.kept hk fun _ _ h => h, hR, hk.mono fun _ _ h => h.elim, fun k hk => .inl hk⟩
  refine Calls.mono ?_ hpost
  clear hpost hR
  have e1 : ((x : Int) == 1) = false := by simp; omega
  have e2 : ((y : Int) == (z : Int)) = false := by simp; omega
  have e3 : ((x : Int) == 0) = false := by simp; omega
  obtain ⟨m2, hc, hm, _⟩ := hs.known
  have hok : ndOk (x, y, z) := ⟨(by unfold tiny; omega : tiny x), (by unfold tiny; omega : tiny y), (by unfold tiny; omega : tiny z)⟩
  have h1 : ∀ n, ((w.alloc (.cells #[.int .i64 x, .int .i64 y, .int .i64 z] 84)).drewN n).cell? ⟨b, 2, none⟩ = some (.map (some m2)) := fun n => (((Keep.refl NoF _).alloc _).drewN n).cellv hc fun h => h
  have hl : ∀ n, (Instr.lookup 87 (.map (some m2)) (.agg #[.int .i64 x, .int .i64 y, .int .i64 z]) true).run Tryd.prog ((w.alloc (.cells #[.int .i64 x, .int .i64 y, .int .i64 z] 84)).drewN n) =
      .ok (.tuple #[.int .i64 r, .bool true]) ((w.alloc (.cells #[.int .i64 x, .int .i64 y, .int .i64 z] 84)).drewN n) := fun n => by
    have hm' : MapKn ((w.alloc (.cells #[.int .i64 x, .int .i64 y, .int .i64 z] 84)).drewN n) m2 G := hm.block (Below.heap_alloc w _ m2 hm.lt)
    have := hm'.look encThree Tryd.underlying87 (zeroInt _) (x := (x, y, z)) hok true
    simpa [hr, ndV, inV] using this
  clear hm hr
  go_enter Tryd.func54, Tryd.ntmps54
  go_wp2
  go_quiet (fail)
  go_wp2
  go_ret
  exact ⟨rfl, ((Keep.refl _ _).alloc _).drewN _⟩

theorem run_minv (N : List Nd) (x y z : Nat) (w : World) : (Builtin.min_ #[3, 3, 3] 3 #[.int .i64 (var N x), .int .i64 (var N y), .int .i64 (var N z)]).run Tryd.prog w = .ok (.int .i64 (minv N x y z)) w := by
  rw [run_min_int3]
  congr 2
  unfold minv
  split <;> split <;> omega

theorem atP_pre {N N1 : List Nd} (hp : N <+: N1) {i v : Nat} (hi : i < N.length + 2) (hv : v < 24) (t : Bool) : atP N1 i v t = atP N i v t := by
  unfold Dd.atP
  rw [Dd.var_pre hp hi]
  by_cases h : var N i = v
  · have h2 : 2 ≤ i := by
      by_cases h2 : i < 2
      · simp [var, h2] at h; omega
      · omega
    obtain ⟨X, rfl⟩ := hp
    rw [Dd.hi_app h2 hi, Dd.lo_app h2 hi]
  · simp [h]

theorem at_pre {b : Nat} {N N1 : List Nd} {G : Nd → Option Nat} {F : Nat → Prop} {w : World} (hs : Sto w b N1 G F) (hp : N <+: N1) (i v : Nat) (t : Bool) (hi : i < N.length + 2) (hv : v < 24) (hlen : N1.length ≤ 1099511627776) :
    Calls Tryd.prog 72 #[.pointer (some ⟨b, 0, none⟩), .int .i64 i, .int .i64 v, .bool t] w fun e w' => e = .returned (.int .i64 (atP N i v t)) ∧ w = w' := by
  rw [← atP_pre hp hi hv t]
  exact at_any hs i v t (by have := hp.length_le; omega) hv hlen

theorem minv_at {N : List Nd} (A : Dd.Good N) {x y z : Nat} (hx : x < N.length + 2) (hy : y < N.length + 2) (hz : z < N.length + 2) (hv : minv N x y z < 24) (t : Bool) :
    atP N x (minv N x y z) t < N.length + 2 ∧ atP N y (minv N x y z) t < N.length + 2 ∧ atP N z (minv N x y z) t < N.length + 2 ∧
      minv N x y z < minv N (atP N x (minv N x y z) t) (atP N y (minv N x y z) t) (atP N z (minv N x y z) t) := by
  obtain ⟨a1, a2, _⟩ := Dd.at_spec A hx (by unfold minv; omega : minv N x y z ≤ var N x) hv t
  obtain ⟨b1, b2, _⟩ := Dd.at_spec A hy (by unfold minv; omega : minv N x y z ≤ var N y) hv t
  obtain ⟨c1, c2, _⟩ := Dd.at_spec A hz (by unfold minv; omega : minv N x y z ≤ var N z) hv t
  refine ⟨a1, b1, c1, ?_⟩
  generalize hm : minv N x y z = m at *
  show m < min _ (min _ _)
  omega

theorem minv_pre {N N1 : List Nd} (hp : N <+: N1) {x y z : Nat} (hx : x < N.length + 2) (hy : y < N.length + 2) (hz : z < N.length + 2) : minv N1 x y z = minv N x y z := by
  unfold minv
  rw [Dd.var_pre hp hx, Dd.var_pre hp hy, Dd.var_pre hp hz]

theorem pow_half {m m' : Nat} (h : m < m') (h24 : m < 24) : 2 ^ (24 - m') * 2 ≤ 2 ^ (24 - m) := by
  rw [show 24 - m = (23 - m) + 1 by omega, Nat.pow_succ]
  exact Nat.mul_le_mul_right _ (Nat.pow_le_pow_right (by omega) (by omega))

/-- What is known of the calls of lower numbers. -/
def IteIH (b n : Nat) : Prop := ∀ (w : World) (N : List Nd) (G : Nd → Option Nat) (F : Nat → Prop) (x y z : Nat), Sto w b N G F → Dd.Good N → MemoOk N G → x < N.length + 2 → y < N.length + 2 → z < N.length + 2 →
  24 - minv N x y z ≤ n → N.length + 2 ^ (24 - minv N x y z) ≤ 1099511627776 →
  Calls Tryd.prog 54 #[.pointer (some ⟨b, 0, none⟩), .int .i64 x, .int .i64 y, .int .i64 z] w (StoPost b F w (fun r N' G' => IteRel N x y z r N' G'))

set_option maxRecDepth 100000 in
set_option maxHeartbeats 1000000 in
theorem ite_rec {n : Nat} (ih : IteIH b n) (hs : Sto w b N G F) (A : Dd.Good N) (B : MemoOk N G) (x y z : Nat) (hx2 : 2 ≤ x) (hx : x < N.length + 2) (hy : y < N.length + 2) (hz : z < N.length + 2) (hyz : y ≠ z)
    (hn : 24 - minv N x y z ≤ n + 1) (hN : N.length + 2 ^ (24 - minv N x y z) ≤ 1099511627776) (hr : G (x, y, z) = none) :
    Calls Tryd.prog 54 #[.pointer (some ⟨b, 0, none⟩), .int .i64 x, .int .i64 y, .int .i64 z] w (StoPost b F w (fun r N' G' => IteRel N x y z r N' G')) := by
  have IH := Lib.hid ih
  have HB := Lib.hid B
  have hv24 : minv N x y z < 24 := by have := A.bound x hx2 hx; unfold minv; omega
  have hvx : minv N x y z ≤ var N x := by unfold minv; omega
  have hvy : minv N x y z ≤ var N y := by unfold minv; omega
  have hvz : minv N x y z ≤ var N z := by unfold minv; omega
  have HA := Lib.hid A
  have hNb : N.length ≤ 1099511627776 := by have := Nat.two_pow_pos (24 - minv N x y z); omega
  have HN := Lib.hid hN
  have Hn := Lib.hid hn
  clear ih B A hN hn
  have e1 : ((x : Int) == 1) = false := by simp; omega
  have e2 : ((y : Int) == (z : Int)) = false := by simp; omega
  have e3 : ((x : Int) == 0) = false := by simp; omega
  obtain ⟨m2, hc, hm, _⟩ := hs.known
  have hok : ndOk (x, y, z) := ⟨(by unfold tiny; omega : tiny x), (by unfold tiny; omega : tiny y), (by unfold tiny; omega : tiny z)⟩
  have h1 : ∀ n, ((w.alloc (.cells #[.int .i64 x, .int .i64 y, .int .i64 z] 84)).drewN n).cell? ⟨b, 2, none⟩ = some (.map (some m2)) := fun n => (((Keep.refl NoF _).alloc _).drewN n).cellv hc fun h => h
  have hl : ∀ n, (Instr.lookup 87 (.map (some m2)) (.agg #[.int .i64 x, .int .i64 y, .int .i64 z]) true).run Tryd.prog ((w.alloc (.cells #[.int .i64 x, .int .i64 y, .int .i64 z] 84)).drewN n) =
      .ok (.tuple #[.int .i64 0, .bool false]) ((w.alloc (.cells #[.int .i64 x, .int .i64 y, .int .i64 z] 84)).drewN n) := fun n => by
    have hm' : MapKn ((w.alloc (.cells #[.int .i64 x, .int .i64 y, .int .i64 z] 84)).drewN n) m2 G := hm.block (Below.heap_alloc w _ m2 hm.lt)
    have := hm'.look encThree Tryd.underlying87 (zeroInt _) (x := (x, y, z)) hok true
    simpa [hr, ndV, inV] using this
  have HR := Lib.hid hr
  clear hm hr hc
  go_enter Tryd.func54, Tryd.ntmps54
  go_wp2
  go_quiet (fail)
  clear h1 hl
  have hkW : Keep NoF w ((w.alloc (.cells #[.int .i64 x, .int .i64 y, .int .i64 z] 84)).drewN nq) := ((Keep.refl _ _).alloc _).drewN _
  have hKb : Bk ((w.alloc (.cells #[.int .i64 x, .int .i64 y, .int .i64 z] 84)).drewN nq) w.heap.size 84 #[.int .i64 x, .int .i64 y, .int .i64 z] := (Bk.new _ _ _).drewN _
  have hsW : Sto ((w.alloc (.cells #[.int .i64 x, .int .i64 y, .int .i64 z] 84)).drewN nq) b N G F := hs.kept hkW fun _ _ h => h
  have hFw : ¬ F w.heap.size := fun h => by have := hs.lt _ h; omega
  have hlW : w.heap.size < ((w.alloc (.cells #[.int .i64 x, .int .i64 y, .int .i64 z] 84)).drewN nq).heap.size := hKb.lt
  clear hs
  generalize ((w.alloc (.cells #[.int .i64 x, .int .i64 y, .int .i64 z] 84)).drewN nq) = W at *
  have hmin := run_minv N x y z W
  go_wp2_with (first
    | (go_at_call 71; refine (variable_any hsW _ (by omega) hNb).mono ?_; rintro e w' ⟨rfl, rfl⟩)
    | (go_at_call 72; refine (at_any hsW _ (minv N x y z) _ (by omega) hv24 hNb).mono ?_; rintro e w' ⟨rfl, rfl⟩))
  clear hmin
  obtain ⟨a1, a2, a3, a4⟩ := minv_at HA.out hx hy hz hv24 false
  obtain ⟨b1, b2, b3, b4⟩ := minv_at HA.out hx hy hz hv24 true
  have hp1 := pow_half a4 hv24
  have hp2 := pow_half b4 hv24
  have hn1 := Hn.out
  have hN1 := HN.out
  refine (IH.out W N G F _ _ _ hsW HA.out HB.out a1 a2 a3 (by omega) (by omega)).mono ?_
  rintro e w1 ⟨F1, N1, G1, r1, rfl, hs1, R1, hk1, hF1⟩
  have hpre := R1.pre
  have hle := hpre.length_le
  have hlen1 := R1.len
  rw [show min (var N (atP N x (minv N x y z) false)) (min (var N (atP N y (minv N x y z) false)) (var N (atP N z (minv N x y z) false))) = minv N (atP N x (minv N x y z) false) (atP N y (minv N x y z) false) (atP N z (minv N x y z) false) from rfl] at hlen1
  have hb2 : N1.length + 2 ^ (24 - minv N (atP N x (minv N x y z) true) (atP N y (minv N x y z) true) (atP N z (minv N x y z) true)) ≤ 1099511627776 := by omega
  have hN1b : N1.length ≤ 1099511627776 := by have := Nat.two_pow_pos (24 - minv N (atP N x (minv N x y z) true) (atP N y (minv N x y z) true) (atP N z (minv N x y z) true)); omega
  have hm1 : 24 - minv N1 (atP N x (minv N x y z) true) (atP N y (minv N x y z) true) (atP N z (minv N x y z) true) ≤ n := by rw [minv_pre hpre b1 b2 b3]; omega
  have hb3 : N1.length + 2 ^ (24 - minv N1 (atP N x (minv N x y z) true) (atP N y (minv N x y z) true) (atP N z (minv N x y z) true)) ≤ 1099511627776 := by rw [minv_pre hpre b1 b2 b3]; exact hb2
  have HM1 := Lib.hid hm1
  have HB3 := Lib.hid hb3
  clear hm1 hb3 hp1 hp2 hn1 hN1 hlen1 hb2
  have hwF : ¬ F1 w.heap.size := fun h => by
    rcases hF1 _ h with h | h
    · exact hFw h
    · omega
  go_wp2_with (go_at_call 72; refine (at_pre hs1 hpre _ (minv N x y z) _ (by omega) hv24 hN1b).mono ?_; rintro e w' ⟨rfl, rfl⟩)
  refine (IH.out w1 N1 G1 F1 _ _ _ hs1 R1.good R1.memo (by omega) (by omega) (by omega) HM1.out HB3.out).mono ?_
  rintro e w2 ⟨F2, N2, G2, r2, rfl, hs2, R2, hk2, hF2⟩
  have hlen2 : N2.length ≤ 1099511627776 := by
    have h := R2.len
    have h' := HB3.out
    unfold minv at h'
    unfold minv at h
    omega
  have hr1 := R1.lt
  have hr2 := R2.lt
  have hle2 := R2.pre.length_le
  have hok2 : ndOk (minv N x y z, r1, r2) := ⟨(by unfold tiny; omega : tiny (minv N x y z)), (by unfold tiny; omega : tiny r1), (by unfold tiny; omega : tiny r2)⟩
  have hwF2 : ¬ F2 w.heap.size := fun h => by
    rcases hF2 _ h with h | h
    · exact hwF h
    · have := hk1.size; omega
  go_wp2_with fail
  refine (node_any hs2 (minv N x y z) r1 r2 hok2 hlen2).mono ?_
  rintro e w3 ⟨F3, rfl, hs3, hk3, hF3⟩
  have hRel := Lib.hid (fun G' hG' => Dd.ite_step HA.out hx hy hz hx2 rfl R1 R2 G' hG')
  have hwF3 : ¬ F3 w.heap.size := fun h => by
    rcases hF3 _ h with h | h
    · exact hwF2 h
    · have := hk1.size; have := hk2.size; omega
  obtain ⟨m3, hc3, hm3, hFm3, hFb3, hbm3, hput⟩ := hs3.known
  have hkey := ((hKb.keep hk1 hFw).keep hk2 hwF).keep hk3 hwF2
  have c0 := hkey.cell 0
  have c1 := hkey.cell 1
  have c2 := hkey.cell 2
  simp only [List.getElem?_toArray, List.getElem?_cons_zero, List.getElem?_cons_succ] at c0 c1 c2
  obtain ⟨w4, hrun, hm4, hg4, _⟩ := MapT.upd (w := w3.drew) hm3 encThree Tryd.underlying87 (x := (x, y, z)) hok (mk N2 (minv N x y z) r1 r2).1
  have hrun' : (Instr.mapUpdate 87 (.map (some m3)) (.agg #[.int .i64 x, .int .i64 y, .int .i64 z]) (.int .i64 ((mk N2 (minv N x y z) r1 r2).1 : Nat))).run Tryd.prog w3.drew = .ok () w4 := hrun
  clear hrun
  have hs4 := hput w4 _ ⟨hg4.os, hg4.tape, hg4.output, hg4.size, hg4.block⟩ hm4
  have hk4 : Keep F3 w3 w4 := (Keep.refl F3 w3).drew.grown hg4 fun k hk => .inl (by injection hk with hk; exact hk ▸ hFm3)
  have d0 : w4.cell? ⟨w.heap.size, 0, none⟩ = some (.int .i64 x) := hk4.cellv c0 hwF3
  have d1 : w4.cell? ⟨w.heap.size, 1, none⟩ = some (.int .i64 y) := hk4.cellv c1 hwF3
  have d2 : w4.cell? ⟨w.heap.size, 2, none⟩ = some (.int .i64 z) := hk4.cellv c2 hwF3
  have d3 : w4.cell? ⟨b, 2, none⟩ = some (.map (some m3)) := hg4.cell (a := ⟨b, 2, none⟩) hc3 (by simpa using hbm3)
  clear hsW hs1 hs2 hkey
  go_wp2
  go_region_held3 (fun w' => w'.cell? ⟨b, 2, none⟩ = some (.map (some m3)) ∧ w'.cell? ⟨w.heap.size, 0, none⟩ = some (.int .i64 x) ∧ w'.cell? ⟨w.heap.size, 1, none⟩ = some (.int .i64 y) ∧ w'.cell? ⟨w.heap.size, 2, none⟩ = some (.int .i64 z))
    (first | exact ⟨hc3, c0, c1, c2⟩ | exact ⟨d3, d0, d1, d2⟩) (fail)
  go_wp2
  go_ret
  refine ⟨F3, _, _, _, rfl, hs4, hRel.out _ ?_, ?_, ?_⟩
  · intro u s hus
    by_cases hu : u = (x, y, z)
    · subst hu
      simp at hus
      exact .inl ⟨rfl, hus.symm⟩
    · simp [hu] at hus
      exact .inr hus
  · exact (grow_trans (F1 := F) ⟨hkW.mono fun _ _ h => h.elim, fun k h => .inl h⟩ (grow_trans ⟨hk1, hF1⟩ (grow_trans ⟨hk2, hF2⟩ (grow_trans ⟨hk3, hF3⟩ ⟨hk4, fun k (h : F3 k) => .inl h⟩)))).1
  · exact (grow_trans (F1 := F) ⟨hkW.mono fun _ _ h => h.elim, fun k h => .inl h⟩ (grow_trans ⟨hk1, hF1⟩ (grow_trans ⟨hk2, hF2⟩ (grow_trans ⟨hk3, hF3⟩ ⟨hk4, fun k (h : F3 k) => .inl h⟩)))).2

/-- The method ite. -/
theorem ite_fuel (b : Nat) : ∀ n, IteIH b n := by
  intro n
  induction n with
  | zero =>
    intro w N G F x y z hs A B hx hy hz hn hN
    have hm : minv N x y z ≤ 24 := by have := Dd.var_le A hx; unfold minv; omega
    have hx2 : x < 2 := by
      by_cases h : x < 2
      · exact h
      · have := A.bound x (by omega) hx
        unfold minv at hn
        omega
    have hx' : x = 0 ∨ x = 1 := by omega
    by_cases hyz : y = z
    · exact ite_const hs A B x y z hy (.inr hyz)
    · rcases hx' with rfl | rfl
      · exact ite_zero hs A B y z hz hyz
      · exact ite_const hs A B 1 y z hy (.inl rfl)
  | succ n ih =>
    intro w N G F x y z hs A B hx hy hz hn hN
    by_cases hyz : x = 1 ∨ y = z
    · exact ite_const hs A B x y z hy hyz
    · have h1 : x ≠ 1 := fun h => hyz (.inl h)
      have h2 : y ≠ z := fun h => hyz (.inr h)
      by_cases h0 : x = 0
      · subst h0
        exact ite_zero hs A B y z hz h2
      · have hNb : N.length ≤ 1099511627776 := by have := Nat.two_pow_pos (24 - minv N x y z); omega
        cases hr : G (x, y, z) with
        | some r => exact ite_known hs A B x y z r (by omega) h2 hNb hr
        | none => exact ite_rec ih hs A B x y z (by omega) hx hy hz h2 hn hN hr

theorem ite_any {w : World} {b : Nat} {N : List Nd} {G : Nd → Option Nat} {F : Nat → Prop} (hs : Sto w b N G F) (A : Dd.Good N) (B : MemoOk N G) (x y z : Nat) (hx : x < N.length + 2) (hy : y < N.length + 2) (hz : z < N.length + 2)
    (hN : N.length + 16777216 ≤ 1099511627776) :
    Calls Tryd.prog 54 #[.pointer (some ⟨b, 0, none⟩), .int .i64 x, .int .i64 y, .int .i64 z] w (StoPost b F w (fun r N' G' => IteRel N x y z r N' G')) :=
  ite_fuel b 24 w N G F x y z hs A B hx hy hz (by omega) (by
    have : 2 ^ (24 - minv N x y z) ≤ 2 ^ 24 := Nat.pow_le_pow_right (by omega) (by omega)
    omega)
end
end Go.Proofs.YtgdmcidcappkpaaDoor
