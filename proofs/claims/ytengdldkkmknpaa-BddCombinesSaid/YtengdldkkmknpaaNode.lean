/- What the store's method node does. No condition. -/
import Derived.Test.YtengdldkkmknpaaStore
import Derived.Test.YtengdldkkmknpaaLaw
set_option linter.unusedVariables false
set_option linter.unusedSimpArgs false
namespace Go.Proofs.Ytengdldkkmknpaa
open Go.RowKit
open Dd (mk)

def num (N : List Nd) (n : Nd) : Option Nat := if n ∈ N then some (N.idxOf n + 2) else none
abbrev MapNum (w : World) (b : Nat) (g : Nd → Option Nat) : Prop := MapT Try.prog 63 ndV inV ndOk w b g
abbrev MapKn (w : World) (b : Nat) (g : Nd → Option Nat) : Prop := MapT Try.prog 92 ndV inV ndOk w b g

/-- The store at block b: its nodes N, its results G; F: the blocks that are its own. -/
def Sto (w : World) (b : Nat) (N : List Nd) (G : Nd → Option Nat) (F : Nat → Prop) : Prop :=
  ∃ sv m1 m2, Bk w b 87 #[sv, .map (some m1), .map (some m2)] ∧ w.ownsRow 0 63 3 sv N.length (ndsC N) ∧ MapNum w m1 (num N) ∧ MapKn w m2 G ∧ m1 ≠ m2 ∧
    ∀ k, F k ↔ (k = b ∨ k = m1 ∨ k = m2 ∨ sv.ownBlock = some k)

theorem Sto.lt {w : World} {b : Nat} {N : List Nd} {G : Nd → Option Nat} {F : Nat → Prop} (hs : Sto w b N G F) : ∀ x, F x → x < w.heap.size := by
  obtain ⟨sv, m1, m2, hb, hown, hm1, hm2, hne, hF⟩ := hs
  intro x hx
  rcases (hF x).1 hx with rfl | rfl | rfl | h
  · exact hb.lt
  · exact hm1.lt
  · exact hm2.lt
  · exact (hown.lt x h).2
theorem Sto.block {w w' : World} {b : Nat} {N : List Nd} {G : Nd → Option Nat} {F : Nat → Prop} (hs : Sto w b N G F) (hk : ∀ x, F x → w'.heap[x]? = w.heap[x]?) : Sto w' b N G F := by
  obtain ⟨sv, m1, m2, hb, hown, hm1, hm2, hne, hF⟩ := hs
  exact ⟨sv, m1, m2, hb.block (hk _ ((hF _).2 (.inl rfl))), own_keep hown fun k h => hk k ((hF _).2 (.inr (.inr (.inr h)))), hm1.block (hk _ ((hF _).2 (.inr (.inl rfl)))),
    hm2.block (hk _ ((hF _).2 (.inr (.inr (.inl rfl))))), hne, hF⟩
theorem Sto.kept {w w' : World} {b : Nat} {N : List Nd} {G : Nd → Option Nat} {F F' : Nat → Prop} (hs : Sto w b N G F) (hk : Keep F' w w') (hd : ∀ x, F x → ¬ F' x) : Sto w' b N G F :=
  hs.block fun x hx => hk.block x (hs.lt x hx) (hd x hx)

theorem num_snoc (N : List Nd) (n : Nd) (hn : n ∉ N) : (fun y => if y = n then some (N.length + 2) else num N y) = num (N ++ [n]) := by
  funext y
  unfold num
  by_cases hy : y = n
  · subst hy
    simp [List.idxOf_append, hn]
  · by_cases hm : y ∈ N
    · simp [hy, hm, List.idxOf_append]
    · simp [hy, hm]

theorem zeroInt : ∀ w, (zeroValue 3).run Try.prog w = .ok (.int .i64 0) w := by intro w; kernel_rfl

set_option maxHeartbeats 400000 in
theorem node_same (p : Value) (v l : Nat) (w : World) :
    Calls Try.prog 83 #[p, .int .i64 v, .int .i64 l, .int .i64 l] w fun e w' => e = .returned (.int .i64 l) ∧ w = w' := by
  go_enter Try.func83, Try.ntmps83
  go_wp2
  go_ret
  exact ⟨rfl, rfl⟩

set_option maxHeartbeats 400000 in
theorem node_old (b : Nat) (sv : Value) (m1 m2 : Nat) (N : List Nd) (v l h : Nat) (w : World) (hb : Bk w b 87 #[sv, .map (some m1), .map (some m2)]) (hm : MapNum w m1 (num N))
    (ho : ndOk (v, l, h)) (hne : l ≠ h) (hin : (v, l, h) ∈ N) :
    Calls Try.prog 83 #[.pointer (some ⟨b, 0, none⟩), .int .i64 v, .int .i64 l, .int .i64 h] w fun e w' => e = .returned (inV (N.idxOf (v, l, h) + 2)) ∧ Keep NoF w w' := by
  have hne' : ((l : Int) == (h : Int)) = false := by simp; omega
  have h1 : ∀ n, ((w.alloc (.cells #[.int .i64 v, .int .i64 l, .int .i64 h] 63)).drewN n).cell? ⟨b, 1, none⟩ = some (.map (some m1)) := fun n => by
    have := ((hb.alloc (.cells #[.int .i64 v, .int .i64 l, .int .i64 h] 63)).drewN n).cell 1
    simpa using this
  have hl : ∀ n, (Instr.lookup 84 (.map (some m1)) (.agg #[.int .i64 v, .int .i64 l, .int .i64 h]) true).run Try.prog ((w.alloc (.cells #[.int .i64 v, .int .i64 l, .int .i64 h] 63)).drewN n) =
      .ok (.tuple #[.int .i64 ((N.idxOf (v, l, h) + 2 : Nat) : Int), .bool true]) ((w.alloc (.cells #[.int .i64 v, .int .i64 l, .int .i64 h] 63)).drewN n) := fun n => by
    have hm' : MapNum ((w.alloc (.cells #[.int .i64 v, .int .i64 l, .int .i64 h] 63)).drewN n) m1 (num N) := hm.block (Below.heap_alloc w _ m1 hm.lt)
    have := hm'.look encNode Try.underlying84 (zeroInt _) (x := (v, l, h)) ho true
    simpa [num, hin, ndV, inV] using this
  clear hm
  generalize N.idxOf (v, l, h) + 2 = r at *
  go_enter Try.func83, Try.ntmps83
  go_wp2
  go_quiet (fail)
  go_wp2
  go_ret
  exact ⟨rfl, ((Keep.refl _ _).alloc _).drewN _⟩

theorem infoNode : (Try.prog.info? 63).map (fun i => (i.zero, i.size, i.bytes)) = some (some (.agg #[.int .i64 0, .int .i64 0, .int .i64 0]), 3, 24) := by kernel_rfl

set_option maxRecDepth 100000 in
set_option maxHeartbeats 1000000 in
theorem node_new (b : Nat) (sv : Value) (m1 m2 : Nat) (N : List Nd) (v l h : Nat) (w : World) (hb : Bk w b 87 #[sv, .map (some m1), .map (some m2)]) (hm : MapNum w m1 (num N))
    (hown : w.ownsRow 0 63 3 sv N.length (ndsC N)) (hlen : N.length ≤ 1099511627776)
    (ho : ndOk (v, l, h)) (hne : l ≠ h) (hin : (v, l, h) ∉ N) :
    Calls Try.prog 83 #[.pointer (some ⟨b, 0, none⟩), .int .i64 v, .int .i64 l, .int .i64 h] w fun e w' => e = .returned (inV (N.length + 2)) ∧ 
      ∃ sv', Bk w' b 87 #[sv', .map (some m1), .map (some m2)] ∧ w'.ownsRow 0 63 3 sv' (N.length + 1) (ndsC N ++ ndC (v, l, h)) ∧ MapNum w' m1 (num (N ++ [(v, l, h)])) ∧ Keep (fun k => k = b ∨ k = m1 ∨ sv.ownBlock = some k) w w' ∧
        (∀ k, sv'.ownBlock = some k → sv.ownBlock = some k ∨ w.heap.size ≤ k) := by
  obtain ⟨i0, hi0, hz0, hz1, hz2⟩ := info_parts infoNode
  have hne' : ((l : Int) == (h : Int)) = false := by simp; omega
  have h1 : ∀ n, ((w.alloc (.cells #[.int .i64 v, .int .i64 l, .int .i64 h] 63)).drewN n).cell? ⟨b, 1, none⟩ = some (.map (some m1)) := fun n => by
    have := ((hb.alloc (.cells #[.int .i64 v, .int .i64 l, .int .i64 h] 63)).drewN n).cell 1
    simpa using this
  have hl : ∀ n, (Instr.lookup 84 (.map (some m1)) (.agg #[.int .i64 v, .int .i64 l, .int .i64 h]) true).run Try.prog ((w.alloc (.cells #[.int .i64 v, .int .i64 l, .int .i64 h] 63)).drewN n) =
      .ok (.tuple #[.int .i64 0, .bool false]) ((w.alloc (.cells #[.int .i64 v, .int .i64 l, .int .i64 h] 63)).drewN n) := fun n => by
    have hm' : MapNum ((w.alloc (.cells #[.int .i64 v, .int .i64 l, .int .i64 h] 63)).drewN n) m1 (num N) := hm.block (Below.heap_alloc w _ m1 hm.lt)
    have := hm'.look encNode Try.underlying84 (zeroInt _) (x := (v, l, h)) ho true
    simpa [num, hin, ndV, inV] using this
  go_enter Try.func83, Try.ntmps83
  go_wp2
  go_quiet (fail)
  clear hl h1
  go_wp2
  have hbn : w.heap.size ≠ b := by have := hb.lt; omega
  have hs0 : sv.ownBlock ≠ some b := own_ne_bk hown hb (by decide)
  have hsn : sv.ownBlock ≠ some w.heap.size := fun he => by have := (hown.lt _ he).2; omega
  have hb2 := (hb.alloc (.cells #[.int .i64 v, .int .i64 l, .int .i64 h] 63)).drewN nq
  have hn2 := (Bk.new w 63 #[.int .i64 v, .int .i64 l, .int .i64 h]).drewN nq
  have hown2 : ((w.alloc (.cells #[.int .i64 v, .int .i64 l, .int .i64 h] 63)).drewN nq).ownsRow 0 63 3 sv N.length (ndsC N) := own_keep hown fun k hk => Below.heap_alloc w _ k (hown.lt k hk).2
  have hmW0 : MapNum ((w.alloc (.cells #[.int .i64 v, .int .i64 l, .int .i64 h] 63)).drewN nq) m1 (num N) := hm.block (Below.heap_alloc w _ m1 hm.lt)
  have hkW : Keep NoF w ((w.alloc (.cells #[.int .i64 v, .int .i64 l, .int .i64 h] 63)).drewN nq) := ((Keep.refl _ _).alloc _).drewN _
  have hsz : ((w.alloc (.cells #[.int .i64 v, .int .i64 l, .int .i64 h] 63)).drewN nq).heap.size = w.heap.size + 1 := by simp [World.drewN]
  generalize (w.alloc (.cells #[.int .i64 v, .int .i64 l, .int .i64 h] 63)).drewN nq = W at *
  have HS := Lib.hid hsz
  have hmW : MapNum W m1 (num N) := hmW0
  have hmx : some m1 ≠ sv.ownBlock := (own_ne_map hown hm).symm
  have hlt0 : w.heap.size < W.heap.size := by omega
  have hbl : b < W.heap.size := hb2.lt
  clear hsz
  have c0 : W.cell? ⟨b, 0, none⟩ = some sv := by rw [hb2.cell]; rfl
  have c1 : W.cell? ⟨w.heap.size, 0, none⟩ = some (.int .i64 v) := by rw [hn2.cell]; rfl
  have c2 : W.cell? ⟨w.heap.size, 1, none⟩ = some (.int .i64 l) := by rw [hn2.cell]; rfl
  have c3 : W.cell? ⟨w.heap.size, 2, none⟩ = some (.int .i64 h) := by rw [hn2.cell]; rfl
  have f0 : W.frozen? ⟨b, 0, none⟩ = false := hb2.frozen 0
  go_cut [] (fun w' => ∃ gg cap, Bk w' b 87 #[.slice (some ⟨gg, 0, none⟩) (N.length + 1) cap, .map (some m1), .map (some m2)] ∧
    w'.ownsRow 0 63 3 (.slice (some ⟨gg, 0, none⟩) (N.length + 1) cap) (N.length + 1) (ndsC N ++ ndC (v, l, h)) ∧ MapNum w' m1 (num N) ∧ Bk w' w.heap.size 63 #[.int .i64 v, .int .i64 l, .int .i64 h] ∧
    Keep (fun k => k = b ∨ sv.ownBlock = some k) W w' ∧ (sv.ownBlock = some gg ∨ W.heap.size ≤ gg))
  case first =>
    go_region_law
      ((refine step_append_lies _ (by rfl) _ _ _ (by rfl) 0 63 i0 _ 3 24 Try.underlying22 hi0 hz0 hz1 hz2 rfl (by omega) sv N.length (ndsC N) (by rfl) ((hown2.alloc _).drew)
          ⟨W.heap.size, 0, none⟩ 1 1 [.int .i64 v, .int .i64 l, .int .i64 h] (by rfl) (by rfl) (World.news_of_block (cs := #[.int .i64 v, .int .i64 l, .int .i64 h]) (t := 63) (fr := (0, 0)) (heap_alloc_new W _)) (by simp [Value.oneCell'])
          (by omega) (by unfold maxLen; omega) (by omega) (by simp) (W.heap.size + 1) (by simp) ?_; intro gg cap w1 hown1 hgrow hat hlt
        have hb3 : Bk w1 b 87 #[sv, .map (some m1), .map (some m2)] := Bk.grown (Bk.drew (Bk.alloc hb2 _)) hgrow (Ne.symm hs0)
        have c4 : w1.cell? ⟨b, 0, none⟩ = some sv := by rw [hb3.cell]; rfl
        have f4 : w1.frozen? ⟨b, 0, none⟩ = false := hb3.frozen 0))
    all_goals
      go_wp2
      go_meet
      case rel =>
        have hmW1 : MapNum w1 m1 (num N) := (hmW.block (w' := W.alloc (.cells #[.int .i64 v, .int .i64 l, .int .i64 h] 63)) (Below.heap_alloc W _ m1 hmW.lt)).block (hgrow.block _ (by have := hmW.lt; simp [World.drew]; omega) hmx)
        have hn3 : Bk w1 w.heap.size 63 #[.int .i64 v, .int .i64 l, .int .i64 h] := Bk.grown (Bk.drew (Bk.alloc hn2 _)) hgrow (Ne.symm hsn)
        refine ⟨gg, cap, hb3.put 0 _, own_keep hown1 (fun k hk => ?_), hmW1.block ?_, hn3.far (by simp; omega) _, ?_, ?_⟩
        · have he : gg = k := by simpa [Value.ownBlock] using hk
          subst he
          exact Below.heap_setCell _ _ _ _ (fun e => own_ne_bk hown1 hb3 (by decide) (by simpa [Value.ownBlock] using e))
        · exact Below.heap_setCell _ _ _ _ (hmW1.ne_bk hb3)
        · exact ((((Keep.refl _ _).alloc _).drew).grown hgrow (fun k hk => .inl (.inr hk))).setCell (.inl (.inl rfl)) _
        · rcases hat with h | h
          · exact .inl h
          · exact .inr (by omega)
  case rest =>
    obtain ⟨gg, cap, hb5, hown5, hm5, hn5, hk5, hg5⟩ := hcut
    clear hm hmW0 hmW c0 c1 c2 c3 f0 hown2 hb2 hn2
    obtain ⟨W3, hrun, hm6, hgr6, _⟩ := MapT.upd (w := wc.drew) hm5 encNode Try.underlying84 (x := (v, l, h)) ho (N.length + 2)
    have hrun' : (Instr.mapUpdate 84 (.map (some m1)) (.agg #[.int .i64 v, .int .i64 l, .int .i64 h]) (.int .i64 (IntKind.i64.wrap ((N.length : Int) + 1 + 1)))).run Try.prog wc.drew = .ok () W3 := by
      rw [IntWalk.i64_in _ (by omega)]; exact hrun
    clear hrun
    have d0 : wc.cell? ⟨b, 0, none⟩ = some (.slice (some ⟨gg, 0, none⟩) (N.length + 1) cap) := by rw [hb5.cell]; rfl
    have d1 : wc.cell? ⟨b, 1, none⟩ = some (.map (some m1)) := by rw [hb5.cell]; rfl
    have e1 : wc.cell? ⟨w.heap.size, 0, none⟩ = some (.int .i64 v) := by rw [hn5.cell]; rfl
    have e2 : wc.cell? ⟨w.heap.size, 1, none⟩ = some (.int .i64 l) := by rw [hn5.cell]; rfl
    have e3 : wc.cell? ⟨w.heap.size, 2, none⟩ = some (.int .i64 h) := by rw [hn5.cell]; rfl
    have hb6 : Bk W3 b 87 #[.slice (some ⟨gg, 0, none⟩) (N.length + 1) cap, .map (some m1), .map (some m2)] := Bk.grown (Bk.drew hb5) hgr6 (by simpa using (hm5.ne_bk hb5).symm)
    have hn6 : Bk W3 w.heap.size 63 #[.int .i64 v, .int .i64 l, .int .i64 h] := Bk.grown (Bk.drew hn5) hgr6 (by simpa using (hm5.ne_bk hn5).symm)
    have k0 : W3.cell? ⟨b, 0, none⟩ = some (.slice (some ⟨gg, 0, none⟩) (N.length + 1) cap) := by rw [hb6.cell]; rfl
    have k1 : W3.cell? ⟨b, 1, none⟩ = some (.map (some m1)) := by rw [hb6.cell]; rfl
    have g1 : W3.cell? ⟨w.heap.size, 0, none⟩ = some (.int .i64 v) := by rw [hn6.cell]; rfl
    have g2 : W3.cell? ⟨w.heap.size, 1, none⟩ = some (.int .i64 l) := by rw [hn6.cell]; rfl
    have g3 : W3.cell? ⟨w.heap.size, 2, none⟩ = some (.int .i64 h) := by rw [hn6.cell]; rfl
    go_wp2
    go_region_held3 (fun w' => w'.cell? ⟨b, 0, none⟩ = some (.slice (some ⟨gg, 0, none⟩) (N.length + 1) cap) ∧ w'.cell? ⟨b, 1, none⟩ = some (.map (some m1)) ∧
        w'.cell? ⟨w.heap.size, 0, none⟩ = some (.int .i64 v) ∧ w'.cell? ⟨w.heap.size, 1, none⟩ = some (.int .i64 l) ∧ w'.cell? ⟨w.heap.size, 2, none⟩ = some (.int .i64 h))
      (first | exact ⟨k0, k1, g1, g2, g3⟩ | exact ⟨d0, d1, e1, e2, e3⟩) (fail)
    go_wp2
    go_ret
    refine ⟨?_, _, hb6, ?_, ?_, ?_, ?_⟩
    · exact congrArg Ending.returned rfl
    · refine own_keep hown5 fun k hk => ?_
      have he : gg = k := by simpa [Value.ownBlock] using hk
      subst he
      refine hgr6.block _ (own_lt hown5 rfl) (fun e => ?_)
      have e' : gg = m1 := by simpa using e
      subst e'
      exact own_ne_map hown5 hm5 rfl
    · refine (num_snoc N (v, l, h) hin) ▸ hm6.congr fun y => ?_
      by_cases hy : y = (v, l, h) <;> simp [hy]
    · have k1 : Keep (fun k => k = b ∨ k = m1 ∨ sv.ownBlock = some k) w wc := (hkW.mono fun _ _ h => h.elim).trans hk5 fun i _ h => h.elim .inl (fun h => .inr (.inr h))
      exact k1.drew.grown hgr6 fun k hk => .inl (.inr (.inl (by simpa using hk.symm)))
    · intro k hk
      have he : gg = k := by simpa [Value.ownBlock] using hk
      subst he
      rcases hg5 with h | h
      · exact .inl h
      · exact .inr (by omega)

theorem ndsC_snoc (N : List Nd) (n : Nd) : ndsC (N ++ [n]) = ndsC N ++ ndC n := by simp [ndsC]

/-- The method node: the world after it holds the store of mk's nodes. -/
theorem node_any {b : Nat} {N : List Nd} {G : Nd → Option Nat} {F : Nat → Prop} {w : World} (hs : Sto w b N G F) (v l h : Nat) (ho : ndOk (v, l, h)) (hlen : N.length ≤ 1099511627776) :
    Calls Try.prog 83 #[.pointer (some ⟨b, 0, none⟩), .int .i64 v, .int .i64 l, .int .i64 h] w fun e w' => ∃ F', e = .returned (.int .i64 ((mk N v l h).1 : Nat)) ∧ Sto w' b (mk N v l h).2 G F' ∧ Keep F w w' ∧
      ∀ k, F' k → F k ∨ w.heap.size ≤ k := by
  obtain ⟨sv, m1, m2, hb, hown, hm1, hm2, hne, hF⟩ := hs
  by_cases hlh : l = h
  · subst hlh
    refine (node_same _ v l w).mono fun e w' ⟨he, hw⟩ => ?_
    subst hw
    refine ⟨F, by simpa [mk, inV] using he, by simpa [mk] using ⟨sv, m1, m2, hb, hown, hm1, hm2, hne, hF⟩, Keep.refl _ _, fun k hk => .inl hk⟩
  · by_cases hin : (v, l, h) ∈ N
    · refine (node_old b sv m1 m2 N v l h w hb hm1 ho hlh hin).mono fun e w' ⟨he, hk⟩ => ?_
      have hk' : ∀ k, k < w.heap.size → w'.heap[k]? = w.heap[k]? := fun k hl => hk.block k hl (fun h => h)
      refine ⟨F, by simpa [mk, hlh, hin, inV] using he, ?_, hk.mono fun _ _ h => h.elim, fun k hk => .inl hk⟩
      simp only [mk, hlh, hin, if_false, if_true]
      exact ⟨sv, m1, m2, hb.block (hk' _ hb.lt), own_keep hown fun k hk => hk' k (hown.lt k hk).2, hm1.block (hk' _ hm1.lt), hm2.block (hk' _ hm2.lt), hne, hF⟩
    · refine (node_new b sv m1 m2 N v l h w hb hm1 hown hlen ho hlh hin).mono fun e w' ⟨he, sv', hb', hown', hm1', hk, hsv⟩ => ?_
      refine ⟨fun k => k = b ∨ k = m1 ∨ k = m2 ∨ sv'.ownBlock = some k, by simpa [mk, hlh, hin, inV] using he, ?_, hk.mono fun i _ h => ?_, fun k h => ?_⟩
      · simp only [mk, hlh, hin, if_false]
        refine ⟨sv', m1, m2, hb', ?_, hm1', hm2.block (hk.block _ hm2.lt ?_), hne, fun k => Iff.rfl⟩
        · rw [ndsC_snoc]; simpa using hown'
        · rintro (h | h | h)
          · exact hm2.ne_bk hb h
          · exact hne h.symm
          · exact own_ne_map hown hm2 h
      · rw [hF]
        rcases h with h | h | h
        · exact .inl h
        · exact .inr (.inl h)
        · exact .inr (.inr (.inr h))
      · rw [hF]
        rcases h with h | h | h | h
        · exact .inl (.inl h)
        · exact .inl (.inr (.inl h))
        · exact .inl (.inr (.inr (.inl h)))
        · rcases hsv k h with h | h
          · exact .inl (.inr (.inr (.inr h)))
          · exact .inr h
end Go.Proofs.Ytengdldkkmknpaa
