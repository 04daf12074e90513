/- Plain theory of decision diagrams, continued: a node that is made or found; if-then-else; a list that is loaded. No condition. -/
import Derived.Test.YtengdldkkmknpaaLawB
set_option linter.unusedVariables false
set_option linter.unusedSimpArgs false
namespace Go.Proofs.Ytengdldkkmknpaa.Dd

def mk (N : List Nd) (v l h : Nat) : Nat × List Nd :=
  if l = h then (l, N) else if (v, l, h) ∈ N then (N.idxOf (v, l, h) + 2, N) else (N.length + 2, N ++ [(v, l, h)])

section
variable {N N1 N2 M : List Nd}

theorem den_pre (G : Good N) (H : Good N1) (hp : N <+: N1) {i : Nat} (hl : i < N.length + 2) (ρ : Nat → Bool) : den N1 i ρ = den N i ρ := by
  obtain ⟨X, rfl⟩ := hp
  exact den_app G H ρ i hl
theorem var_pre (hp : N <+: N1) {i : Nat} (hl : i < N.length + 2) : var N1 i = var N i := by
  obtain ⟨X, rfl⟩ := hp
  exact var_app hl
theorem len_pre (hp : N <+: N1) : N.length ≤ N1.length := hp.length_le
theorem var_eq (G : Good N) (H : Good M) {a b : Nat} (ha : a < N.length + 2) (hb : b < M.length + 2) (hd : ∀ ρ, den N a ρ = den M b ρ) : var N a = var M b := by
  rcases cross G H ha hb hd with ⟨h2, rfl⟩ | ⟨_, _, h, _⟩
  · simp [var, h2]
  · exact h

theorem mk_spec (G : Good N) {v l h : Nat} (hv : v < 24) (hl : l < N.length + 2) (hh : h < N.length + 2) (hlv : v < var N l) (hhv : v < var N h) :
    N <+: (mk N v l h).2 ∧ Good (mk N v l h).2 ∧ (mk N v l h).1 < (mk N v l h).2.length + 2 ∧ (∀ ρ, den (mk N v l h).2 (mk N v l h).1 ρ = if ρ v then den N h ρ else den N l ρ) ∧
      v ≤ var (mk N v l h).2 (mk N v l h).1 ∧ (mk N v l h).2.length ≤ N.length + 1 := by
  unfold mk
  by_cases hlh : l = h
  · subst hlh
    simp only [if_true]
    exact ⟨List.prefix_refl _, G, hl, fun ρ => by simp, by omega, by omega⟩
  · by_cases hin : (v, l, h) ∈ N
    · simp only [hlh, hin, if_false, if_true]
      have hi := List.idxOf_lt_length_of_mem hin
      have e : N[N.idxOf (v, l, h)]? = some (v, l, h) := by rw [List.getElem?_eq_getElem hi, List.getElem_idxOf hi]
      have e2 := node_at (N := N) (i := N.idxOf (v, l, h) + 2) (by omega) (by omega)
      rw [Nat.add_sub_cancel, e] at e2
      simp only [Option.some.injEq, Prod.mk.injEq] at e2
      refine ⟨List.prefix_refl _, G, by omega, fun ρ => ?_, by omega, by omega⟩
      rw [den_node G (by omega) (by omega), ← e2.1, ← e2.2.1, ← e2.2.2]
    · simp only [hlh, hin, if_false]
      have H := G.snoc hv hl hh hlh hlv hhv hin
      exact ⟨List.prefix_append _ _, H, by simp, fun ρ => den_snoc G H hl hh ρ, by rw [last_var]; omega, by simp⟩

theorem mk_len (N : List Nd) (v l h : Nat) : (mk N v l h).2.length ≤ N.length + 1 := by
  unfold mk; split
  · simp
  · split <;> simp

/-! ### if-then-else -/
def MemoOk (N : List Nd) (G : Nd → Option Nat) : Prop :=
  ∀ a b c r, G (a, b, c) = some r → a < N.length + 2 ∧ b < N.length + 2 ∧ c < N.length + 2 ∧ r < N.length + 2 ∧ (∀ ρ, den N r ρ = if den N a ρ then den N b ρ else den N c ρ) ∧
    min (var N a) (min (var N b) (var N c)) ≤ var N r

theorem MemoOk.pre {G : Nd → Option Nat} (h : MemoOk N G) (A : Good N) (B : Good N1) (hp : N <+: N1) : MemoOk N1 G := by
  intro a b c r hg
  obtain ⟨h1, h2, h3, h4, h5, h6⟩ := h a b c r hg
  have := len_pre hp
  refine ⟨by omega, by omega, by omega, by omega, fun ρ => ?_, ?_⟩
  · rw [den_pre A B hp h4, den_pre A B hp h1, den_pre A B hp h2, den_pre A B hp h3, h5]
  · rw [var_pre hp h1, var_pre hp h2, var_pre hp h3, var_pre hp h4]; exact h6

theorem MemoOk.none (N : List Nd) : MemoOk N (fun _ => none) := by intro a b c r h; cases h

/-- Where a number goes on for a value of a variable. -/
def atP (N : List Nd) (i v : Nat) (b : Bool) : Nat := if var N i ≠ v then i else if b then hi N i else lo N i

theorem at_spec (G : Good N) {i v : Nat} (hl : i < N.length + 2) (hv : v ≤ var N i) (hv24 : v < 24) (b : Bool) :
    atP N i v b < N.length + 2 ∧ v < var N (atP N i v b) ∧ (∀ ρ, den N (atP N i v b) ρ = den N i (upd ρ v b)) ∧ var N i ≤ var N (atP N i v b) := by
  unfold atP
  by_cases h : var N i = v
  · subst h
    have h2 : 2 ≤ i := by
      by_cases h2 : i < 2
      · simp [var, h2] at hv24
      · omega
    have a1 := G.lo_lt i h2 hl
    have a2 := G.hi_lt i h2 hl
    have b1 := G.lo_var i h2 hl
    have b2 := G.hi_var i h2 hl
    cases b
    · simp only [ne_eq, not_true_eq_false, if_false, Bool.false_eq_true]
      exact ⟨by omega, b1, fun ρ => (cof_lo G h2 hl ρ).symm, by omega⟩
    · simp only [ne_eq, not_true_eq_false, if_false, if_true]
      exact ⟨by omega, b2, fun ρ => (cof_hi G h2 hl ρ).symm, by omega⟩
  · simp only [ne_eq, h, not_false_eq_true, if_true]
    exact ⟨hl, by omega, fun ρ => (indep G i hl v (by omega) ρ b).symm, by omega⟩

/-- What a call of ite does to the store. -/
structure IteRel (N : List Nd) (a b c r : Nat) (N' : List Nd) (G' : Nd → Option Nat) : Prop where
  pre : N <+: N'
  good : Good N'
  memo : MemoOk N' G'
  lt : r < N'.length + 2
  den : ∀ ρ, den N' r ρ = if den N a ρ then den N b ρ else den N c ρ
  var : min (var N a) (min (var N b) (var N c)) ≤ var N' r
  len : N'.length + 1 ≤ N.length + 2 ^ (24 - min (Dd.var N a) (min (Dd.var N b) (Dd.var N c)))

theorem len_one (n m : Nat) : n + 1 ≤ n + 2 ^ m := by have := Nat.one_le_two_pow (n := m); omega

theorem ite_then {G : Nd → Option Nat} (A : Good N) (B : MemoOk N G) {a b c : Nat} (hb : b < N.length + 2) (h : a = 1 ∨ b = c) : IteRel N a b c b N G := by
  refine ⟨List.prefix_refl _, A, B, hb, fun ρ => ?_, by omega, len_one _ _⟩
  rcases h with rfl | rfl
  · simp
  · simp
theorem ite_else {G : Nd → Option Nat} (A : Good N) (B : MemoOk N G) {b c : Nat} (hc : c < N.length + 2) : IteRel N 0 b c c N G :=
  ⟨List.prefix_refl _, A, B, hc, fun ρ => by simp, by omega, len_one _ _⟩
theorem ite_hit {G : Nd → Option Nat} (A : Good N) (B : MemoOk N G) {a b c r : Nat} (h : G (a, b, c) = some r) : IteRel N a b c r N G := by
  obtain ⟨_, _, _, h4, h5, h6⟩ := B a b c r h
  exact ⟨List.prefix_refl _, A, B, h4, h5, h6, len_one _ _⟩

theorem var_const {i : Nat} (h : i < 2) : Dd.var N i = 24 := by simp [Dd.var, h]

theorem ite_step {a b c r1 r2 : Nat} {G1 G2 : Nd → Option Nat} {v : Nat} (A : Good N) (ha : a < N.length + 2) (hb : b < N.length + 2) (hc : c < N.length + 2) (h2 : 2 ≤ a)
    (hv : v = min (var N a) (min (var N b) (var N c)))
    (R1 : IteRel N (atP N a v false) (atP N b v false) (atP N c v false) r1 N1 G1)
    (R2 : IteRel N1 (atP N a v true) (atP N b v true) (atP N c v true) r2 N2 G2)
    (G' : Nd → Option Nat) (hG' : ∀ x y, G' x = some y → (x = (a, b, c) ∧ y = (mk N2 v r1 r2).1) ∨ G2 x = some y) :
    IteRel N a b c (mk N2 v r1 r2).1 (mk N2 v r1 r2).2 G' := by
  have hv24 : v < 24 := by have := A.bound a h2 ha; omega
  obtain ⟨a1, a2, a3, a4⟩ := at_spec A ha (by omega : v ≤ var N a) hv24 false
  obtain ⟨b1, b2, b3, b4⟩ := at_spec A hb (by omega : v ≤ var N b) hv24 false
  obtain ⟨c1, c2, c3, c4⟩ := at_spec A hc (by omega : v ≤ var N c) hv24 false
  obtain ⟨d1, d2, d3, d4⟩ := at_spec A ha (by omega : v ≤ var N a) hv24 true
  obtain ⟨e1, e2, e3, e4⟩ := at_spec A hb (by omega : v ≤ var N b) hv24 true
  obtain ⟨f1, f2, f3, f4⟩ := at_spec A hc (by omega : v ≤ var N c) hv24 true
  have l1 := len_pre R1.pre
  have l2 := len_pre R2.pre
  have p2 : N <+: N2 := R1.pre.trans R2.pre
  have v1 := R1.var
  have v2 := R2.var
  rw [var_pre R1.pre d1, var_pre R1.pre e1, var_pre R1.pre f1] at v2
  have hr1 : r1 < N2.length + 2 := by have := R1.lt; omega
  have w1 : v < var N2 r1 := by rw [var_pre R2.pre R1.lt]; omega
  have w2 : v < var N2 r2 := by omega
  obtain ⟨m1, m2, m3, m4, m5, m6⟩ := mk_spec R2.good hv24 hr1 R2.lt w1 w2
  have p3 : N <+: (mk N2 v r1 r2).2 := p2.trans m1
  have hden : ∀ ρ, den (mk N2 v r1 r2).2 (mk N2 v r1 r2).1 ρ = if den N a ρ then den N b ρ else den N c ρ := fun ρ => by
    rw [m4, den_pre R1.good R2.good R2.pre R1.lt, R1.den, R2.den, den_pre A R1.good R1.pre d1, den_pre A R1.good R1.pre e1, den_pre A R1.good R1.pre f1, a3, b3, c3, d3, e3, f3]
    have hs := upd_self ρ v
    cases hρ : ρ v <;> rw [hρ] at hs <;> simp [hs]
  have hlen := len_pre m1
  refine ⟨p3, m2, fun x y z s hs => ?_, m3, hden, by omega, ?_⟩
  · rcases hG' _ _ hs with ⟨he, rfl⟩ | h
    · simp only [Prod.mk.injEq] at he
      obtain ⟨rfl, rfl, rfl⟩ := he
      refine ⟨by omega, by omega, by omega, m3, fun ρ => ?_, ?_⟩
      · rw [hden, den_pre A m2 p3 ha, den_pre A m2 p3 hb, den_pre A m2 p3 hc]
      · rw [var_pre p3 ha, var_pre p3 hb, var_pre p3 hc]; omega
    · exact (R2.memo.pre R2.good m2 m1) x y z s h
  · have k1 := R1.len
    have k2 := R2.len
    rw [var_pre R1.pre d1, var_pre R1.pre e1, var_pre R1.pre f1] at k2
    have q1 : 2 ^ (24 - min (var N (atP N a v false)) (min (var N (atP N b v false)) (var N (atP N c v false)))) ≤ 2 ^ (23 - v) := Nat.pow_le_pow_right (by omega) (by omega)
    have q2 : 2 ^ (24 - min (var N (atP N a v true)) (min (var N (atP N b v true)) (var N (atP N c v true)))) ≤ 2 ^ (23 - v) := Nat.pow_le_pow_right (by omega) (by omega)
    have q3 : 2 ^ (24 - v) = 2 * 2 ^ (23 - v) := by rw [show 24 - v = (23 - v) + 1 by omega, Nat.pow_succ]; omega
    rw [← hv, q3]
    omega

/-! ### a list that is loaded -/
def ldStep (s : List Nat × List Nd) (n : Nd) : List Nat × List Nd :=
  let r := mk s.2 n.1 (s.1.getD n.2.1 0) (s.1.getD n.2.2 0)
  (s.1 ++ [r.1], r.2)
def ld (N : List Nd) (M : List Nd) : List Nat × List Nd := M.foldl ldStep ([0, 1], N)

structure LdInv (N M : List Nd) (k : Nat) (s : List Nat × List Nd) : Prop where
  pre : N <+: s.2
  good : Good s.2
  size : s.1.length = k + 2
  to : ∀ j, j < k + 2 → s.1.getD j 0 < s.2.length + 2 ∧ ∀ ρ, den s.2 (s.1.getD j 0) ρ = den M j ρ
  len : s.2.length ≤ N.length + k

theorem ld_inv (G : Good N) (H : Good M) : ∀ k, k ≤ M.length → LdInv N M k ((M.take k).foldl ldStep ([0, 1], N)) := by
  intro k
  induction k with
  | zero =>
    intro _
    refine ⟨List.prefix_refl _, G, rfl, fun j hj => ?_, Nat.le_refl _⟩
    have : j = 0 ∨ j = 1 := by omega
    rcases this with rfl | rfl <;> simp
  | succ k ih =>
    intro hk
    have I := ih (by omega)
    rw [List.take_succ_eq_append_getElem (by omega), List.foldl_append]
    simp only [List.foldl_cons, List.foldl_nil]
    generalize (M.take k).foldl ldStep ([0, 1], N) = s at *
    obtain ⟨to, N'⟩ := s
    have hn : M[k]? = some M[k] := List.getElem?_eq_getElem (by omega)
    have hat := node_at (N := M) (i := k + 2) (by omega) (by omega)
    rw [Nat.add_sub_cancel, hn] at hat
    have hat' : M[k] = (var M (k + 2), lo M (k + 2), hi M (k + 2)) := Option.some.inj hat
    have b0 := H.bound (k + 2) (by omega) (by omega)
    have b1 := H.lo_lt (k + 2) (by omega) (by omega)
    have b2 := H.hi_lt (k + 2) (by omega) (by omega)
    have b3 := H.lo_var (k + 2) (by omega) (by omega)
    have b4 := H.hi_var (k + 2) (by omega) (by omega)
    obtain ⟨t1, d1⟩ := I.to (lo M (k + 2)) (by omega)
    obtain ⟨t2, d2⟩ := I.to (hi M (k + 2)) (by omega)
    simp only at t1 d1 t2 d2
    have v1 := var_eq I.good H t1 (by omega) d1
    have v2 := var_eq I.good H t2 (by omega) d2
    simp only at v1 v2
    obtain ⟨m1, m2, m3, m4, m5, m6⟩ := mk_spec (N := N') I.good b0 t1 t2 (by omega) (by omega)
    have hs := I.size
    simp only at hs
    have hlen := len_pre m1
    refine ⟨?_, ?_, ?_, fun j hj => ?_, ?_⟩
    · simp only [ldStep, hat']; exact I.pre.trans m1
    · simp only [ldStep, hat']; exact m2
    · simp only [ldStep, List.length_append, List.length_singleton, hs]
    · simp only [ldStep, hat']
      by_cases hjk : j < k + 2
      · obtain ⟨t3, d3⟩ := I.to j hjk
        simp only at t3 d3
        have e : (to ++ [(mk N' (var M (k + 2)) (to.getD (lo M (k + 2)) 0) (to.getD (hi M (k + 2)) 0)).1]).getD j 0 = to.getD j 0 := by
          simp [List.getD_eq_getElem?_getD, List.getElem?_append_left (show j < to.length by omega)]
        rw [e]
        exact ⟨by omega, fun ρ => by rw [den_pre I.good m2 m1 t3, d3]⟩
      · have hj' : j = k + 2 := by omega
        subst hj'
        have e : (to ++ [(mk N' (var M (k + 2)) (to.getD (lo M (k + 2)) 0) (to.getD (hi M (k + 2)) 0)).1]).getD (k + 2) 0 = (mk N' (var M (k + 2)) (to.getD (lo M (k + 2)) 0) (to.getD (hi M (k + 2)) 0)).1 := by
          simp [List.getD_eq_getElem?_getD, ← hs]
        rw [e]
        exact ⟨m3, fun ρ => by rw [m4, d1, d2, den_node H (i := k + 2) (by omega) (by omega)]⟩
    · simp only [ldStep, hat']
      have := I.len
      simp only at this
      omega

theorem ld_spec (G : Good N) (H : Good M) {i : Nat} (hi : i < M.length + 2) : N <+: (ld N M).2 ∧ Good (ld N M).2 ∧ (ld N M).1.getD i 0 < (ld N M).2.length + 2 ∧
    (∀ ρ, den (ld N M).2 ((ld N M).1.getD i 0) ρ = den M i ρ) ∧ (ld N M).2.length ≤ N.length + M.length := by
  have I := ld_inv G H M.length (Nat.le_refl _)
  rw [List.take_length] at I
  obtain ⟨h1, h2⟩ := I.to i hi
  exact ⟨I.pre, I.good, h1, h2, I.len⟩
end
end Go.Proofs.Ytengdldkkmknpaa.Dd
