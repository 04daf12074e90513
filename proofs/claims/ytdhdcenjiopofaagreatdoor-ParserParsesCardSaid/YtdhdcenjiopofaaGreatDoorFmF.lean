/- Package formula: the state of a walk that makes a canonical list: keys, maps, what is known. No condition. -/
import Derived.Test.YtdhdcenjiopofaaGreatDoorFmE
import Derived.DeepKeys4
import Derived.Laws.EntriesVeiled
import Derived.Laws.Cover1
set_option linter.unusedVariables false
set_option linter.unusedSimpArgs false
namespace Fm
open Form
def okI (v : Int) : Prop := -9223372036854775808 ≤ v ∧ v ≤ 9223372036854775807
def okN (n : Nd) : Prop := okI n.op ∧ okI n.i ∧ okI n.e ∧ okI n.g ∧ okI n.x ∧ okI n.y
theorem own_small {op i e g : Int} (h : own op i e g = true) : 1 ≤ op ∧ op ≤ 21 ∧ 0 ≤ i ∧ i ≤ 7 ∧ 0 ≤ e ∧ e ≤ 7 ∧ 0 ≤ g ∧ g ≤ 15 := by
  unfold own zeroed ranged within isOp at h
  simp only at h
  cases h1 : usesFact op <;> cases h2 : usesAgent op <;> cases h3 : usesEvent op <;> cases h4 : usesGroup op <;> simp [h1, h2, h3, h4] at h <;> omega
theorem ok_own {op i e g : Int} (h : own op i e g = true) {a b : Int} (ha : okI a) (hb : okI b) : okN ⟨op, i, e, g, a, b⟩ := by
  have := own_small h
  unfold okN okI at *
  simp only
  omega
/-- The place of a node in a list. -/
def numb (o : List Nd) (n : Nd) : Option Nat := if n ∈ o then some (o.idxOf n) else none
theorem numb_snoc {o : List Nd} {n : Nd} (h : n ∉ o) : ∀ y, numb (o ++ [n]) y = if y = n then some o.length else numb o y := fun y => by
  unfold numb
  by_cases hy : y = n
  · subst hy
    rw [if_pos rfl, if_pos (by simp), List.idxOf_append, if_neg h]
    simp
  · rw [if_neg hy]
    by_cases hm : y ∈ o
    · rw [if_pos hm, if_pos (by simp [hm]), List.idxOf_append, if_pos hm]
    · rw [if_neg hm, if_neg (by simp [hm, hy])]
/-- What is known of the list, and of the places that are done. -/
structure Inv (f out : List Nd) (g : Nat → Option Nat) (ds : List Nat) : Prop where
  nodup : out.Nodup
  sound : ∀ i k, g i = some k → Rep (tree f i) out k
  dom : ∀ i, (∃ k, g i = some k) ↔ i ∈ ds
  dsn : ds.Nodup
  dsl : ∀ i ∈ ds, i < f.length
  len : out.length ≤ ds.length
  ok : ∀ n ∈ out, okN n
theorem Inv.congr {f out : List Nd} {g g' : Nat → Option Nat} {ds : List Nat} (h : Inv f out g ds) (hg : ∀ y, g y = g' y) : Inv f out g' ds := by
  have : g = g' := funext hg
  exact this ▸ h
theorem Inv.start (f : List Nd) : Inv f [] (fun _ => none) [] := ⟨List.nodup_nil, fun _ _ h => (by cases h), fun i => (by simp), List.nodup_nil, by simp, by simp, by simp⟩
theorem Inv.small {f out : List Nd} {g : Nat → Option Nat} {ds : List Nat} (h : Inv f out g ds) : out.length ≤ f.length := by
  have := len_sub ds (List.range f.length) h.dsn fun x hx => List.mem_range.2 (h.dsl x hx)
  have h2 := h.len
  simp at this
  omega
theorem Inv.put {f out : List Nd} {g : Nat → Option Nat} {ds : List Nat} (h : Inv f out g ds) {i : Nat} (hi : i < f.length) (hn : i ∉ ds) {n : Nd} (hok : okN n) (hr : Rep (tree f i) (put n out).2 (put n out).1) :
    Inv f (put n out).2 (fun y => @ite _ (y = i) (Classical.propDecidable _) (some (put n out).1) (g y)) (i :: ds) := by
  refine ⟨put_nodup h.nodup, fun j k hj => ?_, fun j => ?_, List.nodup_cons.2 ⟨hn, h.dsn⟩, fun j hj => ?_, ?_, fun m hm => ?_⟩
  · by_cases e : j = i
    · subst e
      simp only [if_true, Option.some.injEq] at hj
      subst hj
      exact hr
    · simp only [if_neg e] at hj
      exact (h.sound j k hj).mono (put_prefix _ _)
  · by_cases e : j = i
    · subst e; simp
    · simp only [if_neg e, List.mem_cons, e, false_or]
      exact h.dom j
  · rcases List.mem_cons.1 hj with rfl | hj
    · exact hi
    · exact h.dsl j hj
  · have := put_len n out
    have := h.len
    simp only [List.length_cons]
    omega
  · unfold Fm.put at hm
    split at hm
    · exact h.ok m hm
    · rcases List.mem_append.1 hm with hm | hm
      · exact h.ok m hm
      · rw [List.mem_singleton.1 hm]; exact hok
end Fm
namespace Go.Proofs.YtdhdcenjiopofaaGreatDoor
open Go.RowKit
open Fm (Nd okI okN numb Inv tree ins put Rep usesX usesY checkE)

def tiny (x : Nat) : Prop := x < 4611686018427387904
def inV (n : Nat) : Value := .int .i64 n
theorem laid : laidOutB Tryz.prog = true := by kernel_rfl
theorem keyNode : Maps.Keyed Tryz.prog 37 := Maps.Keyed.of_law (deep_law_laid laid (m := 5) (by omega) (of_decide_eq_true (by kernel_rfl)) (by kernel_rfl) (by kernel_rfl))
theorem typesSize : Tryz.prog.types.size + 1 = (Tryz.prog.types.size - 1) + 2 := by kernel_rfl
theorem kt1 : Tryz.prog.keyType 37 = true := by kernel_rfl
theorem cellsNode : Tryz.prog.cellsOf 37 = 6 := by kernel_rfl
theorem cellsInt : Tryz.prog.cellsOf 3 = 1 := by kernel_rfl
theorem wf_ok {x : Int} (h : okI x) : (Lit.int .i64 x).wf = true := by
  unfold okI at h
  have h1 : IntKind.i64.min = -9223372036854775808 := by decide
  have h2 : IntKind.i64.max = 9223372036854775807 := by decide
  simp only [Lit.wf, h1, h2, Bool.and_eq_true, decide_eq_true_eq]; omega
theorem wf_tiny {x : Nat} (h : tiny x) : (Lit.int .i64 (x : Int)).wf = true := wf_ok (by unfold tiny at h; unfold okI; omega)
theorem lits_int (d : Nat) {x : Int} (h : okI x) : Tryz.prog.keyLits (d + 1) 3 [.int .i64 x] = some [.int .i64 x] := by
  simp [Program.keyLits, Tryz.underlying3, wf_ok h]
theorem lits_node (d : Nat) (n : Nd) (h : okN n) : ∃ l, Tryz.prog.keyLits (d + 2) 37 (ndC n) = some l := by
  have h1 := lits_int d h.1
  have h2 := lits_int d h.2.1
  have h3 := lits_int d h.2.2.1
  have h4 := lits_int d h.2.2.2.1
  have h5 := lits_int d h.2.2.2.2.1
  have h6 := lits_int d h.2.2.2.2.2
  unfold Program.keyLits
  rw [Tryz.underlying37]
  simp only [ndC, cellsNode]
  simp [cellsInt, h1, h2, h3, h4, h5, h6]
theorem key_node (n : Nd) (h : okN n) : ∃ l, keyOf Tryz.prog 37 (ndV n) = some l := by
  obtain ⟨l, hl⟩ := lits_node (Tryz.prog.types.size - 1) n h
  refine ⟨.string (keyBytes l), ?_⟩
  have hf : (ndV n).formed Tryz.prog 37 = true := by simp [ndV, Value.formed, Tryz.underlying37, cellsNode]
  have hc : (ndV n).cells.toList = ndC n := rfl
  unfold keyOf
  rw [Tryz.underlying37]
  simp only [kt1, hf, typesSize, hc]
  rw [hl]
  rfl
theorem ndV_inj (x y : Nd) (h : ndV x = ndV y) : x = y := by
  obtain ⟨a, b, c, d, e, f⟩ := x
  obtain ⟨a', b', c', d', e', f'⟩ := y
  simp only [ndV, Value.agg.injEq, Array.mk.injEq, List.cons.injEq, Value.int.injEq, true_and, and_true] at h
  obtain ⟨rfl, rfl, rfl, rfl, rfl, rfl⟩ := h
  rfl
theorem encNode : KeyEnc Tryz.prog 37 ndV okN := ⟨keyNode, ndV_inj, key_node⟩
theorem keyInt : Maps.Keyed Tryz.prog 3 := Maps.int_keyed Tryz.underlying3
theorem key_int (n : Nat) (h : tiny n) : ∃ l, keyOf Tryz.prog 3 (inV n) = some l := by
  refine ⟨.int .i64 n, ?_⟩
  unfold keyOf
  rw [Tryz.underlying3]
  simp [mapKey, Tryz.underlying3, inV, wf_tiny h]
theorem inV_inj (x y : Nat) (h : inV x = inV y) : x = y := by
  simp only [inV, Value.int.injEq, Int.natCast_inj, true_and] at h
  exact h
theorem encInt : KeyEnc Tryz.prog 3 inV tiny := ⟨keyInt, inV_inj, key_int⟩
abbrev MapInt (w : World) (b : Nat) (g : Nat → Option Nat) : Prop := MapT Tryz.prog 3 inV inV tiny w b g
abbrev MapNum (w : World) (b : Nat) (g : Nd → Option Nat) : Prop := MapT Tryz.prog 37 ndV inV okN w b g
theorem infoNode : (Tryz.prog.info? 37).map (fun i => (i.zero, i.size, i.bytes)) = some (some (.agg #[.int .i64 0, .int .i64 0, .int .i64 0, .int .i64 0, .int .i64 0, .int .i64 0]), 6, 48) := by kernel_rfl
theorem eNodes : ElemT Tryz.prog 27 37 (.agg #[.int .i64 0, .int .i64 0, .int .i64 0, .int .i64 0, .int .i64 0, .int .i64 0]) 6 48 := ⟨Tryz.underlying27, info_parts infoNode, rfl, by omega⟩

/-- The variables of the walk: the function's own captured cells. -/
def finV (db fb vb nb ob : Nat) : Value := .func (.func 69) #[] #[.pointer (some ⟨db, 0, none⟩), .pointer (some ⟨fb, 0, none⟩), .pointer (some ⟨vb, 0, none⟩), .pointer (some ⟨nb, 0, none⟩), .pointer (some ⟨ob, 0, none⟩)]
structure FV (w : World) (db fb vb nb ob m1 m2 : Nat) (A : Option Addr) (n c : Nat) : Prop where
  fv : Bk w fb 27 #[.slice A n c]
  nv : Bk w nb 81 #[.map (some m1)]
  dv : Bk w db 82 #[.map (some m2)]
  vv : Bk w vb 83 #[finV db fb vb nb ob]
/-- The state of the walk: K are its own blocks. -/
def FS (w : World) (ob m1 m2 : Nat) (out : List Nd) (g : Nat → Option Nat) (K : Nat → Prop) : Prop :=
  ∃ ov, Bk w ob 27 #[ov] ∧ w.ownsRow 0 37 6 ov out.length (fmC out) ∧ MapNum w m1 (numb out) ∧ MapInt w m2 g ∧ m1 ≠ m2 ∧ ∀ k, K k ↔ (k = ob ∨ k = m1 ∨ k = m2 ∨ ov.ownBlock = some k)
theorem FV.keep {w w' : World} {db fb vb nb ob m1 m2 : Nat} {A : Option Addr} {n c : Nat} {K : Nat → Prop} (h : FV w db fb vb nb ob m1 m2 A n c) (hk : Keep K w w') (h1 : ¬ K db) (h2 : ¬ K fb) (h3 : ¬ K vb) (h4 : ¬ K nb) : FV w' db fb vb nb ob m1 m2 A n c :=
  ⟨h.fv.keep hk h2, h.nv.keep hk h4, h.dv.keep hk h1, h.vv.keep hk h3⟩
theorem FS.lt {w : World} {ob m1 m2 : Nat} {out : List Nd} {g : Nat → Option Nat} {K : Nat → Prop} (h : FS w ob m1 m2 out g K) : ∀ k, K k → k < w.heap.size := by
  obtain ⟨ov, hd, ho, hm1, hm2, _, hK⟩ := h
  intro k hk
  rcases (hK k).1 hk with rfl | rfl | rfl | h
  · exact hd.lt
  · exact hm1.lt
  · exact hm2.lt
  · exact (ho.lt k h).2
theorem FS.block {w w' : World} {ob m1 m2 : Nat} {out : List Nd} {g : Nat → Option Nat} {K : Nat → Prop} (h : FS w ob m1 m2 out g K) (hb : ∀ k, K k → w'.heap[k]? = w.heap[k]?) : FS w' ob m1 m2 out g K := by
  obtain ⟨ov, hd, ho, hm1, hm2, hne, hK⟩ := h
  exact ⟨ov, hd.block (hb _ ((hK _).2 (.inl rfl))), own_keep ho fun k h => hb k ((hK _).2 (.inr (.inr (.inr h)))), hm1.block (hb _ ((hK _).2 (.inr (.inl rfl)))), hm2.block (hb _ ((hK _).2 (.inr (.inr (.inl rfl))))), hne, hK⟩
theorem FS.keep0 {w w' : World} {ob m1 m2 : Nat} {out : List Nd} {g : Nat → Option Nat} {K : Nat → Prop} (h : FS w ob m1 m2 out g K) (hk : Keep NoF w w') : FS w' ob m1 m2 out g K := h.block fun k hK => hk.block k (h.lt k hK) fun h => h
end Go.Proofs.YtdhdcenjiopofaaGreatDoor
