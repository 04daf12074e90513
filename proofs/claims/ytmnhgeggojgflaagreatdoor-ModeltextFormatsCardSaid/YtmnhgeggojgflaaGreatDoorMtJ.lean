/- The reader of a model in memory. No condition. -/
import Derived.Test.YtmnhgeggojgflaaGreatDoorMtK
import Derived.Test.YtmnhgeggojgflaaGreatDoorMtH
import Derived.Test.YtmnhgeggojgflaaGreatDoorSgHJ
set_option linter.unusedVariables false
set_option linter.unusedSimpArgs false
namespace Go.Proofs.YtmnhgeggojgflaaGreatDoor
open Go.RowKit
open Mt
open Ev (Md)
attribute [local go_sem] Oper.semAt_some

theorem infoMtRow : (Tryz.prog.info? 25).map (fun i => (i.zero, i.size, i.bytes)) = some (some (.slice none 0 0), 1, 24) := by kernel_rfl
def niV (n : Nat) : Value := .int .i64 (n : Int)
def tinyI (n : Nat) : Prop := n < 9223372036854775808
theorem wf_tiny {n : Nat} (h : tinyI n) : (Lit.int .i64 (n : Int)).wf = true := by
  unfold tinyI at h
  simp [Lit.wf, IntKind.min, IntKind.max, IntKind.signed, IntKind.bits]
  omega
theorem encNi : KeyEnc Tryz.prog 3 niV tinyI :=
  ⟨Maps.int_keyed Tryz.underlying3, fun x y h => by unfold niV at h; injection h with _ h; omega, fun x h => ⟨_, Maps.keyOf_int_mk Tryz.underlying3 (wf_tiny h)⟩⟩
def prV (p : Nat × Nat) : Value := .agg #[.int .i64 (p.1 : Int), .int .i64 (p.2 : Int)]
def tinyP (p : Nat × Nat) : Prop := tinyI p.1 ∧ tinyI p.2
theorem laidMt : laidOutB Tryz.prog = true := by kernel_rfl
theorem keyPair : Maps.Keyed Tryz.prog 130 := Maps.Keyed.of_law (deep_law_laid laidMt (m := 5) (by omega) (of_decide_eq_true (by kernel_rfl)) (by kernel_rfl) (by kernel_rfl))
theorem kt_pair : Tryz.prog.keyType 130 = true := by kernel_rfl
theorem cellsPair : Tryz.prog.cellsOf 130 = 2 := by kernel_rfl
theorem cellsMtInt : Tryz.prog.cellsOf 3 = 1 := by kernel_rfl
theorem typesMt : Tryz.prog.types.size + 1 = (Tryz.prog.types.size - 1) + 2 := by kernel_rfl
theorem lits_ni (d : Nat) {n : Nat} (h : tinyI n) : Tryz.prog.keyLits (d + 1) 3 [.int .i64 (n : Int)] = some [.int .i64 (n : Int)] := by
  simp [Program.keyLits, Tryz.underlying3, wf_tiny h]
theorem lits_pair (d : Nat) (p : Nat × Nat) (h : tinyP p) : ∃ l, Tryz.prog.keyLits (d + 2) 130 [.int .i64 (p.1 : Int), .int .i64 (p.2 : Int)] = some l := by
  have h1 := lits_ni d h.1
  have h2 := lits_ni d h.2
  unfold Program.keyLits
  rw [Tryz.underlying130]
  simp only [cellsPair]
  simp [cellsMtInt, h1, h2, List.range_succ]
theorem key_pair (p : Nat × Nat) (h : tinyP p) : ∃ l, keyOf Tryz.prog 130 (prV p) = some l := by
  obtain ⟨l, hl⟩ := lits_pair (Tryz.prog.types.size - 1) p h
  refine ⟨.string (keyBytes l), ?_⟩
  have hf : (prV p).formed Tryz.prog 130 = true := by simp [prV, Value.formed, Tryz.underlying130, cellsPair]
  have hc : (prV p).cells.toList = [.int .i64 (p.1 : Int), .int .i64 (p.2 : Int)] := rfl
  unfold keyOf
  rw [Tryz.underlying130]
  simp only [kt_pair, hf, typesMt, hc]
  rw [hl]
  rfl
theorem prV_inj (x y : Nat × Nat) (h : prV x = prV y) : x = y := by
  obtain ⟨a, b⟩ := x
  obtain ⟨a', b'⟩ := y
  simp only [prV, Value.agg.injEq, Array.mk.injEq, List.cons.injEq, Value.int.injEq, true_and, and_true, Int.natCast_inj] at h
  obtain ⟨rfl, rfl⟩ := h
  rfl
theorem encPr : KeyEnc Tryz.prog 130 prV tinyP := ⟨keyPair, prV_inj, key_pair⟩
def mp {κ : Type} (f : κ → Bool) : κ → Option Bool := fun x => if f x = true then some true else none
theorem mp_look {κ : Type} (f : κ → Bool) (x : κ) : ((mp f x).map Value.bool).getD (.bool false) = .bool (f x) := by
  unfold mp
  cases f x <;> rfl
theorem mp_put {κ : Type} [D : DecidableEq κ] (f : κ → Bool) (x : κ) (d : ∀ y, Decidable (y = x)) (y : κ) : (@ite _ (y = x) (d y) (some true) (mp f y)) = mp (fun y => @decide (y = x) (D y x) || f y) y := by
  unfold mp
  by_cases h : y = x
  · rw [if_pos h]
    simp [h]
  · rw [if_neg h]
    simp [h]
theorem zeroMtBool (w : World) : (zeroValue 4).run Tryz.prog w = .ok (.bool false) w := by kernel_rfl

/-- The four maps of the reader in block b. -/
structure RdB (w : World) (r : St) (Pr : Nat → Prop) (b m0 m1 m2 m3 : Nat) : Prop where
  fa : MapT Tryz.prog 3 niV .bool tinyI w m0 (mp r.fa)
  at_ : MapS Tryz.prog 130 prV .bool tinyP w m1 (mp r.at_)
  so : MapS Tryz.prog 3 niV .bool tinyI w m2 (mp r.so)
  ce : MapT Tryz.prog 3 niV .bool tinyI w m3 (mp r.ce)
  n01 : m0 ≠ m1
  n02 : m0 ≠ m2
  n03 : m0 ≠ m3
  n12 : m1 ≠ m2
  n13 : m1 ≠ m3
  n23 : m2 ≠ m3
  pr : ∀ k, k = b ∨ k = m0 ∨ k = m1 ∨ k = m2 ∨ k = m3 → ¬ Pr k
def rowB (n g : Nat) : Value := .slice (some ⟨g, 0, none⟩) n n
/-- The reader in block b, behind the first line. -/
structure RdW (w : World) (S : Sg) (a f c : Option Addr) (ca cf cc : Nat) (r : St) (Pr : Nat → Prop) (b m0 m1 m2 m3 vb rb : Nat) (rs : List Nat) : Prop where
  mb : RdB w r Pr b m0 m1 m2 m3
  B : Bk w b 66 #[.slice a S.A.length ca, .slice f S.F.length cf, .slice c S.C.length cc, .int .i64 r.W, .slice (some ⟨vb, 0, none⟩) S.F.length S.F.length, .slice (some ⟨rb, 0, none⟩) S.A.length S.A.length, .map (some m0), .map (some m1), .map (some m2), .map (some m3)]
  V : Bk w vb 45 (u6 r.V).toArray
  R : Bk w rb 25 (rs.map (rowB r.W)).toArray
  rl : rs.length = S.A.length
  row : ∀ (k : Nat) l g, r.R[k]? = some l → rs[k]? = some g → Bk w g 45 (u6 l).toArray
  nv : vb ∉ rs
  nd : rs.Nodup
  pv : ∀ k, k = vb ∨ k = rb ∨ k ∈ rs → ¬ Pr k
  ok : Mt.Ok S r
  w0 : r.W ≠ 0
/-- What a line leaves. -/
def RPost (S : Sg) (a f c : Option Addr) (ca cf cc : Nat) (Pr : Nat → Prop) (b m0 m1 m2 m3 : Nat) (q : St × Int) (w : World) (e : Ending) (w' : World) : Prop :=
  e = .returned (.int .i64 q.2) ∧ Keep (fun k => ¬ Pr k) w w' ∧ (q.2 = 0 → ∃ vb rb rs, RdW w' S a f c ca cf cc q.1 Pr b m0 m1 m2 m3 vb rb rs)
/-- What does not turn while lines are read. -/
structure EnvM (w0 : World) (S : Sg) (a f c : Option Addr) (ca cf cc : Nat) (Pr : Nat → Prop) : Prop where
  pr : ∀ k, k < w0.heap.size → Pr k
  sig : SigR w0 S a ca f cf c cc
  tab : Tab w0
  wtab : Ws.Tab w0
  ok : checkS S = 0
section
variable {w w' : World} {S : Sg} {a f c : Option Addr} {ca cf cc : Nat} {r : St} {Pr : Nat → Prop} {b m0 m1 m2 m3 vb rb : Nat} {rs : List Nat}
theorem MapT.keep0 {κ υ : Type} {P : Program} {k : TypeId} {enc : κ → Value} {encv : υ → Value} {Ok : κ → Prop} {g : κ → Option υ} {F : Nat → Prop} (h : MapT P k enc encv Ok w b g) (hk : Keep F w w') (hf : ¬ F b) : MapT P k enc encv Ok w' b g := h.block (hk.block b h.lt hf)
theorem MapS.keep0 {κ υ : Type} {P : Program} {k : TypeId} {enc : κ → Value} {encv : υ → Value} {Ok : κ → Prop} {g : κ → Option υ} {F : Nat → Prop} (h : MapS P k enc encv Ok w b g) (hk : Keep F w w') (hf : ¬ F b) : MapS P k enc encv Ok w' b g := h.block (hk.block b h.1.lt hf)
theorem RdB.keep (h : RdB w r Pr b m0 m1 m2 m3) (hk : Keep NoF w w') : RdB w' r Pr b m0 m1 m2 m3 :=
  ⟨h.fa.keep0 hk fun h => h, h.at_.keep0 hk fun h => h, h.so.keep0 hk fun h => h, h.ce.keep0 hk fun h => h, h.n01, h.n02, h.n03, h.n12, h.n13, h.n23, h.pr⟩
theorem RdW.keep (h : RdW w S a f c ca cf cc r Pr b m0 m1 m2 m3 vb rb rs) (hk : Keep NoF w w') : RdW w' S a f c ca cf cc r Pr b m0 m1 m2 m3 vb rb rs :=
  ⟨h.mb.keep hk, h.B.keep hk fun h => h, h.V.keep hk fun h => h, h.R.keep hk fun h => h, h.rl, fun k l g h1 h2 => (h.row k l g h1 h2).keep hk fun h => h, h.nv, h.nd, h.pv, h.ok, h.w0⟩
end
theorem u6_arr (l : List Nat) (i x : Nat) : ((u6 l).toArray).setIfInBounds i (.int .u64 (x : Int)) = (u6 (l.set i x)).toArray := by
  simp [u6, List.map_set]
end Go.Proofs.YtmnhgeggojgflaaGreatDoor
namespace Mt
open Go.Proofs.YtmnhgeggojgflaaGreatDoor.Ws (parseS)
theorem setsP_len {n : Nat} : ∀ {l : List (List UInt8)}, (setsP n l).2 = 0 → (setsP n l).1.length = l.length
  | [], _ => rfl
  | t :: l, h => by
    unfold setsP at h ⊢
    split at h
    · next h1 => exact absurd h (by simpa using h1)
    · next h1 =>
      split at h
      · simp at h
      · next h2 =>
        split at h
        · next h3 => exact absurd h (by simpa using h3)
        · next h3 =>
          rw [if_neg h1, if_neg h2, if_neg h3]
          simp only [List.length_cons]
          rw [setsP_len (by simpa using h3)]
end Mt
