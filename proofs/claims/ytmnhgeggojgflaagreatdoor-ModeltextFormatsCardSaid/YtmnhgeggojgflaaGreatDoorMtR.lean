/- The text of a model: what the program's Parse does. Conditions: the variables lie as they are read. -/
import Derived.Test.YtmnhgeggojgflaaGreatDoorMtQ
import Derived.Test.YtmnhgeggojgflaaGreatDoorMtI
import Derived.Test.YtmnhgeggojgflaaGreatDoorRnd
import Derived.Outline
set_option linter.unusedVariables false
set_option linter.unusedSimpArgs false
namespace Mt
open Go.Proofs.YtmnhgeggojgflaaGreatDoor (Sg checkS)
open Ev (Md)
theorem linesP_cons (S : Sg) (t : List UInt8) (l : List (List UInt8)) (n : Nat) (r : St) : linesP S (t :: l) n r = if skipL t = true then linesP S l (n + 1) r else if (readP S r (items t)).2 ≠ 0 then (r, n + 1, (readP S r (items t)).2) else linesP S l (n + 1) (readP S r (items t)).1 := rfl
theorem linesP_app (S : Sg) : ∀ (l m : List (List UInt8)) (n : Nat) (r : St), linesP S (l ++ m) n r = if (linesP S l n r).2.2 ≠ 0 then linesP S l n r else linesP S m (linesP S l n r).2.1 (linesP S l n r).1
  | [], m, n, r => by rw [if_neg (by simp [linesP])]; rfl
  | t :: l, m, n, r => by
    rw [List.cons_append, linesP_cons, linesP_cons]
    by_cases h1 : skipL t = true
    · simp only [if_pos h1]
      exact linesP_app S l m (n + 1) r
    · simp only [if_neg h1]
      by_cases h2 : (readP S r (items t)).2 ≠ 0
      · simp only [if_pos h2]
      · simp only [if_neg h2]
        exact linesP_app S l m (n + 1) _
theorem linesP_one (S : Sg) (t : List UInt8) (n : Nat) (r : St) : linesP S [t] n r = if skipL t = true then (r, n + 1, 0) else if (readP S r (items t)).2 ≠ 0 then (r, n + 1, (readP S r (items t)).2) else ((readP S r (items t)).1, n + 1, 0) := by
  unfold linesP
  split
  · rfl
  · split <;> rfl
theorem linesP_snoc {S : Sg} {pre : List (List UInt8)} {x : List UInt8} {r : St} (h : linesP S pre 0 .zero = (r, pre.length, 0)) : linesP S (pre ++ [x]) 0 .zero = if skipL x = true then (r, pre.length + 1, 0) else if (readP S r (items x)).2 ≠ 0 then (r, pre.length + 1, (readP S r (items x)).2) else ((readP S r (items x)).1, pre.length + 1, 0) := by
  rw [linesP_app, h, if_neg (by simp), linesP_one]
theorem linesP_stop {S : Sg} {pre L : List (List UInt8)} (h : pre <+: L) (he : (linesP S pre 0 .zero).2.2 ≠ 0) : linesP S L 0 .zero = linesP S pre 0 .zero := by
  obtain ⟨m, rfl⟩ := h
  rw [linesP_app, if_pos he]
theorem lnL_mem : ∀ (t : List UInt8) (x : List UInt8), x ∈ lnL t → x.length ≤ t.length
  | [], x, h => by
    simp [lnL] at h
    simp [h]
  | b :: l, x, h => by
    unfold lnL at h
    split at h
    · rcases List.mem_cons.1 h with rfl | h
      · simp
      · have := lnL_mem l x h
        simp only [List.length_cons]
        omega
    · rcases List.mem_cons.1 h with rfl | h
      · have : ∀ y, y = (lnL l).headD [] → y.length ≤ l.length := fun y hy => by
          cases hq : lnL l with
          | nil => rw [hq] at hy; simp at hy; simp [hy]
          | cons z r =>
            rw [hq] at hy
            have hy : y = z := hy
            subst hy
            exact lnL_mem l y (by rw [hq]; simp)
        have := this _ rfl
        simp only [List.length_cons]
        omega
      · have := lnL_mem l x (List.mem_of_mem_tail h)
        simp only [List.length_cons]
        omega
theorem items_nil {t : List UInt8} {l : List (List UInt8)} (h : items t = some l) (h0 : t.dropWhile (· == 32) ≠ []) : l ≠ [] := by
  unfold items itF at h
  rw [if_neg h0] at h
  split at h
  · cases h
  · rintro rfl
    simp at h
theorem parseM_bad {S : Sg} {t : List UInt8} (h : checkS S ≠ 0) : parseM S t = (emptyM, 0, (checkS S : Int)) := if_pos h
theorem parseM_long {S : Sg} {t : List UInt8} (h : checkS S = 0) (h2 : 100000 < t.length) : parseM S t = (emptyM, 0, 8) := by unfold parseM; rw [if_neg (by omega), if_pos h2]
theorem parseM_lines {S : Sg} {t : List UInt8} (h : checkS S = 0) (h2 : ¬ 100000 < t.length) : parseM S t = match linesP S (lnL t) 0 .zero with
    | (r, n, e) => if e ≠ 0 then (emptyM, n, e) else if r.W = 0 then (emptyM, 0, 4) else (⟨r.W, r.V, r.R⟩, 0, 0) := by unfold parseM; rw [if_neg (by omega), if_neg h2]
end Mt
namespace Go.Proofs.YtmnhgeggojgflaaGreatDoor
open Go.RowKit Go.Shelf
open Mt
open Ev (Md)
attribute [local go_sem] Oper.semAt_some
/-- What Parse leaves. -/
def ParsP (q : Md × Nat × Int) (w : World) (e : Ending) (w' : World) : Prop :=
  ∃ (va : Option Addr) (cv : Nat) (ra : Option Addr) (cr : Nat) (rs : List (Option Addr × Nat)), e = .returned (.tuple #[.agg #[.int .i64 q.1.W, .slice va q.1.V.length cv, .slice ra q.1.R.length cr], .int .i64 (q.2.1 : Int), .int .i64 q.2.2]) ∧ MdR w' q.1 va cv ra cr rs ∧ Keep NoF w w'
theorem mdr_empty (w : World) : MdR w emptyM none 0 none 0 [] :=
  ⟨Rd.nil _ _, Rd.nil _ _, rfl, fun k r p h => by simp [emptyM] at h, ⟨by simp [emptyM], by simp [emptyM]⟩, by simp [emptyM], by simp [emptyM], by simp [emptyM]⟩
section
set_option maxRecDepth 100000
set_option maxHeartbeats 4000000
theorem bk_putE {W : World} {g D : Nat} {t : TypeId} {cs : Array Value} (h : Bk W g t cs) (o : Obj) (hg : g ≠ D) : Bk (W.putObj D o) g t cs := (World.putObj_heap_other hg).trans h
theorem keep_endE {w W : World} {D : Nat} (h : Keep NoF w W) (hD : w.heap.size ≤ D) (o : Obj) : Keep NoF w (W.putObj D o) :=
  h.trans (G := fun k => k = D) ⟨rfl, rfl, rfl, by simp, fun k _ hk => World.putObj_heap_other hk⟩ fun i hi e => absurd hi (by omega)
/-- The call's own first blocks: the signature, the results. -/
structure ParB (w : World) (S : Sg) (a f c : Option Addr) (ca cf cc : Nat) (W : World) : Prop where
  s : Bk W w.heap.size 24 #[.slice a S.A.length ca, .slice f S.F.length cf, .slice c S.C.length cc]
  m : Bk W (w.heap.size + 1) 28 #[.int .i64 0, .slice none 0 0, .slice none 0 0]
  l : Bk W (w.heap.size + 1 + 1) 3 #[.int .i64 0]
  e : Bk W (w.heap.size + 1 + 1 + 1) 3 #[.int .i64 0]
  k : Keep NoF w W
  z : w.heap.size + 1 + 1 + 1 < W.heap.size
theorem ParB.new (w : World) (S : Sg) (a f c : Option Addr) (ca cf cc : Nat) : ParB w S a f c ca cf cc ((((w.alloc (.cells #[.slice a S.A.length ca, .slice f S.F.length cf, .slice c S.C.length cc] 24)).alloc (.cells #[.int .i64 0, .slice none 0 0, .slice none 0 0] 28)).alloc (.cells #[.int .i64 0] 3)).alloc (.cells #[.int .i64 0] 3)) := by
  refine ⟨(((Bk.new w _ _).alloc _).alloc _).alloc _, ?_, ?_, ?_, ((((Keep.refl _ _).alloc _).alloc _).alloc _).alloc _, by simp⟩
  · have := ((Bk.new (w.alloc (.cells #[.slice a S.A.length ca, .slice f S.F.length cf, .slice c S.C.length cc] 24)) 28 #[.int .i64 0, .slice none 0 0, .slice none 0 0]).alloc (.cells #[.int .i64 0] 3)).alloc (.cells #[.int .i64 0] 3)
    simpa using this
  · have := (Bk.new ((w.alloc (.cells #[.slice a S.A.length ca, .slice f S.F.length cf, .slice c S.C.length cc] 24)).alloc (.cells #[.int .i64 0, .slice none 0 0, .slice none 0 0] 28)) 3 #[.int .i64 0]).alloc (.cells #[.int .i64 0] 3)
    simpa using this
  · have := Bk.new (((w.alloc (.cells #[.slice a S.A.length ca, .slice f S.F.length cf, .slice c S.C.length cc] 24)).alloc (.cells #[.int .i64 0, .slice none 0 0, .slice none 0 0] 28)).alloc (.cells #[.int .i64 0] 3)) 3 #[.int .i64 0]
    simpa using this
theorem ParB.keep {w : World} {S : Sg} {a f c : Option Addr} {ca cf cc : Nat} {W W' : World} {F : Nat → Prop} (h : ParB w S a f c ca cf cc W) (hk : Keep F W W') (hf : ∀ k, k ≤ w.heap.size + 1 + 1 + 1 → ¬ F k) : ParB w S a f c ca cf cc W' :=
  ⟨h.s.keep hk (hf _ (by omega)), h.m.keep hk (hf _ (by omega)), h.l.keep hk (hf _ (by omega)), h.e.keep hk (hf _ (by omega)), h.k.trans hk fun i hi hF => absurd hF (hf i (by omega)), Nat.lt_of_lt_of_le h.z hk.size⟩
theorem ParB.store {w : World} {S : Sg} {a f c : Option Addr} {ca cf cc : Nat} {W : World} (h : ParB w S a f c ca cf cc W) (n : Int) (v1 v2 : Value) (l e : Int) :
    Bk (((((W.setCell ⟨w.heap.size + 1, 0, none⟩ (.int .i64 n)).setCell ⟨w.heap.size + 1, 1, none⟩ v1).setCell ⟨w.heap.size + 1, 2, none⟩ v2).setCell ⟨w.heap.size + 1 + 1, 0, none⟩ (.int .i64 l)).setCell ⟨w.heap.size + 1 + 1 + 1, 0, none⟩ (.int .i64 e)) (w.heap.size + 1) 28 #[.int .i64 n, v1, v2] ∧
    Bk (((((W.setCell ⟨w.heap.size + 1, 0, none⟩ (.int .i64 n)).setCell ⟨w.heap.size + 1, 1, none⟩ v1).setCell ⟨w.heap.size + 1, 2, none⟩ v2).setCell ⟨w.heap.size + 1 + 1, 0, none⟩ (.int .i64 l)).setCell ⟨w.heap.size + 1 + 1 + 1, 0, none⟩ (.int .i64 e)) (w.heap.size + 1 + 1) 3 #[.int .i64 l] ∧
    Bk (((((W.setCell ⟨w.heap.size + 1, 0, none⟩ (.int .i64 n)).setCell ⟨w.heap.size + 1, 1, none⟩ v1).setCell ⟨w.heap.size + 1, 2, none⟩ v2).setCell ⟨w.heap.size + 1 + 1, 0, none⟩ (.int .i64 l)).setCell ⟨w.heap.size + 1 + 1 + 1, 0, none⟩ (.int .i64 e)) (w.heap.size + 1 + 1 + 1) 3 #[.int .i64 e] ∧
    Keep NoF w (((((W.setCell ⟨w.heap.size + 1, 0, none⟩ (.int .i64 n)).setCell ⟨w.heap.size + 1, 1, none⟩ v1).setCell ⟨w.heap.size + 1, 2, none⟩ v2).setCell ⟨w.heap.size + 1 + 1, 0, none⟩ (.int .i64 l)).setCell ⟨w.heap.size + 1 + 1 + 1, 0, none⟩ (.int .i64 e)) ∧
    Keep (fun k => w.heap.size ≤ k ∧ k ≤ w.heap.size + 1 + 1 + 1) W (((((W.setCell ⟨w.heap.size + 1, 0, none⟩ (.int .i64 n)).setCell ⟨w.heap.size + 1, 1, none⟩ v1).setCell ⟨w.heap.size + 1, 2, none⟩ v2).setCell ⟨w.heap.size + 1 + 1, 0, none⟩ (.int .i64 l)).setCell ⟨w.heap.size + 1 + 1 + 1, 0, none⟩ (.int .i64 e)) := by
  have KK : Keep (fun k => w.heap.size ≤ k ∧ k ≤ w.heap.size + 1 + 1 + 1) W (((((W.setCell ⟨w.heap.size + 1, 0, none⟩ (.int .i64 n)).setCell ⟨w.heap.size + 1, 1, none⟩ v1).setCell ⟨w.heap.size + 1, 2, none⟩ v2).setCell ⟨w.heap.size + 1 + 1, 0, none⟩ (.int .i64 l)).setCell ⟨w.heap.size + 1 + 1 + 1, 0, none⟩ (.int .i64 e)) :=
    (((((Keep.refl _ W).setCell (p := ⟨w.heap.size + 1, 0, none⟩) (.inl ⟨by simp, by simp⟩) _).setCell (p := ⟨w.heap.size + 1, 1, none⟩) (.inl ⟨by simp, by simp⟩) _).setCell (p := ⟨w.heap.size + 1, 2, none⟩) (.inl ⟨by simp, by simp⟩) _).setCell (p := ⟨w.heap.size + 1 + 1, 0, none⟩) (.inl ⟨by simp <;> omega, by simp⟩) _).setCell (p := ⟨w.heap.size + 1 + 1 + 1, 0, none⟩) (.inl ⟨by simp <;> omega, by simp⟩) _
  exact ⟨((((h.m.put 0 (.int .i64 n)).put 1 v1).put 2 v2).far (p := ⟨w.heap.size + 1 + 1, 0, none⟩) (by show w.heap.size + 1 ≠ w.heap.size + 1 + 1; omega) _).far (p := ⟨w.heap.size + 1 + 1 + 1, 0, none⟩) (by show w.heap.size + 1 ≠ w.heap.size + 1 + 1 + 1; omega) _,
    ((((h.l.far (p := ⟨w.heap.size + 1, 0, none⟩) (by simp) _).far (p := ⟨w.heap.size + 1, 1, none⟩) (by simp) _).far (p := ⟨w.heap.size + 1, 2, none⟩) (by simp) _).put 0 (.int .i64 l)).far (p := ⟨w.heap.size + 1 + 1 + 1, 0, none⟩) (by simp) _,
    ((((h.e.far (p := ⟨w.heap.size + 1, 0, none⟩) (by simp <;> omega) _).far (p := ⟨w.heap.size + 1, 1, none⟩) (by simp <;> omega) _).far (p := ⟨w.heap.size + 1, 2, none⟩) (by simp <;> omega) _).far (p := ⟨w.heap.size + 1 + 1, 0, none⟩) (by simp) _).put 0 (.int .i64 e),
    h.k.trans KK fun i hi hF => by omega, KK⟩
theorem mtParse_bad (S : Sg) (a f c : Option Addr) (ca cf cc : Nat) (t : ByteArray) (w : World) (hS : SigR w S a ca f cf c cc) (hT : Tab w) (h : checkS S ≠ 0) :
    Calls Tryz.prog 13 #[.agg #[.slice a S.A.length ca, .slice f S.F.length cf, .slice c S.C.length cc], .string t] w (ParsP (parseM S t.data.toList) w) := by
  rw [parseM_bad h]
  have HP0 := Lib.hid (ParB.new w S a f c ca cf cc)
  have HC := Lib.hid fun W (hk : Keep NoF w W) => Check_any S a f c ca cf cc W (hS.keep hk) (hT.keep0 hk)
  generalize checkS S = x at *
  have hx : ((x : Int) != 0) = true := by simp; omega
  go_enter Tryz.func13, Tryz.ntmps13
  go_upto_region 1 with (fail)
  generalize (((w.alloc (.cells #[.slice a S.A.length ca, .slice f S.F.length cf, .slice c S.C.length cc] 24)).alloc (.cells #[.int .i64 0, .slice none 0 0, .slice none 0 0] 28)).alloc (.cells #[.int .i64 0] 3)).alloc (.cells #[.int .i64 0] 3) = W0 at *
  have k0 := HP0.out.k
  have c0 : W0.cell? ⟨w.heap.size, 0, none⟩ = some (.slice a S.A.length ca) := HP0.out.s.cell 0
  have c1 : W0.cell? ⟨w.heap.size, 1, none⟩ = some (.slice f S.F.length cf) := HP0.out.s.cell 1
  have c2 : W0.cell? ⟨w.heap.size, 2, none⟩ = some (.slice c S.C.length cc) := HP0.out.s.cell 2
  go_upto_region 3 with (go_at_call 21; (with_reducible refine (HC.out _ k0).mono ?_); rintro e w1 ⟨rfl, k1⟩)
  have HP1 := Lib.hid (HP0.out.keep k1 fun _ _ h => h)
  have m0 : w1.cell? ⟨w.heap.size + 1, 0, none⟩ = some (.int .i64 0) := HP1.out.m.cell 0
  have m1 : w1.cell? ⟨w.heap.size + 1, 1, none⟩ = some (.slice none 0 0) := HP1.out.m.cell 1
  have m2 : w1.cell? ⟨w.heap.size + 1, 2, none⟩ = some (.slice none 0 0) := HP1.out.m.cell 2
  have l0 : w1.cell? ⟨w.heap.size + 1 + 1, 0, none⟩ = some (.int .i64 0) := HP1.out.l.cell 0
  have e0 : w1.cell? ⟨w.heap.size + 1 + 1 + 1, 0, none⟩ = some (.int .i64 0) := HP1.out.e.cell 0
  have n0 : w1.frozen? ⟨w.heap.size + 1, 0, none⟩ = false := HP1.out.m.frozen 0
  have n1 : w1.frozen? ⟨w.heap.size + 1, 1, none⟩ = false := HP1.out.m.frozen 1
  have n2 : w1.frozen? ⟨w.heap.size + 1, 2, none⟩ = false := HP1.out.m.frozen 2
  have n3 : w1.frozen? ⟨w.heap.size + 1 + 1, 0, none⟩ = false := HP1.out.l.frozen 0
  have n4 : w1.frozen? ⟨w.heap.size + 1 + 1 + 1, 0, none⟩ = false := HP1.out.e.frozen 0
  go_wp2
  obtain ⟨q1, q2, q3, qk, -⟩ := HP1.out.store 0 (.slice none 0 0) (.slice none 0 0) 0 ((x : Int))
  have r0 := q1.cell 0
  have r1 := q1.cell 1
  have r2 := q1.cell 2
  have r3 := q2.cell 0
  have r4 := q3.cell 0
  refine bodyPost_ret (v := .tuple #[.agg #[.int .i64 0, .slice none 0 0, .slice none 0 0], .int .i64 0, .int .i64 ((x : Int))]) (by simp [results, Tryz.results13, go_sem, r0, r1, r2, r3, r4]) rfl ?_
  exact ⟨none, 0, none, 0, [], rfl, mdr_empty _, qk⟩
theorem mtParse_long (S : Sg) (a f c : Option Addr) (ca cf cc : Nat) (t : ByteArray) (w : World) (hS : SigR w S a ca f cf c cc) (hT : Tab w) (h : checkS S = 0) (hl : 100000 < t.size) :
    Calls Tryz.prog 13 #[.agg #[.slice a S.A.length ca, .slice f S.F.length cf, .slice c S.C.length cc], .string t] w (ParsP (parseM S t.data.toList) w) := by
  rw [parseM_long h (by rw [data_len]; exact hl)]
  have HP0 := Lib.hid (ParB.new w S a f c ca cf cc)
  have HC := Lib.hid fun W (hk : Keep NoF w W) => Check_any S a f c ca cf cc W (hS.keep hk) (hT.keep0 hk)
  rw [h] at HC
  have hl2 : (100000 : Int) < (t.size : Int) := by omega
  go_enter Tryz.func13, Tryz.ntmps13
  go_upto_region 1 with (fail)
  generalize (((w.alloc (.cells #[.slice a S.A.length ca, .slice f S.F.length cf, .slice c S.C.length cc] 24)).alloc (.cells #[.int .i64 0, .slice none 0 0, .slice none 0 0] 28)).alloc (.cells #[.int .i64 0] 3)).alloc (.cells #[.int .i64 0] 3) = W0 at *
  have k0 := HP0.out.k
  have c0 : W0.cell? ⟨w.heap.size, 0, none⟩ = some (.slice a S.A.length ca) := HP0.out.s.cell 0
  have c1 : W0.cell? ⟨w.heap.size, 1, none⟩ = some (.slice f S.F.length cf) := HP0.out.s.cell 1
  have c2 : W0.cell? ⟨w.heap.size, 2, none⟩ = some (.slice c S.C.length cc) := HP0.out.s.cell 2
  go_upto_region 5 with (go_at_call 21; (with_reducible refine (HC.out _ k0).mono ?_); rintro e w1 ⟨rfl, k1⟩)
  have HP1 := Lib.hid (HP0.out.keep k1 fun _ _ h => h)
  have m0 : w1.cell? ⟨w.heap.size + 1, 0, none⟩ = some (.int .i64 0) := HP1.out.m.cell 0
  have m1 : w1.cell? ⟨w.heap.size + 1, 1, none⟩ = some (.slice none 0 0) := HP1.out.m.cell 1
  have m2 : w1.cell? ⟨w.heap.size + 1, 2, none⟩ = some (.slice none 0 0) := HP1.out.m.cell 2
  have l0 : w1.cell? ⟨w.heap.size + 1 + 1, 0, none⟩ = some (.int .i64 0) := HP1.out.l.cell 0
  have e0 : w1.cell? ⟨w.heap.size + 1 + 1 + 1, 0, none⟩ = some (.int .i64 0) := HP1.out.e.cell 0
  have n0 : w1.frozen? ⟨w.heap.size + 1, 0, none⟩ = false := HP1.out.m.frozen 0
  have n1 : w1.frozen? ⟨w.heap.size + 1, 1, none⟩ = false := HP1.out.m.frozen 1
  have n2 : w1.frozen? ⟨w.heap.size + 1, 2, none⟩ = false := HP1.out.m.frozen 2
  have n3 : w1.frozen? ⟨w.heap.size + 1 + 1, 0, none⟩ = false := HP1.out.l.frozen 0
  have n4 : w1.frozen? ⟨w.heap.size + 1 + 1 + 1, 0, none⟩ = false := HP1.out.e.frozen 0
  go_wp2
  obtain ⟨q1, q2, q3, qk, -⟩ := HP1.out.store 0 (.slice none 0 0) (.slice none 0 0) 0 (8)
  have r0 := q1.cell 0
  have r1 := q1.cell 1
  have r2 := q1.cell 2
  have r3 := q2.cell 0
  have r4 := q3.cell 0
  refine bodyPost_ret (v := .tuple #[.agg #[.int .i64 0, .slice none 0 0, .slice none 0 0], .int .i64 0, .int .i64 (8)]) (by simp [results, Tryz.results13, go_sem, r0, r1, r2, r3, r4]) rfl ?_
  exact ⟨none, 0, none, 0, [], rfl, mdr_empty _, qk⟩
/-- The blocks that no line turns. -/
def PrM (H : Nat) : Nat → Prop := fun k => k < H ∨ (H + 5 ≤ k ∧ k ≤ H + 11)
theorem RdW.keepP {W W' : World} {S : Sg} {a f c : Option Addr} {ca cf cc : Nat} {r : St} {Pr : Nat → Prop} {b m0 m1 m2 m3 vb rb : Nat} {rs : List Nat} {F : Nat → Prop} (h : RdW W S a f c ca cf cc r Pr b m0 m1 m2 m3 vb rb rs) (hk : Keep F W W') (hf : ∀ k, F k → Pr k) : RdW W' S a f c ca cf cc r Pr b m0 m1 m2 m3 vb rb rs := by
  have key : ∀ r, RdB W r Pr b m0 m1 m2 m3 → RdB W' r Pr b m0 m1 m2 m3 := fun r h => ⟨h.fa.keep0 hk fun e => h.pr _ (by simp) (hf _ e), h.at_.keep0 hk fun e => h.pr _ (by simp) (hf _ e), h.so.keep0 hk fun e => h.pr _ (by simp) (hf _ e), h.ce.keep0 hk fun e => h.pr _ (by simp) (hf _ e), h.n01, h.n02, h.n03, h.n12, h.n13, h.n23, h.pr⟩
  exact ⟨key _ h.mb, h.B.keep hk fun e => h.mb.pr _ (by simp) (hf _ e), h.V.keep hk fun e => h.pv _ (.inl rfl) (hf _ e), h.R.keep hk fun e => h.pv _ (.inr (.inl rfl)) (hf _ e), h.rl, fun k l g h1 h2 => (h.row k l g h1 h2).keep hk fun e => h.pv _ (.inr (.inr (List.mem_of_getElem? h2))) (hf _ e), h.nv, h.nd, h.pv, h.ok, h.w0⟩
theorem u6_at? (l : List Nat) (W : World) (g : Nat) (h : Bk W g 45 (u6 l).toArray) : Rd W (.slice (some ⟨g, 0, none⟩) l.length l.length) 1 l.length (u6 l) :=
  ⟨by simp [u6], _, _, rfl, Nat.le_refl _, fun _ => ⟨g, 0, rfl, fun j u hu => by
    rw [Nat.zero_add, h.cell j]
    simpa using hu⟩⟩
theorem RdW.mdr {W : World} {S : Sg} {a f c : Option Addr} {ca cf cc : Nat} {r : St} {Pr : Nat → Prop} {b m0 m1 m2 m3 vb rb : Nat} {rs : List Nat} (h : RdW W S a f c ca cf cc r Pr b m0 m1 m2 m3 vb rb rs) (hA : S.A.length ≤ 1000) (hF : S.F.length ≤ 1000) :
    MdR W ⟨r.W, r.V, r.R⟩ (some ⟨vb, 0, none⟩) S.F.length (some ⟨rb, 0, none⟩) S.A.length (rs.map fun g => (some ⟨g, 0, none⟩, r.W)) := by
  have hv := h.ok.v h.w0
  have ha := h.ok.a h.w0
  have h64 := h.ok.w64
  have hp : 2 ^ r.W ≤ 18446744073709551616 := by have := Nat.pow_le_pow_right (n := 2) (by omega) h64; omega
  refine ⟨by have := u6_at? _ _ _ h.V; rw [hv] at this ⊢; exact this, ?_, by simp only [List.length_map]; rw [h.rl, ha], fun k l p h1 h2 => ?_, ⟨fun x hx => by have := h.ok.vb x hx; omega, fun l hl x hx => by have := h.ok.rb l hl x hx; omega⟩, by simp only; omega, by simp only; omega, fun l hl => by have := h.ok.rl l hl; omega⟩
  · refine ⟨by simp only [rowsV, List.length_zipWith, List.length_map]; rw [h.rl, ha]; simp, _, _, rfl, by simp only; omega, fun _ => ⟨rb, 0, rfl, fun j u hu => ?_⟩⟩
    rw [Nat.zero_add, h.R.cell j]
    unfold rowsV at hu
    rw [List.getElem?_zipWith] at hu
    simp only [List.getElem?_map] at hu
    cases h1 : r.R[j]? with
    | none => rw [h1] at hu; cases hu
    | some l =>
      cases h2 : rs[j]? with
      | none => rw [h1, h2] at hu; cases hu
      | some g =>
        rw [h1, h2] at hu
        obtain rfl := Option.some.inj hu
        simp [h2, rowB, rowV, h.ok.rl l (List.mem_of_getElem? h1)]
  · simp only at h1
    rw [List.getElem?_map] at h2
    cases h3 : rs[k]? with
    | none => rw [h3] at h2; cases h2
    | some g =>
      rw [h3] at h2
      obtain rfl := Option.some.inj h2
      have := u6_at? _ _ _ (h.row k l g h1 h3)
      have hl := h.ok.rl l (List.mem_of_getElem? h1)
      rw [hl] at this ⊢
      exact this
theorem RdX.keepP {W W' : World} {S : Sg} {a f c : Option Addr} {ca cf cc : Nat} {r : St} {Pr : Nat → Prop} {b m0 m1 m2 m3 : Nat} {F : Nat → Prop} (h : RdX W S a f c ca cf cc r Pr b m0 m1 m2 m3) (hk : Keep F W W') (hf : ∀ k, F k → Pr k) : RdX W' S a f c ca cf cc r Pr b m0 m1 m2 m3 := by
  have key : ∀ r, RdB W r Pr b m0 m1 m2 m3 → RdB W' r Pr b m0 m1 m2 m3 := fun r h => ⟨h.fa.keep0 hk fun e => h.pr _ (by simp) (hf _ e), h.at_.keep0 hk fun e => h.pr _ (by simp) (hf _ e), h.so.keep0 hk fun e => h.pr _ (by simp) (hf _ e), h.ce.keep0 hk fun e => h.pr _ (by simp) (hf _ e), h.n01, h.n02, h.n03, h.n12, h.n13, h.n23, h.pr⟩
  rcases h with ⟨vb, rb, rs, h⟩ | ⟨h1, h2⟩
  · exact .inl ⟨vb, rb, rs, key _ h.mb, h.B.keep hk fun e => h.mb.pr _ (by simp) (hf _ e), h.V.keep hk fun e => h.pv _ (.inl rfl) (hf _ e), h.R.keep hk fun e => h.pv _ (.inr (.inl rfl)) (hf _ e), h.rl, fun k l g h1 h2 => (h.row k l g h1 h2).keep hk fun e => h.pv _ (.inr (.inr (List.mem_of_getElem? h2))) (hf _ e), h.nv, h.nd, h.pv, h.ok, h.w0⟩
  · exact .inr ⟨h1, key _ h2.mb, h2.B.keep hk fun e => h2.mb.pr _ (by simp) (hf _ e)⟩
/-- Between two lines. -/
def ParI (w w1 : World) (S : Sg) (a f c : Option Addr) (ca cf cc : Nat) (pre : List (List UInt8)) (W : World) : Prop :=
  ∃ r, Hid (linesP S pre 0 .zero = (r, pre.length, 0)) ∧ RdX W S a f c ca cf cc r (PrM w1.heap.size) (w1.heap.size + 1 + 1 + 1 + 1) w1.heap.size (w1.heap.size + 1) (w1.heap.size + 1 + 1) (w1.heap.size + 1 + 1 + 1) ∧ Bk W (w1.heap.size + 1 + 1 + 1 + 1 + 1) 62 #[.pointer (some ⟨(w1.heap.size + 1 + 1 + 1 + 1), 0, none⟩)] ∧ Bk W (w1.heap.size + 1 + 1 + 1 + 1 + 1 + 1) 3 #[.int .i64 (pre.length : Int)] ∧
    ParB w S a f c ca cf cc W ∧ Keep NoF w1 W ∧ w1.heap.size + 10 ≤ W.heap.size
/-- Behind a line with an error. -/
def ParX (w w1 : World) (S : Sg) (T : List UInt8) (_ : List (List UInt8)) (W : World) : Prop :=
  ∃ (n : Nat) (e : Int), Hid ((linesP S (lnL T) 0 .zero).2 = (n, e)) ∧ e ≠ 0 ∧ Bk W (w.heap.size + 1) 28 #[.int .i64 0, .slice none 0 0, .slice none 0 0] ∧ Bk W (w.heap.size + 1 + 1) 3 #[.int .i64 (n : Int)] ∧ Bk W (w.heap.size + 1 + 1 + 1) 3 #[.int .i64 e] ∧ Keep NoF w W ∧ w1.heap.size + 10 ≤ W.heap.size
theorem mp_zero {κ : Type} : (fun _ : κ => (none : Option Bool)) = mp fun _ => false := by funext x; rfl
theorem ParI.start {w w1 : World} {S : Sg} {a f c : Option Addr} {ca cf cc : Nat} (t : ByteArray) (h : ParB w S a f c ca cf cc w1) :
    ParI w w1 S a f c ca cf cc [] (((((((((((w1.alloc (.map #[] 0)).alloc (.map #[] 0)).alloc (.map #[] 0)).alloc (.map #[] 0)).alloc (.cells #[.slice a S.A.length ca, .slice f S.F.length cf, .slice c S.C.length cc, .int .i64 0, .slice none 0 0, .slice none 0 0, .map (some w1.heap.size), .map (some (w1.heap.size + 1)), .map (some (w1.heap.size + 1 + 1)), .map (some (w1.heap.size + 1 + 1 + 1))] 66)).alloc (.cells #[.pointer (some ⟨(w1.heap.size + 1 + 1 + 1 + 1), 0, none⟩)] 62)).alloc (.cells #[.int .i64 0] 3)).alloc (.cells #[.string t] 9)).alloc (.cells #[.string ⟨#[10]⟩] 9)).alloc (.cells #[.int .i64 0] 3))) ∧ Bk (((((((((((w1.alloc (.map #[] 0)).alloc (.map #[] 0)).alloc (.map #[] 0)).alloc (.map #[] 0)).alloc (.cells #[.slice a S.A.length ca, .slice f S.F.length cf, .slice c S.C.length cc, .int .i64 0, .slice none 0 0, .slice none 0 0, .map (some w1.heap.size), .map (some (w1.heap.size + 1)), .map (some (w1.heap.size + 1 + 1)), .map (some (w1.heap.size + 1 + 1 + 1))] 66)).alloc (.cells #[.pointer (some ⟨(w1.heap.size + 1 + 1 + 1 + 1), 0, none⟩)] 62)).alloc (.cells #[.int .i64 0] 3)).alloc (.cells #[.string t] 9)).alloc (.cells #[.string ⟨#[10]⟩] 9)).alloc (.cells #[.int .i64 0] 3))) (w1.heap.size + 1 + 1 + 1 + 1 + 1 + 1 + 1) 9 #[.string t] ∧ Bk (((((((((((w1.alloc (.map #[] 0)).alloc (.map #[] 0)).alloc (.map #[] 0)).alloc (.map #[] 0)).alloc (.cells #[.slice a S.A.length ca, .slice f S.F.length cf, .slice c S.C.length cc, .int .i64 0, .slice none 0 0, .slice none 0 0, .map (some w1.heap.size), .map (some (w1.heap.size + 1)), .map (some (w1.heap.size + 1 + 1)), .map (some (w1.heap.size + 1 + 1 + 1))] 66)).alloc (.cells #[.pointer (some ⟨(w1.heap.size + 1 + 1 + 1 + 1), 0, none⟩)] 62)).alloc (.cells #[.int .i64 0] 3)).alloc (.cells #[.string t] 9)).alloc (.cells #[.string ⟨#[10]⟩] 9)).alloc (.cells #[.int .i64 0] 3))) (w1.heap.size + 1 + 1 + 1 + 1 + 1 + 1 + 1 + 1) 9 #[.string ⟨#[10]⟩] ∧ Bk (((((((((((w1.alloc (.map #[] 0)).alloc (.map #[] 0)).alloc (.map #[] 0)).alloc (.map #[] 0)).alloc (.cells #[.slice a S.A.length ca, .slice f S.F.length cf, .slice c S.C.length cc, .int .i64 0, .slice none 0 0, .slice none 0 0, .map (some w1.heap.size), .map (some (w1.heap.size + 1)), .map (some (w1.heap.size + 1 + 1)), .map (some (w1.heap.size + 1 + 1 + 1))] 66)).alloc (.cells #[.pointer (some ⟨(w1.heap.size + 1 + 1 + 1 + 1), 0, none⟩)] 62)).alloc (.cells #[.int .i64 0] 3)).alloc (.cells #[.string t] 9)).alloc (.cells #[.string ⟨#[10]⟩] 9)).alloc (.cells #[.int .i64 0] 3))) (w1.heap.size + 1 + 1 + 1 + 1 + 1 + 1 + 1 + 1 + 1) 3 #[.int .i64 0] := by
  obtain ⟨W1, g1⟩ : ∃ W : World, W = w1.alloc (.map #[] 0) := ⟨_, rfl⟩
  have k1 : Keep NoF w1 W1 := by rw [g1]; exact (Keep.refl _ _).alloc _
  have z1 : W1.heap.size = (w1.heap.size + 1) := by rw [g1, World.size_alloc]
  obtain ⟨W2, g2⟩ : ∃ W : World, W = W1.alloc (.map #[] 0) := ⟨_, rfl⟩
  have k2 : Keep NoF W1 W2 := by rw [g2]; exact (Keep.refl _ _).alloc _
  have z2 : W2.heap.size = (w1.heap.size + 1 + 1) := by rw [g2, World.size_alloc, z1]
  obtain ⟨W3, g3⟩ : ∃ W : World, W = W2.alloc (.map #[] 0) := ⟨_, rfl⟩
  have k3 : Keep NoF W2 W3 := by rw [g3]; exact (Keep.refl _ _).alloc _
  have z3 : W3.heap.size = (w1.heap.size + 1 + 1 + 1) := by rw [g3, World.size_alloc, z2]
  obtain ⟨W4, g4⟩ : ∃ W : World, W = W3.alloc (.map #[] 0) := ⟨_, rfl⟩
  have k4 : Keep NoF W3 W4 := by rw [g4]; exact (Keep.refl _ _).alloc _
  have z4 : W4.heap.size = (w1.heap.size + 1 + 1 + 1 + 1) := by rw [g4, World.size_alloc, z3]
  obtain ⟨W5, g5⟩ : ∃ W : World, W = W4.alloc (.cells #[.slice a S.A.length ca, .slice f S.F.length cf, .slice c S.C.length cc, .int .i64 0, .slice none 0 0, .slice none 0 0, .map (some w1.heap.size), .map (some (w1.heap.size + 1)), .map (some (w1.heap.size + 1 + 1)), .map (some (w1.heap.size + 1 + 1 + 1))] 66) := ⟨_, rfl⟩
  have k5 : Keep NoF W4 W5 := by rw [g5]; exact (Keep.refl _ _).alloc _
  have z5 : W5.heap.size = (w1.heap.size + 1 + 1 + 1 + 1 + 1) := by rw [g5, World.size_alloc, z4]
  obtain ⟨W6, g6⟩ : ∃ W : World, W = W5.alloc (.cells #[.pointer (some ⟨(w1.heap.size + 1 + 1 + 1 + 1), 0, none⟩)] 62) := ⟨_, rfl⟩
  have k6 : Keep NoF W5 W6 := by rw [g6]; exact (Keep.refl _ _).alloc _
  have z6 : W6.heap.size = (w1.heap.size + 1 + 1 + 1 + 1 + 1 + 1) := by rw [g6, World.size_alloc, z5]
  obtain ⟨W7, g7⟩ : ∃ W : World, W = W6.alloc (.cells #[.int .i64 0] 3) := ⟨_, rfl⟩
  have k7 : Keep NoF W6 W7 := by rw [g7]; exact (Keep.refl _ _).alloc _
  have z7 : W7.heap.size = (w1.heap.size + 1 + 1 + 1 + 1 + 1 + 1 + 1) := by rw [g7, World.size_alloc, z6]
  obtain ⟨W8, g8⟩ : ∃ W : World, W = W7.alloc (.cells #[.string t] 9) := ⟨_, rfl⟩
  have k8 : Keep NoF W7 W8 := by rw [g8]; exact (Keep.refl _ _).alloc _
  have z8 : W8.heap.size = (w1.heap.size + 1 + 1 + 1 + 1 + 1 + 1 + 1 + 1) := by rw [g8, World.size_alloc, z7]
  obtain ⟨W9, g9⟩ : ∃ W : World, W = W8.alloc (.cells #[.string ⟨#[10]⟩] 9) := ⟨_, rfl⟩
  have k9 : Keep NoF W8 W9 := by rw [g9]; exact (Keep.refl _ _).alloc _
  have z9 : W9.heap.size = (w1.heap.size + 1 + 1 + 1 + 1 + 1 + 1 + 1 + 1 + 1) := by rw [g9, World.size_alloc, z8]
  obtain ⟨W10, g10⟩ : ∃ W : World, W = W9.alloc (.cells #[.int .i64 0] 3) := ⟨_, rfl⟩
  have k10 : Keep NoF W9 W10 := by rw [g10]; exact (Keep.refl _ _).alloc _
  have z10 : W10.heap.size = (w1.heap.size + 1 + 1 + 1 + 1 + 1 + 1 + 1 + 1 + 1 + 1) := by rw [g10, World.size_alloc, z9]
  have K9 : Keep NoF W9 W10 := k10
  have K8 : Keep NoF W8 W10 := k9.trans K9 fun _ _ h => h
  have K7 : Keep NoF W7 W10 := k8.trans K8 fun _ _ h => h
  have K6 : Keep NoF W6 W10 := k7.trans K7 fun _ _ h => h
  have K5 : Keep NoF W5 W10 := k6.trans K6 fun _ _ h => h
  have K4 : Keep NoF W4 W10 := k5.trans K5 fun _ _ h => h
  have K3 : Keep NoF W3 W10 := k4.trans K4 fun _ _ h => h
  have K2 : Keep NoF W2 W10 := k3.trans K3 fun _ _ h => h
  have K1 : Keep NoF W1 W10 := k2.trans K2 fun _ _ h => h
  have K0 : Keep NoF w1 W10 := k1.trans K1 fun _ _ h => h
  have e : ((((((((((w1.alloc (.map #[] 0)).alloc (.map #[] 0)).alloc (.map #[] 0)).alloc (.map #[] 0)).alloc (.cells #[.slice a S.A.length ca, .slice f S.F.length cf, .slice c S.C.length cc, .int .i64 0, .slice none 0 0, .slice none 0 0, .map (some w1.heap.size), .map (some (w1.heap.size + 1)), .map (some (w1.heap.size + 1 + 1)), .map (some (w1.heap.size + 1 + 1 + 1))] 66)).alloc (.cells #[.pointer (some ⟨(w1.heap.size + 1 + 1 + 1 + 1), 0, none⟩)] 62)).alloc (.cells #[.int .i64 0] 3)).alloc (.cells #[.string t] 9)).alloc (.cells #[.string ⟨#[10]⟩] 9)).alloc (.cells #[.int .i64 0] 3)) = W10 := by rw [g10, g9, g8, g7, g6, g5, g4, g3, g2, g1]
  rw [e]
  have M0 := MapT.new w1 Tryz.prog 3 niV Value.bool tinyI
  have M1 := MapS.new W1 Tryz.prog 130 prV Value.bool tinyP
  have M2 := MapS.new W2 Tryz.prog 3 niV Value.bool tinyI
  have M3 := MapT.new W3 Tryz.prog 3 niV Value.bool tinyI
  rw [mp_zero] at M0 M1 M2 M3
  rw [← g1] at M0
  rw [← g2, z1] at M1
  rw [← g3, z2] at M2
  rw [← g4, z3] at M3
  have B4 := Bk.new W4 66 #[.slice a S.A.length ca, .slice f S.F.length cf, .slice c S.C.length cc, .int .i64 0, .slice none 0 0, .slice none 0 0, .map (some w1.heap.size), .map (some (w1.heap.size + 1)), .map (some (w1.heap.size + 1 + 1)), .map (some (w1.heap.size + 1 + 1 + 1))]
  have B5 := Bk.new W5 62 #[.pointer (some ⟨(w1.heap.size + 1 + 1 + 1 + 1), 0, none⟩)]
  have B6 := Bk.new W6 3 #[.int .i64 0]
  have B7 := Bk.new W7 9 #[.string t]
  have B8 := Bk.new W8 9 #[.string ⟨#[10]⟩]
  have B9 := Bk.new W9 3 #[.int .i64 0]
  rw [← g5, z4] at B4
  rw [← g6, z5] at B5
  rw [← g7, z6] at B6
  rw [← g8, z7] at B7
  rw [← g9, z8] at B8
  rw [← g10, z9] at B9
  have N : ∀ {k : Nat}, ¬ NoF k := fun h => h
  refine ⟨⟨.zero, Lib.hid rfl, .inr ⟨rfl, ⟨⟨M0.keep0 (K1) N, M1.keep0 (K2) N, M2.keep0 (K3) N, M3.keep0 (K4) N, by omega, by omega, by omega, by omega, by omega, by omega, fun k hk => ?_⟩, B4.keep K5 N⟩⟩, B5.keep K6 N, B6.keep K7 N, h.keep K0 (fun _ _ h => h), K0, by rw [z10]; exact Nat.le_refl _⟩, B7.keep K8 N, B8.keep K9 N, B9⟩
  unfold PrM
  omega
theorem par_stop {w w1 W W3 : World} {S : Sg} {a f c : Option Addr} {ca cf cc : Nat} {pre : List (List UInt8)} {x T : List UInt8} {r : St} {e : Int} (hpx : pre ++ [x] <+: lnL T) (hs : linesP S (pre ++ [x]) 0 .zero = (r, pre.length + 1, e)) (he : e ≠ 0)
    (hP : ParB w S a f c ca cf cc W3) (hS : Same5 (w1.heap.size + 1 + 1 + 1 + 1 + 1 + 1 + 1) (w1.heap.size + 1 + 1 + 1 + 1 + 1 + 1 + 1 + 1 + 1 + 1) W W3) (hzz : w.heap.size + 1 + 1 + 1 < w1.heap.size) (hD : (w1.heap.size + 1 + 1 + 1 + 1 + 1 + 1 + 1 + 1 + 1 + 1 + 1) < W3.heap.size) :
    Same5 (w1.heap.size + 1 + 1 + 1 + 1 + 1 + 1 + 1) (w1.heap.size + 1 + 1 + 1 + 1 + 1 + 1 + 1 + 1 + 1 + 1) W ((((((W3.setCell ⟨w.heap.size + 1, 0, none⟩ (.int .i64 0)).setCell ⟨w.heap.size + 1, 1, none⟩ (.slice none 0 0)).setCell ⟨w.heap.size + 1, 2, none⟩ (.slice none 0 0)).setCell ⟨w.heap.size + 1 + 1, 0, none⟩ (.int .i64 ((pre.length : Int) + 1))).setCell ⟨w.heap.size + 1 + 1 + 1, 0, none⟩ (.int .i64 e)).drew) ∧ ParX w w1 S T (pre ++ [x]) ((((((W3.setCell ⟨w.heap.size + 1, 0, none⟩ (.int .i64 0)).setCell ⟨w.heap.size + 1, 1, none⟩ (.slice none 0 0)).setCell ⟨w.heap.size + 1, 2, none⟩ (.slice none 0 0)).setCell ⟨w.heap.size + 1 + 1, 0, none⟩ (.int .i64 ((pre.length : Int) + 1))).setCell ⟨w.heap.size + 1 + 1 + 1, 0, none⟩ (.int .i64 e)).drew) := by
  obtain ⟨q1, q2, q3, qk, qK⟩ := hP.store 0 (.slice none 0 0) (.slice none 0 0) ((pre.length : Int) + 1) e
  refine ⟨hS.trans (Same5.keep qK.drew (by omega) (by omega) fun k hk => by rintro (h | h | h | h | h) <;> omega), pre.length + 1, e, Lib.hid ?_, he, q1, q2, q3, qk.drew, ?_⟩
  · rw [linesP_stop hpx (by rw [hs]; exact he), hs]
  · have := qK.size
    show w1.heap.size + 10 ≤ _
    exact Nat.le_trans (by omega) this
theorem mtParse_ok (S : Sg) (a f c : Option Addr) (ca cf cc : Nat) (t : ByteArray) (w : World) (hS : SigR w S a ca f cf c cc) (hT : Tab w) (hWT : Ws.Tab w) (h : checkS S = 0) (hl : t.size ≤ 100000) :
    Calls Tryz.prog 13 #[.agg #[.slice a S.A.length ca, .slice f S.F.length cf, .slice c S.C.length cc], .string t] w (ParsP (parseM S t.data.toList) w) := by
  obtain ⟨q, hq⟩ : ∃ q, parseM S t.data.toList = q := ⟨_, rfl⟩
  rw [hq]
  rw [parseM_lines h (by rw [data_len]; omega)] at hq
  have HQ := Lib.hid hq
  clear hq
  have hmix : Tryz.prog.follows .mixedOrders = true := by kernel_rfl
  have hmm := @run_makeMap Tryz.prog
  have HP0 := Lib.hid (ParB.new w S a f c ca cf cc)
  have HC := Lib.hid fun W (hk : Keep NoF w W) => Check_any S a f c ca cf cc W (hS.keep hk) (hT.keep0 hk)
  rw [h] at HC
  have hl2 : ¬ (100000 : Int) < (t.size : Int) := by omega
  refine (callsIn_wide (n := 3)).1 ?_
  refine callsIn_of_wp_marks Tryz.func13 rfl trivial ?_ rfl
  simp only [Tryz.ntmps13, List.size_toArray, List.length_cons, List.length_nil, Nat.reduceAdd, Nat.reduceSub, Array.replicate_succ, Array.replicate_zero, List.push_toArray, List.append_toArray, List.nil_append, List.cons_append]
  have q0 : ((((w.alloc (.cells #[.slice a S.A.length ca, .slice f S.F.length cf, .slice c S.C.length cc] 24)).alloc (.cells #[.int .i64 0, .slice none 0 0, .slice none 0 0] 28)).alloc (.cells #[.int .i64 0] 3)).alloc (.cells #[.int .i64 0] 3)).cell? ⟨w.heap.size, 0, none⟩ = some (.slice a S.A.length ca) := HP0.out.s.cell 0
  have q1 : ((((w.alloc (.cells #[.slice a S.A.length ca, .slice f S.F.length cf, .slice c S.C.length cc] 24)).alloc (.cells #[.int .i64 0, .slice none 0 0, .slice none 0 0] 28)).alloc (.cells #[.int .i64 0] 3)).alloc (.cells #[.int .i64 0] 3)).cell? ⟨w.heap.size, 1, none⟩ = some (.slice f S.F.length cf) := HP0.out.s.cell 1
  have q2 : ((((w.alloc (.cells #[.slice a S.A.length ca, .slice f S.F.length cf, .slice c S.C.length cc] 24)).alloc (.cells #[.int .i64 0, .slice none 0 0, .slice none 0 0] 28)).alloc (.cells #[.int .i64 0] 3)).alloc (.cells #[.int .i64 0] 3)).cell? ⟨w.heap.size, 2, none⟩ = some (.slice c S.C.length cc) := HP0.out.s.cell 2
  gi_wp2_with (first
    | (refine ⟨trivial, ?_⟩; gi_at_call 21; refine (callsIn_wide.2 (HC.out _ HP0.out.k)).mono ?_; rintro e w1 ⟨rfl, k1⟩
       have HP1 := Lib.hid (HP0.out.keep k1 fun _ _ h => h)
       have s0 : w1.cell? ⟨w.heap.size, 0, none⟩ = some (.slice a S.A.length ca) := HP1.out.s.cell 0
       have s1 : w1.cell? ⟨w.heap.size, 1, none⟩ = some (.slice f S.F.length cf) := HP1.out.s.cell 1
       have s2 : w1.cell? ⟨w.heap.size, 2, none⟩ = some (.slice c S.C.length cc) := HP1.out.s.cell 2
       have hz1 := HP1.out.z)
    | (refine ⟨trivial, ?_⟩; gi_at_call 31; refine (callsIn_wide.2 (SplitSeq_any t ⟨#[10]⟩ _)).mono ?_; rintro e w' ⟨rfl, rfl⟩))
  have HS1 : Hid (SigR w1 S a ca f cf c cc) := Lib.hid (hS.keep HP1.out.k)
  have HT1 : Hid (Tab w1) := Lib.hid (hT.keep0 HP1.out.k)
  have HW1 : Hid (Ws.Tab w1) := Lib.hid (hWT.keep0 HP1.out.k)
  have HE : Hid (EnvM w1 S a f c ca cf cc (PrM w1.heap.size)) := Lib.hid ⟨fun k hk => .inl hk, HS1.out, HT1.out, HW1.out, h⟩
  have HLL : Hid (∀ x ∈ lnL t.data.toList, x.length ≤ 100000) := Lib.hid fun x hx => by
    have := lnL_mem _ _ hx
    rw [data_len] at this
    omega
  clear hS hT hWT q0 q1 q2 s0 s1 s2 HC k1 hmm h
  refine seq_at (n := 3) (B := (w1.heap.size + 1 + 1 + 1 + 1 + 1 + 1 + 1)) (t := t) ((w1.heap.size + 1 + 1 + 1 + 1 + 1 + 1 + 1 + 1 + 1 + 1)) (by simp) (by omega) hl rfl ?_ ?_ ?_ rfl (ParI w w1 S a f c ca cf cc) (ParX w w1 S t.data.toList) ?hI ?hIx ?h0 ?a1 ?assign ?body ?done ?stop
  case assign =>
    intro l x W K hK
    gi_wp2
    exact hK
  case refine_1 => exact (ParI.start t HP1.out).2.1
  case refine_2 => exact (ParI.start t HP1.out).2.2.1
  case refine_3 => exact (ParI.start t HP1.out).2.2.2
  case hI =>
    rintro pre W W' ⟨r, hl1, hx, hb5, hb6, hp, hk, hz⟩ hE
    have hsub : ∀ k, Eb5 (w1.heap.size + 1 + 1 + 1 + 1 + 1 + 1 + 1) (w1.heap.size + 1 + 1 + 1 + 1 + 1 + 1 + 1 + 1 + 1 + 1) k → w1.heap.size + 7 ≤ k ∧ k ≤ w1.heap.size + 11 := fun k hk => by
      rcases hk with rfl | rfl | rfl | rfl | rfl <;> omega
    have hzz := HP1.out.z
    exact ⟨r, hl1, hx.keepP hE fun k hk => .inr (by have := hsub k hk; omega), hb5.keep hE (fun hk => by have := hsub _ hk; omega), hb6.keep hE (fun hk => by have := hsub _ hk; omega), hp.keep hE (fun k h1 hk => by have := hsub k hk; omega),
      hk.trans hE fun i hi h => by have := hsub i h; omega, Nat.le_trans hz hE.size⟩
  case hIx =>
    rintro pre W W' ⟨n, e, hl1, he, hb1, hb2, hb3, hk, hz⟩ hE
    have hsub : ∀ k, Eb5 (w1.heap.size + 1 + 1 + 1 + 1 + 1 + 1 + 1) (w1.heap.size + 1 + 1 + 1 + 1 + 1 + 1 + 1 + 1 + 1 + 1) k → w1.heap.size + 7 ≤ k ∧ k ≤ w1.heap.size + 11 := fun k hk => by
      rcases hk with rfl | rfl | rfl | rfl | rfl <;> omega
    have hzz := HP1.out.z
    exact ⟨n, e, hl1, he, hb1.keep hE (fun hk => by have := hsub _ hk; omega), hb2.keep hE (fun hk => by have := hsub _ hk; omega), hb3.keep hE (fun hk => by have := hsub _ hk; omega), hk.trans hE fun i hi h => by have := hsub i h; omega, Nat.le_trans hz hE.size⟩
  case h0 => exact (ParI.start t HP1.out).1
  case stop =>
    rintro pre W ⟨n, e, hl1, he, hb1, hb2, hb3, hk, hz⟩ hD
    have hzz := HP1.out.z
    gi_wp2
    have hD2 : W.heap[(w1.heap.size + 1 + 1 + 1 + 1 + 1 + 1 + 1 + 1 + 1 + 1)]? = some (.deferred (some [])) := hD
    have hB1 : Bk W (w.heap.size + 1) 28 #[.int .i64 0, .slice none 0 0, .slice none 0 0] := hb1
    have hB2 : Bk W (w.heap.size + 1 + 1) 3 #[.int .i64 (n : Int)] := hb2
    have hB3 : Bk W (w.heap.size + 1 + 1 + 1) 3 #[.int .i64 e] := hb3
    have hK2 : Keep NoF w W := hk
    refine ⟨by simp, .inl ⟨_, _, rfl, run_takeDeferred hD2, ?_⟩⟩
    have c0 := (bk_putE hB1 (.deferred none) (D := (w1.heap.size + 1 + 1 + 1 + 1 + 1 + 1 + 1 + 1 + 1 + 1)) (by omega)).cell 0
    have c1 := (bk_putE hB1 (.deferred none) (D := (w1.heap.size + 1 + 1 + 1 + 1 + 1 + 1 + 1 + 1 + 1 + 1)) (by omega)).cell 1
    have c2 := (bk_putE hB1 (.deferred none) (D := (w1.heap.size + 1 + 1 + 1 + 1 + 1 + 1 + 1 + 1 + 1 + 1)) (by omega)).cell 2
    have c3 := (bk_putE hB2 (.deferred none) (D := (w1.heap.size + 1 + 1 + 1 + 1 + 1 + 1 + 1 + 1 + 1 + 1)) (by omega)).cell 0
    have c4 := (bk_putE hB3 (.deferred none) (D := (w1.heap.size + 1 + 1 + 1 + 1 + 1 + 1 + 1 + 1 + 1 + 1)) (by omega)).cell 0
    refine ⟨.tuple #[.agg #[.int .i64 0, .slice none 0 0, .slice none 0 0], .int .i64 (n : Int), .int .i64 e], by simp [results, Tryz.results13, go_sem, c0, c1, c2, c3, c4], ?_⟩
    have hq : q = (emptyM, n, e) := by
      have h1 := HQ.out
      have h2 := hl1.out
      generalize linesP S (lnL t.data.toList) 0 .zero = z at *
      obtain ⟨r, n', e'⟩ := z
      simp only [Prod.mk.injEq] at h2
      obtain ⟨rfl, rfl⟩ := h2
      rw [← h1]
      exact if_pos he
    rw [hq]
    exact ⟨none, 0, none, 0, [], rfl, mdr_empty _, keep_endE hK2 (by omega) _⟩
  case done =>
    rintro W ⟨r, hl1, hx, hb5, hb6, hp, hk, hz⟩ hD
    have hzz := HP1.out.z
    have HDL : (w1.heap.size + 1 + 1 + 1 + 1 + 1 + 1 + 1 + 1 + 1 + 1) < W.heap.size := (Array.getElem?_eq_some_iff.1 hD).1
    have HD := Lib.hid hD
    have HPP := Lib.hid hp
    have HQ1 : Hid ((if r.W = 0 then (emptyM, 0, 4) else (⟨r.W, r.V, r.R⟩, 0, 0)) = q) := Lib.hid (by
      have h1 := HQ.out
      rw [hl1.out] at h1
      simpa using h1)
    clear hD hl1 hk hb6 HQ
    have p0 : W.cell? ⟨(w1.heap.size + 1 + 1 + 1 + 1 + 1), 0, none⟩ = some (.pointer (some ⟨(w1.heap.size + 1 + 1 + 1 + 1), 0, none⟩)) := hb5.cell 0
    have m0 : W.cell? ⟨w.heap.size + 1, 0, none⟩ = some (.int .i64 0) := HPP.out.m.cell 0
    have m1 : W.cell? ⟨w.heap.size + 1, 1, none⟩ = some (.slice none 0 0) := HPP.out.m.cell 1
    have m2 : W.cell? ⟨w.heap.size + 1, 2, none⟩ = some (.slice none 0 0) := HPP.out.m.cell 2
    have l0 : W.cell? ⟨w.heap.size + 1 + 1, 0, none⟩ = some (.int .i64 0) := HPP.out.l.cell 0
    have e0 : W.cell? ⟨w.heap.size + 1 + 1 + 1, 0, none⟩ = some (.int .i64 0) := HPP.out.e.cell 0
    have n0 : W.frozen? ⟨w.heap.size + 1, 0, none⟩ = false := HPP.out.m.frozen 0
    have n1 : W.frozen? ⟨w.heap.size + 1, 1, none⟩ = false := HPP.out.m.frozen 1
    have n2 : W.frozen? ⟨w.heap.size + 1, 2, none⟩ = false := HPP.out.m.frozen 2
    have n3 : W.frozen? ⟨w.heap.size + 1 + 1, 0, none⟩ = false := HPP.out.l.frozen 0
    have n4 : W.frozen? ⟨w.heap.size + 1 + 1 + 1, 0, none⟩ = false := HPP.out.e.frozen 0
    rcases hx with ⟨vb, rb, rs, hx⟩ | ⟨rfl, hx⟩
    · obtain rfl := (if_neg hx.w0).symm.trans HQ1.out
      have hW0 := hx.w0
      have z0 : ((r.W : Int) == 0) = false := by rw [beq_eq_false_iff_ne]; omega
      have HX := Lib.hid hx
      have x3 : W.cell? ⟨(w1.heap.size + 1 + 1 + 1 + 1), 3, none⟩ = some (.int .i64 (r.W : Int)) := hx.B.cell 3
      have x4 : W.cell? ⟨(w1.heap.size + 1 + 1 + 1 + 1), 4, none⟩ = some (.slice (some ⟨vb, 0, none⟩) S.F.length S.F.length) := hx.B.cell 4
      have x5 : W.cell? ⟨(w1.heap.size + 1 + 1 + 1 + 1), 5, none⟩ = some (.slice (some ⟨rb, 0, none⟩) S.A.length S.A.length) := hx.B.cell 5
      have h4b : ∀ k, k ≤ w.heap.size + 1 + 1 + 1 → (w1.heap.size + 1 + 1 + 1 + 1) ≠ k := fun k hk => by omega
      clear hx HQ1 hp hb5
      gi_wp2
      obtain ⟨qm, ql, qe, qk, qK⟩ := HPP.out.store (r.W : Int) (.slice (some ⟨vb, 0, none⟩) S.F.length S.F.length) (.slice (some ⟨rb, 0, none⟩) S.A.length S.A.length) 0 0
      generalize ((((W.setCell ⟨w.heap.size + 1, 0, none⟩ (.int .i64 (r.W : Int))).setCell ⟨w.heap.size + 1, 1, none⟩ (.slice (some ⟨vb, 0, none⟩) S.F.length S.F.length)).setCell ⟨w.heap.size + 1, 2, none⟩ (.slice (some ⟨rb, 0, none⟩) S.A.length S.A.length)).setCell ⟨w.heap.size + 1 + 1, 0, none⟩ (.int .i64 0)).setCell ⟨w.heap.size + 1 + 1 + 1, 0, none⟩ (.int .i64 0) = W5 at *
      have hD2 : W5.heap[(w1.heap.size + 1 + 1 + 1 + 1 + 1 + 1 + 1 + 1 + 1 + 1)]? = some (.deferred (some [])) := (qK.block (w1.heap.size + 1 + 1 + 1 + 1 + 1 + 1 + 1 + 1 + 1 + 1) HDL (by omega)).trans HD.out
      refine ⟨by simp, .inl ⟨_, _, rfl, run_takeDeferred hD2, ?_⟩⟩
      have c0 := (bk_putE qm (.deferred none) (D := (w1.heap.size + 1 + 1 + 1 + 1 + 1 + 1 + 1 + 1 + 1 + 1)) (by omega)).cell 0
      have c1 := (bk_putE qm (.deferred none) (D := (w1.heap.size + 1 + 1 + 1 + 1 + 1 + 1 + 1 + 1 + 1 + 1)) (by omega)).cell 1
      have c2 := (bk_putE qm (.deferred none) (D := (w1.heap.size + 1 + 1 + 1 + 1 + 1 + 1 + 1 + 1 + 1 + 1)) (by omega)).cell 2
      have c3 := (bk_putE ql (.deferred none) (D := (w1.heap.size + 1 + 1 + 1 + 1 + 1 + 1 + 1 + 1 + 1 + 1)) (by omega)).cell 0
      have c4 := (bk_putE qe (.deferred none) (D := (w1.heap.size + 1 + 1 + 1 + 1 + 1 + 1 + 1 + 1 + 1 + 1)) (by omega)).cell 0
      have hX2 := (HX.out.keepP qK (fun k hk => .inl (by omega))).keepP (W' := W5.putObj (w1.heap.size + 1 + 1 + 1 + 1 + 1 + 1 + 1 + 1 + 1 + 1) (.deferred none)) (F := fun k => k = (w1.heap.size + 1 + 1 + 1 + 1 + 1 + 1 + 1 + 1 + 1 + 1)) ⟨rfl, rfl, rfl, by simp, fun k _ hk => World.putObj_heap_other hk⟩ (fun k hk => .inr (by omega))
      have hM := hX2.mdr (by have := HE.out.ok; have := (checkS_ok this).lA; omega) (by have := HE.out.ok; have := (checkS_ok this).lF; omega)
      have hVl := HX.out.ok.v hW0
      have hRl := HX.out.ok.a hW0
      refine ⟨.tuple #[.agg #[.int .i64 (r.W : Int), .slice (some ⟨vb, 0, none⟩) S.F.length S.F.length, .slice (some ⟨rb, 0, none⟩) S.A.length S.A.length], .int .i64 0, .int .i64 0], by simp [results, Tryz.results13, go_sem, c0, c1, c2, c3, c4], ?_⟩
      refine ⟨some ⟨vb, 0, none⟩, S.F.length, some ⟨rb, 0, none⟩, S.A.length, _, ?_, hM, keep_endE qk (by omega) _⟩
      simp only [hVl, hRl]
      rfl
    · obtain rfl := (if_pos rfl).symm.trans HQ1.out
      have x3 : W.cell? ⟨(w1.heap.size + 1 + 1 + 1 + 1), 3, none⟩ = some (.int .i64 0) := hx.B.cell 3
      clear hx HQ1 hp hb5
      gi_wp2
      obtain ⟨qm, ql, qe, qk, qK⟩ := HPP.out.store 0 (.slice none 0 0) (.slice none 0 0) 0 4
      generalize ((((W.setCell ⟨w.heap.size + 1, 0, none⟩ (.int .i64 0)).setCell ⟨w.heap.size + 1, 1, none⟩ (.slice none 0 0)).setCell ⟨w.heap.size + 1, 2, none⟩ (.slice none 0 0)).setCell ⟨w.heap.size + 1 + 1, 0, none⟩ (.int .i64 0)).setCell ⟨w.heap.size + 1 + 1 + 1, 0, none⟩ (.int .i64 4) = W5 at *
      have hD2 : W5.heap[(w1.heap.size + 1 + 1 + 1 + 1 + 1 + 1 + 1 + 1 + 1 + 1)]? = some (.deferred (some [])) := (qK.block (w1.heap.size + 1 + 1 + 1 + 1 + 1 + 1 + 1 + 1 + 1 + 1) HDL (by omega)).trans HD.out
      refine ⟨by simp, .inl ⟨_, _, rfl, run_takeDeferred hD2, ?_⟩⟩
      have c0 := (bk_putE qm (.deferred none) (D := (w1.heap.size + 1 + 1 + 1 + 1 + 1 + 1 + 1 + 1 + 1 + 1)) (by omega)).cell 0
      have c1 := (bk_putE qm (.deferred none) (D := (w1.heap.size + 1 + 1 + 1 + 1 + 1 + 1 + 1 + 1 + 1 + 1)) (by omega)).cell 1
      have c2 := (bk_putE qm (.deferred none) (D := (w1.heap.size + 1 + 1 + 1 + 1 + 1 + 1 + 1 + 1 + 1 + 1)) (by omega)).cell 2
      have c3 := (bk_putE ql (.deferred none) (D := (w1.heap.size + 1 + 1 + 1 + 1 + 1 + 1 + 1 + 1 + 1 + 1)) (by omega)).cell 0
      have c4 := (bk_putE qe (.deferred none) (D := (w1.heap.size + 1 + 1 + 1 + 1 + 1 + 1 + 1 + 1 + 1 + 1)) (by omega)).cell 0
      refine ⟨.tuple #[.agg #[.int .i64 0, .slice none 0 0, .slice none 0 0], .int .i64 0, .int .i64 4], by simp [results, Tryz.results13, go_sem, c0, c1, c2, c3, c4], ?_⟩
      exact ⟨none, 0, none, 0, [], rfl, mdr_empty _, keep_endE qk (by omega) _⟩
  case body =>
    rintro l pre x W hpx ⟨r, hl1, hx, hb5, hb6, hp, hk, hz⟩ hBW hDW
    have hzz := HP1.out.z
    have hn : pre.length + 1 ≤ 100001 := by
      have h1 := hpx.length_le
      have h2 := lnL_len t.data.toList
      have h3 := List.count_le_length (a := (10 : UInt8)) (l := t.data.toList)
      rw [data_len] at h3
      rw [List.length_append, List.length_singleton] at h1
      omega
    have hxl := HLL.out x (hpx.subset (by simp))
    have HSN := Lib.hid (linesP_snoc (x := x) hl1.out)
    have hts : (txt x).size = x.length := by rw [← data_len, data_txt]
    have HTR := Lib.hid fun W => Tryz.strings_TrimLeft_one (txt x) 32 (by decide) W
    obtain ⟨u, hu⟩ : ∃ u : ByteArray, (⟨(Lib.trimLeftB (txt x).data.toList 32).toArray⟩ : ByteArray) = u := ⟨_, rfl⟩
    rw [hu] at HTR
    have hul : u.data.toList = x.dropWhile (· == 32) := by rw [← hu, data_txt]; rfl
    have hsk : skipL x = (u.data.toList.isEmpty || (u.data.toList.headD 0 == 35)) := by unfold skipL; rw [hul]
    have c6 : W.cell? ⟨(w1.heap.size + 1 + 1 + 1 + 1 + 1 + 1), 0, none⟩ = some (.int .i64 (pre.length : Int)) := hb6.cell 0
    have f6 := hb6.frozen 0
    have hnx : ∀ k, k ≤ (w1.heap.size + 1 + 1 + 1 + 1 + 1) ∨ (w1.heap.size + 1 + 1 + 1 + 1 + 1 + 1 + 1) ≤ k → k ≠ (w1.heap.size + 1 + 1 + 1 + 1 + 1 + 1) := fun k hk => by omega
    have hK6 : Keep (fun k => k = (w1.heap.size + 1 + 1 + 1 + 1 + 1 + 1)) W (W.setCell ⟨(w1.heap.size + 1 + 1 + 1 + 1 + 1 + 1), 0, none⟩ (.int .i64 ((pre.length : Int) + 1))) := (Keep.refl (fun k => k = (w1.heap.size + 1 + 1 + 1 + 1 + 1 + 1)) W).setCell (p := ⟨(w1.heap.size + 1 + 1 + 1 + 1 + 1 + 1), 0, none⟩) (.inl rfl) _
    have HS6 : Hid (Same5 (w1.heap.size + 1 + 1 + 1 + 1 + 1 + 1 + 1) (w1.heap.size + 1 + 1 + 1 + 1 + 1 + 1 + 1 + 1 + 1 + 1) W (W.setCell ⟨(w1.heap.size + 1 + 1 + 1 + 1 + 1 + 1), 0, none⟩ (.int .i64 ((pre.length : Int) + 1)))) := Lib.hid (Same5.keep hK6 (by omega) (by omega) (fun k hk => by rintro (h | h | h | h | h) <;> omega))
    have HX6 := Lib.hid (hx.keepP hK6 (fun k hk => .inr (by omega)))
    have HB56 := Lib.hid (hb5.keep hK6 (by omega))
    have HB66 : Hid (Bk (W.setCell ⟨(w1.heap.size + 1 + 1 + 1 + 1 + 1 + 1), 0, none⟩ (.int .i64 ((pre.length : Int) + 1))) (w1.heap.size + 1 + 1 + 1 + 1 + 1 + 1) 3 #[.int .i64 ((pre.length : Int) + 1)]) := Lib.hid (hb6.put 0 _)
    have HP6 := Lib.hid (hp.keep hK6 (fun k h1 hk => by omega))
    have HK6 : Hid (Keep NoF w1 (W.setCell ⟨(w1.heap.size + 1 + 1 + 1 + 1 + 1 + 1), 0, none⟩ (.int .i64 ((pre.length : Int) + 1)))) := Lib.hid (hk.trans hK6 fun i hi h => by omega)
    have hz6 : (W.setCell ⟨(w1.heap.size + 1 + 1 + 1 + 1 + 1 + 1), 0, none⟩ (.int .i64 ((pre.length : Int) + 1))).heap.size = W.heap.size := by simp [World.setCell]
    have HZ6 := Lib.hid hz6
    have HLN : Hid (((pre ++ [x]).length : Int) = (pre.length : Int) + 1) := Lib.hid (by rw [List.length_append]; rfl)
    have HLM : Hid ((pre ++ [x]).length = pre.length + 1) := Lib.hid (by rw [List.length_append]; rfl)
    clear hu hx hb5 hb6 hp hk hz6 hK6 hl1
    by_cases h0 : u.data.toList = []
    · have HSN2 := Lib.hid (HSN.out.trans (if_pos (by rw [hsk, h0]; rfl)))
      obtain rfl : u = ByteArray.empty := ba_ext (by rw [h0]; rfl)
      clear HSN hsk hul h0
      gi_wp2_with (refine ⟨trivial, ?_⟩; gi_at_call 18; refine (CallsIn.inRound l (callsIn_wide.2 (HTR.out _))).mono ?_; rintro e w' ⟨rfl, hw'⟩; obtain rfl := hw'.symm)
      exact ⟨HS6.out, r, Lib.hid (by rw [HSN2.out, HLM.out]), HX6.out, HB56.out, by rw [HLN.out]; exact HB66.out, HP6.out, HK6.out, by rw [HZ6.out]; omega⟩
    · have hu0 : 0 < u.size := by
        have := data_len u
        rcases hq : u.data.toList with _ | ⟨b, v⟩
        · exact absurd hq h0
        · rw [hq] at this; simp at this; omega
      have hne : u.toList.isEmpty = false := by rw [ByteArray.toList_eq]; simpa using h0
      have hh := Ws.headD_at u hu0
      have he0 : u.data.toList.isEmpty = false := by simpa using h0
      rw [he0, hh, Bool.false_or] at hsk
      have hxd : x.dropWhile (· == 32) ≠ [] := by rw [← hul]; exact h0
      clear hul he0 hh h0
      by_cases h35 : u[0] = 35
      · have hb : u[0].toNat = 35 := by rw [h35]; rfl
        have HSN2 := Lib.hid (HSN.out.trans (if_pos (by rw [hsk, h35]; rfl)))
        clear HSN hsk h35 hxd
        gi_wp2_with (refine ⟨trivial, ?_⟩; gi_at_call 18; refine (CallsIn.inRound l (callsIn_wide.2 (HTR.out _))).mono ?_; rintro e w' ⟨rfl, hw'⟩; obtain rfl := hw'.symm)
        exact ⟨HS6.out, r, Lib.hid (by rw [HSN2.out, HLM.out]), HX6.out, HB56.out, by rw [HLN.out]; exact HB66.out, HP6.out, HK6.out, by rw [HZ6.out]; omega⟩
      · have hb : ((u[0].toNat : Int) == 35) = false := by
          have h1 : u[0].toNat ≠ 35 := fun e => h35 (UInt8.toNat_inj.1 e)
          rw [beq_eq_false_iff_ne]
          omega
        have HSN2 := Lib.hid (HSN.out.trans (if_neg (by rw [hsk]; simpa using h35)))
        clear HSN hsk h35
        have hPr : ∀ k, PrM w1.heap.size k → k < (W.setCell ⟨(w1.heap.size + 1 + 1 + 1 + 1 + 1 + 1), 0, none⟩ (.int .i64 ((pre.length : Int) + 1))).heap.size := fun k hk => by
          unfold PrM at hk
          rw [HZ6.out]
          omega
        have HIT := Lib.hid (mtitems_any (txt x) (by omega) (W.setCell ⟨(w1.heap.size + 1 + 1 + 1 + 1 + 1 + 1), 0, none⟩ (.int .i64 ((pre.length : Int) + 1))))
        unfold ItPost at HIT
        rw [data_txt] at HIT
        cases hit : items x with
        | none =>
          have HI := Lib.hid (HIT.out.mono (R' := fun e w' => e = .returned (.tuple #[.slice none 0 0, .bool false]) ∧ Keep NoF (W.setCell ⟨(w1.heap.size + 1 + 1 + 1 + 1 + 1 + 1), 0, none⟩ (.int .i64 ((pre.length : Int) + 1))) w') (by
            rintro e w' ⟨hk, (⟨l, A, c, h, -⟩ | ⟨-, rfl⟩)⟩
            · rw [hit] at h; cases h
            · exact ⟨rfl, hk⟩))
          rw [hit] at HSN2
          have HSN3 : Hid (linesP S (pre ++ [x]) 0 St.zero = (r, pre.length + 1, 4)) := Lib.hid HSN2.out
          clear HIT hit HSN2 hxd hPr
          gi_wp2_with (first
            | (refine ⟨trivial, ?_⟩; gi_at_call 18; refine (CallsIn.inRound l (callsIn_wide.2 (HTR.out _))).mono ?_; rintro e w' ⟨rfl, hw'⟩; obtain rfl := hw'.symm)
            | (refine ⟨trivial, ?_⟩; gi_at_call 32; refine (CallsIn.inRound l (callsIn_wide.2 HI.out)).mono ?_; rintro e w2 ⟨rfl, k2⟩
               have b2 : w2.cell? ⟨(w1.heap.size + 1 + 1 + 1 + 1 + 1), 0, none⟩ = some (.pointer (some ⟨(w1.heap.size + 1 + 1 + 1 + 1), 0, none⟩)) := k2.cellv (HB56.out.cell 0) fun h => h)
            | (refine ⟨trivial, ?_⟩; gi_at_call 33; refine (CallsIn.inRound l (callsIn_wide.2 (mtread_no _))).mono ?_; rintro e w3 ⟨rfl, k3⟩))
          have K26 := Lib.hid (k2.trans k3 fun _ _ h => h)
          have HP3 := Lib.hid (HP6.out.keep K26.out fun _ _ h => h)
          have C64 : w3.cell? ⟨(w1.heap.size + 1 + 1 + 1 + 1 + 1 + 1), 0, none⟩ = some (.int .i64 ((pre.length : Int) + 1)) := K26.out.cellv (HB66.out.cell 0) fun h => h
          have HF1 : Hid (w.heap.size ≤ w.heap.size + 1 ∧ w.heap.size + 1 ≤ w.heap.size + 1 + 1 + 1) := Lib.hid (by omega)
          have HF2 : Hid (w.heap.size ≤ w.heap.size + 1 + 1 ∧ w.heap.size + 1 + 1 ≤ w.heap.size + 1 + 1 + 1) := Lib.hid (by omega)
          have HF3 : Hid (w.heap.size ≤ w.heap.size + 1 + 1 + 1 ∧ w.heap.size + 1 + 1 + 1 ≤ w.heap.size + 1 + 1 + 1) := Lib.hid (by omega)
          have KD : Keep (fun k => w.heap.size ≤ k ∧ k ≤ w.heap.size + 1 + 1 + 1) w3 w3.drew := (Keep.refl _ _).drew
          have HS16 : Hid (∀ W', Keep (fun k => w.heap.size ≤ k ∧ k ≤ w.heap.size + 1 + 1 + 1) w3 W' → W'.cell? ⟨(w1.heap.size + 1 + 1 + 1 + 1 + 1 + 1), 0, none⟩ = some (.int .i64 ((pre.length : Int) + 1))) := Lib.hid fun W' hk => hk.cellv C64 (by show ¬ (w.heap.size ≤ (w1.heap.size + 1 + 1 + 1 + 1 + 1 + 1) ∧ (w1.heap.size + 1 + 1 + 1 + 1 + 1 + 1) ≤ w.heap.size + 1 + 1 + 1); omega)
          have m0 : w3.cell? ⟨w.heap.size + 1, 0, none⟩ = some (.int .i64 0) := HP3.out.m.cell 0
          have m1 : w3.cell? ⟨w.heap.size + 1, 1, none⟩ = some (.slice none 0 0) := HP3.out.m.cell 1
          have m2 : w3.cell? ⟨w.heap.size + 1, 2, none⟩ = some (.slice none 0 0) := HP3.out.m.cell 2
          have l0 : w3.cell? ⟨w.heap.size + 1 + 1, 0, none⟩ = some (.int .i64 0) := HP3.out.l.cell 0
          have e0 : w3.cell? ⟨w.heap.size + 1 + 1 + 1, 0, none⟩ = some (.int .i64 0) := HP3.out.e.cell 0
          have n0 : w3.frozen? ⟨w.heap.size + 1, 0, none⟩ = false := HP3.out.m.frozen 0
          have n1 : w3.frozen? ⟨w.heap.size + 1, 1, none⟩ = false := HP3.out.m.frozen 1
          have n2 : w3.frozen? ⟨w.heap.size + 1, 2, none⟩ = false := HP3.out.m.frozen 2
          have n3 : w3.frozen? ⟨w.heap.size + 1 + 1, 0, none⟩ = false := HP3.out.l.frozen 0
          have n4 : w3.frozen? ⟨w.heap.size + 1 + 1 + 1, 0, none⟩ = false := HP3.out.e.frozen 0
          refine region_round (fun w' => w'.cell? ⟨(w1.heap.size + 1 + 1 + 1 + 1 + 1 + 1), 0, none⟩ = some (.int .i64 ((pre.length : Int) + 1))) hmix (by kernel_rfl) (fun a w h => h) (HS16.out _ (Keep.refl _ _).drew) (fun hHeld => ?_)
          refine wpAnyH_take (i := 0) (oi := ⟨some 57, _, _, _, _, _⟩) (v := ?_) rfl (by kernel_rfl) (by kernel_rfl) (by kernel_rfl) (fun _ _ _ h => h) (Or.inl ⟨by rfl, ?_⟩) (by assumption) ?_
          rotate_left 1
          · intro w hSw
            (try dsimp only at hSw)
            go_simp
            all_goals (try with_reducible rfl)
          (try simp only [Act.put, List.setIfInBounds_toArray, List.set_cons_zero, List.set_cons_succ])
          refine wpAnyH_take (i := 1) (oi := ⟨some 58, _, _, _, _, _⟩) (v := ?_) rfl (by kernel_rfl) (by kernel_rfl) (by kernel_rfl) (fun _ _ _ h => h) (Or.inl ⟨by rfl, ?_⟩) (by assumption) ?_
          rotate_left 1
          · intro w hSw
            (try dsimp only at hSw)
            go_simp
            all_goals (try with_reducible rfl)
          (try simp only [Act.put, List.setIfInBounds_toArray, List.set_cons_zero, List.set_cons_succ])
          refine wpAnyH_take (i := 2) (oi := ⟨some 59, _, _, _, _, _⟩) (v := ?_) rfl (by kernel_rfl) (by kernel_rfl) (by kernel_rfl) (fun _ _ _ h => h) (Or.inl ⟨by rfl, ?_⟩) (by assumption) ?_
          rotate_left 1
          · intro w hSw
            (try dsimp only at hSw)
            go_simp
            all_goals (try with_reducible rfl)
          (try simp only [Act.put, List.setIfInBounds_toArray, List.set_cons_zero, List.set_cons_succ])
          refine wpAnyH_ready (rs := [3]) (by kernel_rfl) (by simp) ?_
          refine AllReadyH.cons (o := ⟨none, _, _, _, _, _⟩) rfl (fun K hK => ?_) ?_
          · go_simp
            refine hK.out _ _ (HS16.out _ (((KD.setCell (p := ⟨w.heap.size + 1, 0, none⟩) (.inl HF1.out) _).setCell (p := ⟨w.heap.size + 1, 1, none⟩) (.inl HF1.out) _).setCell (p := ⟨w.heap.size + 1, 2, none⟩) (.inl HF1.out) _)) (fun hHeld => ?_)
            clear hK K
            (try simp only [Act.put, List.setIfInBounds_toArray, List.set_cons_zero, List.set_cons_succ])
            refine wpAnyH_ready (rs := [4]) (by kernel_rfl) (by simp) ?_
            refine AllReadyH.cons (o := ⟨none, _, _, _, _, _⟩) rfl (fun K hK => ?_) ?_
            · go_simp
              refine hK.out _ _ (HS16.out _ ((((KD.setCell (p := ⟨w.heap.size + 1, 0, none⟩) (.inl HF1.out) _).setCell (p := ⟨w.heap.size + 1, 1, none⟩) (.inl HF1.out) _).setCell (p := ⟨w.heap.size + 1, 2, none⟩) (.inl HF1.out) _).setCell (p := ⟨w.heap.size + 1 + 1, 0, none⟩) (.inl HF2.out) _)) (fun hHeld => ?_)
              clear hK K
              (try simp only [Act.put, List.setIfInBounds_toArray, List.set_cons_zero, List.set_cons_succ])
              refine wpAnyH_ready (rs := [5]) (by kernel_rfl) (by simp) ?_
              refine AllReadyH.cons (o := ⟨none, _, _, _, _, _⟩) rfl (fun K hK => ?_) ?_
              · go_simp
                refine hK.out _ _ (HS16.out _ (((((KD.setCell (p := ⟨w.heap.size + 1, 0, none⟩) (.inl HF1.out) _).setCell (p := ⟨w.heap.size + 1, 1, none⟩) (.inl HF1.out) _).setCell (p := ⟨w.heap.size + 1, 2, none⟩) (.inl HF1.out) _).setCell (p := ⟨w.heap.size + 1 + 1, 0, none⟩) (.inl HF2.out) _).setCell (p := ⟨w.heap.size + 1 + 1 + 1, 0, none⟩) (.inl HF3.out) _)) (fun hHeld => ?_)
                clear hK K
                (try simp only [Act.put, List.setIfInBounds_toArray, List.set_cons_zero, List.set_cons_succ])
                refine wpAnyH_done (by kernel_rfl) ?_ _
                gi_wp2
                exact par_stop hpx HSN3.out (by decide) HP3.out (HS6.out.trans (Same5.keep K26.out (by rw [HZ6.out]; omega) (by rw [HZ6.out]; omega) fun k hk => hk.elim)) hzz (Nat.lt_of_lt_of_le (by rw [HZ6.out]; omega) K26.out.size)
              exact AllReadyH.nil
            exact AllReadyH.nil
          exact AllReadyH.nil
        | some it =>
          obtain ⟨hil, hiv⟩ := items_all hit
          have hin := items_nil hit hxd
          have HI := Lib.hid (HIT.out.mono (R' := fun e w' => ∃ (iA : Option Addr) (ic : Nat), e = .returned (.tuple #[.slice iA it.length ic, .bool true]) ∧ Rd w' (.slice iA it.length ic) 1 it.length (strs (it.map txt)) ∧ Keep NoF (W.setCell ⟨(w1.heap.size + 1 + 1 + 1 + 1 + 1 + 1), 0, none⟩ (.int .i64 ((pre.length : Int) + 1))) w') (by
            rintro e w' ⟨hk, (⟨l, A, c, h, rfl, hr⟩ | ⟨h, -⟩)⟩
            · obtain rfl := Option.some.inj (hit.symm.trans h)
              exact ⟨A, c, rfl, hr, hk⟩
            · rw [hit] at h; cases h))
          rw [hit] at HSN2
          have HRE : Hid (∀ (w2 : World) (iA : Option Addr) (ic : Nat), Keep NoF (W.setCell ⟨(w1.heap.size + 1 + 1 + 1 + 1 + 1 + 1), 0, none⟩ (.int .i64 ((pre.length : Int) + 1))) w2 → Rd w2 (.slice iA it.length ic) 1 it.length (strs (it.map txt)) →
              Calls Tryz.prog 33 #[.pointer (some ⟨(w1.heap.size + 1 + 1 + 1 + 1), 0, none⟩), .slice iA it.length ic, .bool true] w2 (RPost S a f c ca cf cc (PrM w1.heap.size) (w1.heap.size + 1 + 1 + 1 + 1) w1.heap.size (w1.heap.size + 1) (w1.heap.size + 1 + 1) (w1.heap.size + 1 + 1 + 1) (readP S r (some it)) w2)) := Lib.hid fun w2 iA ic hk hr =>
            mtread_any HE.out (HK6.out.trans hk fun _ _ h => h) (fun k h => Nat.lt_of_lt_of_le (hPr k h) hk.size) (HX6.out.keep hk) it iA ic hr hin (fun y hy => (hiv y hy).1) (by omega) (fun y hy => Nat.le_trans (hiv y hy).2 hxl)
          have HPRW := Lib.hid hPr
          clear HIT hit hxd hPr hil hiv hin
          generalize readP S r (some it) = rp at *
          obtain ⟨r', e'⟩ := rp
          simp only at HSN2
          by_cases he : e' = 0
          · subst he
            have HSN3 := Lib.hid (HSN2.out.trans (if_neg (by decide)))
            clear HSN2
            gi_wp2_with (first
              | (refine ⟨trivial, ?_⟩; gi_at_call 18; refine (CallsIn.inRound l (callsIn_wide.2 (HTR.out _))).mono ?_; rintro e w' ⟨rfl, hw'⟩; obtain rfl := hw'.symm)
              | (refine ⟨trivial, ?_⟩; gi_at_call 32; refine (CallsIn.inRound l (callsIn_wide.2 HI.out)).mono ?_; rintro e w2 ⟨iA, ic, rfl, r2, k2⟩
                 have b2 : w2.cell? ⟨(w1.heap.size + 1 + 1 + 1 + 1 + 1), 0, none⟩ = some (.pointer (some ⟨(w1.heap.size + 1 + 1 + 1 + 1), 0, none⟩)) := k2.cellv (HB56.out.cell 0) fun h => h)
              | (refine ⟨trivial, ?_⟩; gi_at_call 33; refine (CallsIn.inRound l (callsIn_wide.2 (HRE.out w2 _ _ k2 r2))).mono ?_; rintro e w3 hrp; obtain ⟨rfl, k3, hx3⟩ := hrp))
            have K26 : Keep (fun k => ¬ PrM w1.heap.size k) (W.setCell ⟨(w1.heap.size + 1 + 1 + 1 + 1 + 1 + 1), 0, none⟩ (.int .i64 ((pre.length : Int) + 1))) w3 := (k2.mono (G := fun k => ¬ PrM w1.heap.size k) fun _ _ h => h.elim).trans k3 fun _ _ h => h
            refine ⟨HS6.out.trans (Same5.keep K26 (by rw [HZ6.out]; omega) (by rw [HZ6.out]; omega) fun k hk h => hk (.inr (by rcases h with rfl | rfl | rfl | rfl | rfl <;> omega))), r', Lib.hid (by rw [HSN3.out, HLM.out]), .inl (hx3 (by first | trivial | rfl)), HB56.out.keep K26 (fun h => h (.inr (by omega))), ?_, HP6.out.keep K26 (fun k hk h => h (.inl (by omega))), HK6.out.trans K26 (fun i hi h => absurd (show PrM w1.heap.size i from .inl hi) h), ?_⟩
            · rw [HLN.out]
              exact HB66.out.keep K26 (fun h => h (.inr (by omega)))
            · have := K26.size
              have := HZ6.out
              omega
          · have HSN3 := Lib.hid (HSN2.out.trans (if_pos he))
            have he' : (e' != 0) = true := by simpa using he
            clear HSN2
            gi_wp2_with (first
              | (refine ⟨trivial, ?_⟩; gi_at_call 18; refine (CallsIn.inRound l (callsIn_wide.2 (HTR.out _))).mono ?_; rintro e w' ⟨rfl, hw'⟩; obtain rfl := hw'.symm)
              | (refine ⟨trivial, ?_⟩; gi_at_call 32; refine (CallsIn.inRound l (callsIn_wide.2 HI.out)).mono ?_; rintro e w2 ⟨iA, ic, rfl, r2, k2⟩
                 have b2 : w2.cell? ⟨(w1.heap.size + 1 + 1 + 1 + 1 + 1), 0, none⟩ = some (.pointer (some ⟨(w1.heap.size + 1 + 1 + 1 + 1), 0, none⟩)) := k2.cellv (HB56.out.cell 0) fun h => h)
              | (refine ⟨trivial, ?_⟩; gi_at_call 33; refine (CallsIn.inRound l (callsIn_wide.2 (HRE.out w2 _ _ k2 r2))).mono ?_; rintro e w3 hrp; obtain ⟨rfl, k3, hx3⟩ := hrp))
            have K26 : Hid (Keep (fun k => ¬ PrM w1.heap.size k) (W.setCell ⟨(w1.heap.size + 1 + 1 + 1 + 1 + 1 + 1), 0, none⟩ (.int .i64 ((pre.length : Int) + 1))) w3) := Lib.hid ((k2.mono (G := fun k => ¬ PrM w1.heap.size k) fun _ _ h => h.elim).trans k3 fun _ _ h => h)
            have HP3 := Lib.hid (HP6.out.keep K26.out fun k hk h => h (.inl (by omega)))
            have C64 : w3.cell? ⟨(w1.heap.size + 1 + 1 + 1 + 1 + 1 + 1), 0, none⟩ = some (.int .i64 ((pre.length : Int) + 1)) := K26.out.cellv (HB66.out.cell 0) fun h => h (.inr (by show w1.heap.size + 5 ≤ (w1.heap.size + 1 + 1 + 1 + 1 + 1 + 1) ∧ (w1.heap.size + 1 + 1 + 1 + 1 + 1 + 1) ≤ w1.heap.size + 11; omega))
            clear hx3
            have HF1 : Hid (w.heap.size ≤ w.heap.size + 1 ∧ w.heap.size + 1 ≤ w.heap.size + 1 + 1 + 1) := Lib.hid (by omega)
            have HF2 : Hid (w.heap.size ≤ w.heap.size + 1 + 1 ∧ w.heap.size + 1 + 1 ≤ w.heap.size + 1 + 1 + 1) := Lib.hid (by omega)
            have HF3 : Hid (w.heap.size ≤ w.heap.size + 1 + 1 + 1 ∧ w.heap.size + 1 + 1 + 1 ≤ w.heap.size + 1 + 1 + 1) := Lib.hid (by omega)
            have KD : Keep (fun k => w.heap.size ≤ k ∧ k ≤ w.heap.size + 1 + 1 + 1) w3 w3.drew := (Keep.refl _ _).drew
            have HS16 : Hid (∀ W', Keep (fun k => w.heap.size ≤ k ∧ k ≤ w.heap.size + 1 + 1 + 1) w3 W' → W'.cell? ⟨(w1.heap.size + 1 + 1 + 1 + 1 + 1 + 1), 0, none⟩ = some (.int .i64 ((pre.length : Int) + 1))) := Lib.hid fun W' hk => hk.cellv C64 (by show ¬ (w.heap.size ≤ (w1.heap.size + 1 + 1 + 1 + 1 + 1 + 1) ∧ (w1.heap.size + 1 + 1 + 1 + 1 + 1 + 1) ≤ w.heap.size + 1 + 1 + 1); omega)
            have m0 : w3.cell? ⟨w.heap.size + 1, 0, none⟩ = some (.int .i64 0) := HP3.out.m.cell 0
            have m1 : w3.cell? ⟨w.heap.size + 1, 1, none⟩ = some (.slice none 0 0) := HP3.out.m.cell 1
            have m2 : w3.cell? ⟨w.heap.size + 1, 2, none⟩ = some (.slice none 0 0) := HP3.out.m.cell 2
            have l0 : w3.cell? ⟨w.heap.size + 1 + 1, 0, none⟩ = some (.int .i64 0) := HP3.out.l.cell 0
            have e0 : w3.cell? ⟨w.heap.size + 1 + 1 + 1, 0, none⟩ = some (.int .i64 0) := HP3.out.e.cell 0
            have n0 : w3.frozen? ⟨w.heap.size + 1, 0, none⟩ = false := HP3.out.m.frozen 0
            have n1 : w3.frozen? ⟨w.heap.size + 1, 1, none⟩ = false := HP3.out.m.frozen 1
            have n2 : w3.frozen? ⟨w.heap.size + 1, 2, none⟩ = false := HP3.out.m.frozen 2
            have n3 : w3.frozen? ⟨w.heap.size + 1 + 1, 0, none⟩ = false := HP3.out.l.frozen 0
            have n4 : w3.frozen? ⟨w.heap.size + 1 + 1 + 1, 0, none⟩ = false := HP3.out.e.frozen 0
            refine region_round (fun w' => w'.cell? ⟨(w1.heap.size + 1 + 1 + 1 + 1 + 1 + 1), 0, none⟩ = some (.int .i64 ((pre.length : Int) + 1))) hmix (by kernel_rfl) (fun a w h => h) (HS16.out _ (Keep.refl _ _).drew) (fun hHeld => ?_)
            refine wpAnyH_take (i := 0) (oi := ⟨some 57, _, _, _, _, _⟩) (v := ?_) rfl (by kernel_rfl) (by kernel_rfl) (by kernel_rfl) (fun _ _ _ h => h) (Or.inl ⟨by rfl, ?_⟩) (by assumption) ?_
            rotate_left 1
            · intro w hSw
              (try dsimp only at hSw)
              go_simp
              all_goals (try with_reducible rfl)
            (try simp only [Act.put, List.setIfInBounds_toArray, List.set_cons_zero, List.set_cons_succ])
            refine wpAnyH_take (i := 1) (oi := ⟨some 58, _, _, _, _, _⟩) (v := ?_) rfl (by kernel_rfl) (by kernel_rfl) (by kernel_rfl) (fun _ _ _ h => h) (Or.inl ⟨by rfl, ?_⟩) (by assumption) ?_
            rotate_left 1
            · intro w hSw
              (try dsimp only at hSw)
              go_simp
              all_goals (try with_reducible rfl)
            (try simp only [Act.put, List.setIfInBounds_toArray, List.set_cons_zero, List.set_cons_succ])
            refine wpAnyH_take (i := 2) (oi := ⟨some 59, _, _, _, _, _⟩) (v := ?_) rfl (by kernel_rfl) (by kernel_rfl) (by kernel_rfl) (fun _ _ _ h => h) (Or.inl ⟨by rfl, ?_⟩) (by assumption) ?_
            rotate_left 1
            · intro w hSw
              (try dsimp only at hSw)
              go_simp
              all_goals (try with_reducible rfl)
            (try simp only [Act.put, List.setIfInBounds_toArray, List.set_cons_zero, List.set_cons_succ])
            refine wpAnyH_ready (rs := [3]) (by kernel_rfl) (by simp) ?_
            refine AllReadyH.cons (o := ⟨none, _, _, _, _, _⟩) rfl (fun K hK => ?_) ?_
            · go_simp
              refine hK.out _ _ (HS16.out _ (((KD.setCell (p := ⟨w.heap.size + 1, 0, none⟩) (.inl HF1.out) _).setCell (p := ⟨w.heap.size + 1, 1, none⟩) (.inl HF1.out) _).setCell (p := ⟨w.heap.size + 1, 2, none⟩) (.inl HF1.out) _)) (fun hHeld => ?_)
              clear hK K
              (try simp only [Act.put, List.setIfInBounds_toArray, List.set_cons_zero, List.set_cons_succ])
              refine wpAnyH_ready (rs := [4]) (by kernel_rfl) (by simp) ?_
              refine AllReadyH.cons (o := ⟨none, _, _, _, _, _⟩) rfl (fun K hK => ?_) ?_
              · go_simp
                refine hK.out _ _ (HS16.out _ ((((KD.setCell (p := ⟨w.heap.size + 1, 0, none⟩) (.inl HF1.out) _).setCell (p := ⟨w.heap.size + 1, 1, none⟩) (.inl HF1.out) _).setCell (p := ⟨w.heap.size + 1, 2, none⟩) (.inl HF1.out) _).setCell (p := ⟨w.heap.size + 1 + 1, 0, none⟩) (.inl HF2.out) _)) (fun hHeld => ?_)
                clear hK K
                (try simp only [Act.put, List.setIfInBounds_toArray, List.set_cons_zero, List.set_cons_succ])
                refine wpAnyH_ready (rs := [5]) (by kernel_rfl) (by simp) ?_
                refine AllReadyH.cons (o := ⟨none, _, _, _, _, _⟩) rfl (fun K hK => ?_) ?_
                · go_simp
                  refine hK.out _ _ (HS16.out _ (((((KD.setCell (p := ⟨w.heap.size + 1, 0, none⟩) (.inl HF1.out) _).setCell (p := ⟨w.heap.size + 1, 1, none⟩) (.inl HF1.out) _).setCell (p := ⟨w.heap.size + 1, 2, none⟩) (.inl HF1.out) _).setCell (p := ⟨w.heap.size + 1 + 1, 0, none⟩) (.inl HF2.out) _).setCell (p := ⟨w.heap.size + 1 + 1 + 1, 0, none⟩) (.inl HF3.out) _)) (fun hHeld => ?_)
                  clear hK K
                  (try simp only [Act.put, List.setIfInBounds_toArray, List.set_cons_zero, List.set_cons_succ])
                  refine wpAnyH_done (by kernel_rfl) ?_ _
                  gi_wp2
                  exact par_stop hpx HSN3.out he HP3.out (HS6.out.trans (Same5.keep K26.out (by rw [HZ6.out]; omega) (by rw [HZ6.out]; omega) fun k hk h => hk (.inr (by rcases h with rfl | rfl | rfl | rfl | rfl <;> omega)))) hzz (Nat.lt_of_lt_of_le (by rw [HZ6.out]; omega) K26.out.size)
                exact AllReadyH.nil
              exact AllReadyH.nil
            exact AllReadyH.nil
end
end Go.Proofs.YtmnhgeggojgflaaGreatDoor
