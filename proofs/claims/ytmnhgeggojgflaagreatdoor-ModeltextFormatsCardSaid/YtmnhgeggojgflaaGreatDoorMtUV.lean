/- strings.Builder: the library's contracts at this program. The text of a model: the line that Format writes. The text of a model: what the program's Format does. Conditions: the variables lie as they are read. No condition. -/
import Derived.Shelf.Strings.Builder1
import Derived.Shelf.Strings.Builder2
import Derived.Test.YtmnhgeggojgflaaGreatDoorMtSh
import Derived.Test.YtmnhgeggojgflaaGreatDoorMtBC
import Derived.Test.YtmnhgeggojgflaaGreatDoorEvF
import Derived.Test.YtmnhgeggojgflaaGreatDoorSgRG
import Derived.Test.YtmnhgeggojgflaaGreatDoorWtG
set_option linter.unusedVariables false
set_option linter.unusedSimpArgs false
namespace Go.Proofs
open Go.Shelf
theorem Tryz.lays166 : Go.Proofs.Lays.n166 Tryz.prog Tryz.lays156_ren := {
  mixed := Tryz.lays156.mixed
  f166 := Tryz.lays156.f166
  f240 := Tryz.lays156.f240
  f276 := Tryz.lays156.f276
  t0 := Tryz.lays156.t0
  a0 := Tryz.lays156.a0
  z0 := Tryz.lays156.z0
  v0 := Tryz.lays156.v0
  t3 := Tryz.lays156.t3
  a3 := Tryz.lays156.a3
  z3 := Tryz.lays156.z3
  v3 := Tryz.lays156.v3
  t4 := Tryz.lays156.t4
  a4 := Tryz.lays156.a4
  z4 := Tryz.lays156.z4
  v4 := Tryz.lays156.v4
  t9 := Tryz.lays156.t9
  a9 := Tryz.lays156.a9
  z9 := Tryz.lays156.z9
  v9 := Tryz.lays156.v9
  t20 := Tryz.lays156.t20
  a20 := Tryz.lays156.a20
  z20 := Tryz.lays156.z20
  v20 := Tryz.lays156.v20
  t37 := Tryz.lays156.t37
  a37 := Tryz.lays156.a37
  z37 := Tryz.lays156.z37
  v37 := Tryz.lays156.v37
  t70 := Tryz.lays156.t70
  a70 := Tryz.lays156.a70
  z70 := Tryz.lays156.z70
  v70 := Tryz.lays156.v70
  t72 := Tryz.lays156.t72
  a72 := Tryz.lays156.a72
  z72 := Tryz.lays156.z72
  v72 := Tryz.lays156.v72
  t75 := Tryz.lays156.t75
  a75 := Tryz.lays156.a75
  z75 := Tryz.lays156.z75
  v75 := Tryz.lays156.v75
  t164 := Tryz.lays156.t164
  a164 := Tryz.lays156.a164
  z164 := Tryz.lays156.z164
  v164 := Tryz.lays156.v164 }
theorem Tryz.Builder_Extra_166 : Builder.Extra Tryz.prog Tryz.lays156_ren where
  sizeBuilder := by kernel_rfl
  liesBuilder := by kernel_rfl
  t5 := Tryz.underlying5
  a5 := Tryz.isAgg5
  z5 := Tryz.sizeOf5
  v5 := Tryz.zeroValue5
  infoByte := by kernel_rfl
  cellsByte := by kernel_rfl
  sizeByte := by kernel_rfl
  neB5 := by decide
theorem Tryz.lays169 : Go.Proofs.Lays.n169 Tryz.prog Tryz.lays156_ren := {
  mixed := Tryz.lays156.mixed
  f169 := Tryz.lays156.f169
  t0 := Tryz.lays156.t0
  a0 := Tryz.lays156.a0
  z0 := Tryz.lays156.z0
  v0 := Tryz.lays156.v0
  t3 := Tryz.lays156.t3
  a3 := Tryz.lays156.a3
  z3 := Tryz.lays156.z3
  v3 := Tryz.lays156.v3
  t9 := Tryz.lays156.t9
  a9 := Tryz.lays156.a9
  z9 := Tryz.lays156.z9
  v9 := Tryz.lays156.v9
  t37 := Tryz.lays156.t37
  a37 := Tryz.lays156.a37
  z37 := Tryz.lays156.z37
  v37 := Tryz.lays156.v37
  t70 := Tryz.lays156.t70
  a70 := Tryz.lays156.a70
  z70 := Tryz.lays156.z70
  v70 := Tryz.lays156.v70
  t72 := Tryz.lays156.t72
  a72 := Tryz.lays156.a72
  z72 := Tryz.lays156.z72
  v72 := Tryz.lays156.v72
  t127 := Tryz.lays156.t127
  a127 := Tryz.lays156.a127
  z127 := Tryz.lays156.z127
  v127 := Tryz.lays156.v127 }
theorem Tryz.Builder_Extra_169 : Builder.Extra Tryz.prog Tryz.lays156_ren where
  sizeBuilder := by kernel_rfl
  liesBuilder := by kernel_rfl
  t5 := Tryz.underlying5
  a5 := Tryz.isAgg5
  z5 := Tryz.sizeOf5
  v5 := Tryz.zeroValue5
  infoByte := by kernel_rfl
  cellsByte := by kernel_rfl
  sizeByte := by kernel_rfl
  neB5 := by decide
open Go.RowKit in
theorem Tryz.Builder_WriteString (B b : Nat) (bs : List Value) (s : ByteArray) (w : World) (h : Lib.IsBuilder 52 5 B b bs w) (hlen : bs.length + s.size ≤ 140737488355328) (hBw : B ≤ w.heap.size) :
    Calls Tryz.prog 23 #[.pointer (some ⟨b, 0, none⟩), .string s] w fun e w' => e = .returned (.tuple #[.int .i64 s.size, .nilIface]) ∧ (Lib.BuilderAt 52 5 B b (.pointer (some ⟨b, 0, none⟩)) (bs ++ Lib.strCells s) w' ∧ Below B w w') := Any.Builder_WriteString Tryz.lays166 Tryz.Builder_Extra_166 B b bs s w h hlen hBw

open Go.RowKit in
theorem Tryz.Builder_String (B b : Nat) (l : List UInt8) (w : World) (h : Lib.IsBuilder 52 5 B b (Lib.byteCells l) w) (h0 : l ≠ []) :
    Calls Tryz.prog 27 #[.pointer (some ⟨b, 0, none⟩)] w fun e w' => e = .returned (.string ⟨l.toArray⟩) ∧ Below B w w' := Any.Builder_String Tryz.lays169 Tryz.Builder_Extra_169 B b l w h h0

open Go.RowKit in
theorem Tryz.Builder_String_any (B b : Nat) (l : List UInt8) (w : World) (h : Lib.IsBuilder 52 5 B b (Lib.byteCells l) w) (hBw : B ≤ w.heap.size) :
    Calls Tryz.prog 27 #[.pointer (some ⟨b, 0, none⟩)] w fun e w' => e = .returned (.string ⟨l.toArray⟩) ∧ Below B w w' := Any.Builder_String_any Tryz.lays169 Tryz.Builder_Extra_169 B b l w h hBw

end Go.Proofs
namespace Go.Proofs.YtmnhgeggojgflaaGreatDoor
open Go.RowKit Go.Shelf
open Mt
open Ev (Md)
attribute [local go_sem] Oper.semAt_some
theorem jn_join : ∀ l : List (List UInt8), jn l = Lib.join l [32]
  | [] => rfl
  | [w] => (Lib.join_one w _).symm
  | w :: v :: l => by
    rw [Lib.join_cons, jn, jn_join (v :: l), Lib.join_cons]
    simp [Lib.joinTail]
/-- A builder that holds bytes. -/
def IsB (b : Nat) (bs : List UInt8) (w : World) : Prop := Lib.IsBuilder 52 5 b b (Lib.byteCells bs) w
theorem bld_keep {t e : TypeId} {B b : Nat} {p : Value} {bs : List Value} {w w' : World} (h : Lib.BuilderAt t e B b p bs w) (k : Keep NoF w w') : Lib.BuilderAt t e B b p bs w' := by
  have hlt := h.lt
  obtain ⟨h1, v, hb, ho, hn⟩ := h
  exact ⟨h1, v, (k.block b hlt fun h => h).trans hb, own_keep ho fun j hj => k.block j (ho.lt j hj).2 fun h => h, hn⟩
theorem IsB.keep {b : Nat} {bs : List UInt8} {w w' : World} (h : IsB b bs w) (k : Keep NoF w w') : IsB b bs w' := by
  rcases h with h | h
  · exact .inl (bld_keep h k)
  · exact .inr (bld_keep h k)
theorem IsB.lt {b : Nat} {bs : List UInt8} {w : World} (h : IsB b bs w) : b < w.heap.size := by
  rcases h with h | h <;> exact h.lt
theorem IsB.fresh (w : World) : IsB w.heap.size [] (w.alloc (.cells #[.pointer none, .slice none 0 0] 52)) := Lib.fresh_isBuilder _ _ w
theorem below_of_keep {w w' : World} (k : Keep NoF w w') {B : Nat} (hB : B ≤ w.heap.size) : Below B w w' := ⟨k.os, k.tape, k.output, k.size, fun i hi => k.block i (by omega) fun h => h⟩
theorem keep_of_below {w w' : World} (h : Below w.heap.size w w') : Keep NoF w w' := ⟨h.os, h.tape, h.output, h.size, fun k hk _ => h.block k hk⟩
theorem join_txt (ws : List (List UInt8)) : (⟨(Lib.join ((ws.map txt).map (·.data.toList)) [32]).toArray⟩ : ByteArray) = txt (jn ws) := by
  rw [jn_join, List.map_map]
  have : (ws.map ((fun x : ByteArray => x.data.toList) ∘ txt)) = ws := by
    conv => rhs; rw [← List.map_id ws]
    rfl
  rw [this]
  rfl
section
set_option maxRecDepth 100000
set_option maxHeartbeats 1000000
theorem mtjoin_any (bk : Nat) (ws : List (List UInt8)) (w : World) (hcells : ∀ (j : Nat) x, ws[j]? = some x → w.cell? ⟨bk, j, none⟩ = some (.string (txt x))) (hbk : bk < w.heap.size) (hn : ws.length ≤ 1000) (hlen : (jn ws).length ≤ 1000000) :
    Calls Tryz.prog 24 #[.slice (some ⟨bk, 0, none⟩) ws.length ws.length, .string ⟨#[32]⟩] w fun e w' => e = .returned (.string (txt (jn ws))) ∧ Keep NoF w w' := by
  have h := Tryz.strings_Join bk 0 ws.length (ws.map txt) ⟨#[32]⟩ w (fun j x hx => by
    rw [List.getElem?_map] at hx
    obtain ⟨y, hy, rfl⟩ := Option.map_eq_some_iff.1 hx
    rw [Nat.zero_add]
    exact hcells j y hy) hbk (by simp; omega) (by simp) (by
      have := congrArg (fun b : ByteArray => b.data.toList.length) (join_txt ws)
      simp only [txt] at this
      exact Nat.le_trans (Nat.le_of_eq this) (by omega))
  rw [List.length_map] at h
  refine h.mono ?_
  rintro e w' ⟨rfl, hb⟩
  refine ⟨?_, keep_of_below hb⟩
  rw [← join_txt]
theorem mtline_any (b : Nat) (bs : List UInt8) (bk : Nat) (ws : List (List UInt8)) (w : World) (hcells : ∀ (j : Nat) x, ws[j]? = some x → w.cell? ⟨bk, j, none⟩ = some (.string (txt x))) (hbk : bk < w.heap.size) (hB : IsB b bs w) (hn : ws.length ≤ 1000) (hlen : bs.length + (jn ws ++ [10]).length ≤ 1000000) :
    Calls Tryz.prog 22 #[.slice (some ⟨bk, 0, none⟩) ws.length ws.length, .pointer (some ⟨b, 0, none⟩)] w fun e w' => e = .returned (.tuple #[]) ∧ IsB b (bs ++ (jn ws ++ [10])) w' ∧ Below b w w' := by
  rw [List.length_append] at hlen
  have HJ := Lib.hid (mtjoin_any bk ws w hcells hbk hn (by omega))
  have HW := Lib.hid (fun (w1 : World) (h : IsB b bs w1) => Tryz.Builder_WriteString b b (Lib.byteCells bs) (txt (jn ws ++ [10])) w1 h (by rw [Lib.byteCells_length]; show bs.length + (txt (jn ws ++ [10])).data.size ≤ _; simp [txt] at hlen ⊢; omega) (Nat.le_of_lt h.lt))
  have HT : txt (jn ws) ++ ⟨#[10]⟩ = txt (jn ws ++ [10]) := by
    apply ByteArray.ext
    simp [txt, ByteArray.data_append]
  have HS : Lib.strCells (txt (jn ws ++ [10])) = Lib.byteCells (jn ws ++ [10]) := rfl
  have HB := Lib.hid hB
  have HLT := Lib.hid hB.lt
  have HN : ¬ 9223372036854775807 < (txt (jn ws)).size + 1 := by
    show ¬ 9223372036854775807 < (jn ws).toArray.size + 1
    rw [List.size_toArray]
    omega
  clear hlen hn hcells hbk hB
  generalize ws.length = n at *
  generalize jn ws = t at *
  go_enter Tryz.func22, Tryz.ntmps22
  go_wp2_with (first
    | (go_at_call 24; (with_reducible refine HJ.out.mono ?_); rintro e w1 ⟨rfl, k1⟩)
    | (go_at_call 23; (with_reducible refine (HW.out _ (HB.out.keep k1)).mono ?_); rintro e w2 ⟨rfl, hb2, k2⟩))
  go_end0
  exact ⟨rfl, .inr (by rw [Lib.byteCells_append, ← HS]; exact hb2), (below_of_keep k1 (Nat.le_of_lt HLT.out)).trans k2⟩
/-- .. of a slice that has just been laid. -/
theorem mtline_new (b : Nat) (bs : List UInt8) (ws : List (List UInt8)) (n : Nat) (W : World) (T : TypeId) (cs : Array Value) (hcs : cs = (ws.map fun x => Value.string (txt x)).toArray) (hn : ws.length = n) (hB : IsB b bs W) (hn4 : n ≤ 1000) (hlen : bs.length + (jn ws ++ [10]).length ≤ 1000000) :
    Calls Tryz.prog 22 #[.slice (some ⟨W.heap.size, 0, none⟩) n n, .pointer (some ⟨b, 0, none⟩)] (W.alloc (.cells cs T)) fun e w' => e = .returned (.tuple #[]) ∧ IsB b (bs ++ (jn ws ++ [10])) w' ∧ Below b W w' := by
  subst hcs
  subst hn
  have hb := Bk.new W T (ws.map fun x => Value.string (txt x)).toArray
  refine (mtline_any b bs W.heap.size ws _ (fun j x hx => ?_) (by simp) (hB.keep ((Keep.refl _ _).alloc _)) hn4 hlen).mono ?_
  · rw [hb.cell j]
    simp [hx]
  · rintro e w' ⟨rfl, h1, h2⟩
    exact ⟨rfl, h1, ((below_of_keep ((Keep.refl NoF W).alloc _) (Nat.le_of_lt hB.lt))).trans h2⟩
end
end Go.Proofs.YtmnhgeggojgflaaGreatDoor
namespace Mt
open Go.Proofs.YtmnhgeggojgflaaGreatDoor (Sg checkS)
open Ev (Md)
/-- The text of lines. -/
def tx (l : List (List (List UInt8))) : List UInt8 := (l.map fun l => jn l ++ [10]).flatten
theorem tx_snoc (l : List (List (List UInt8))) (x : List (List UInt8)) : tx (l ++ [x]) = tx l ++ (jn x ++ [10]) := by simp [tx]
theorem tx_app (l m : List (List (List UInt8))) : tx (l ++ m) = tx l ++ tx m := by simp [tx]
/-- The lines ahead of a fact, and ahead of an agent at a world. -/
def preF (S : Sg) (M : Md) (i : Nat) : List (List (List UInt8)) := lW M :: (List.range i).map (lF S M)
def preA (S : Sg) (M : Md) (i j : Nat) : List (List (List UInt8)) := preF S M M.V.length ++ ((pairs i M.n).map (lA S M) ++ ((List.range j).map fun w => lA S M (i, w)))
theorem preF_succ (S : Sg) (M : Md) (i : Nat) : preF S M (i + 1) = preF S M i ++ [lF S M i] := by simp [preF, List.range_succ]
theorem preA_zero (S : Sg) (M : Md) : preA S M 0 0 = preF S M M.V.length := by simp [preA, pairs]
theorem preA_succ (S : Sg) (M : Md) (i j : Nat) : preA S M i (j + 1) = preA S M i j ++ [lA S M (i, j)] := by simp [preA, List.range_succ]
theorem preA_row (S : Sg) (M : Md) (i : Nat) : preA S M i M.n = preA S M (i + 1) 0 := by
  simp [preA, pairs, List.range_succ, Function.comp_def]
theorem preA_all (S : Sg) (M : Md) : tx (preA S M M.R.length 0) = textM S M := by
  simp [preA, preF, tx, textM, linesM]
theorem preF_le (S : Sg) (M : Md) {i : Nat} (h : i ≤ M.V.length) : (tx (preF S M i)).length ≤ (tx (preF S M M.V.length)).length := by
  obtain ⟨d, hd⟩ := Nat.exists_eq_add_of_le h
  have : preF S M M.V.length = preF S M i ++ ((List.range d).map fun k => lF S M (i + k)) := by
    rw [hd]; simp [preF, List.range_add, Function.comp_def]
  rw [this, tx_app, List.length_append]
  omega
theorem preA_le0 (S : Sg) (M : Md) {i : Nat} (h : i ≤ M.R.length) : (tx (preA S M i 0)).length ≤ (textM S M).length := by
  obtain ⟨d, hd⟩ := Nat.exists_eq_add_of_le h
  rw [← preA_all]
  have : preA S M M.R.length 0 = preA S M i 0 ++ ((List.range d).flatMap fun k => (List.range M.n).map fun w => lA S M (i + k, w)) := by
    rw [hd]; simp [preA, pairs, List.range_add, Function.comp_def, List.flatMap_append, List.map_flatMap, List.flatMap_map]
  rw [this, tx_app, List.length_append]
  omega
theorem preA_le (S : Sg) (M : Md) {i j : Nat} (hi : i < M.R.length) (hj : j ≤ M.n) : (tx (preA S M i j)).length ≤ (textM S M).length := by
  refine Nat.le_trans ?_ (preA_le0 S M (i := i + 1) hi)
  obtain ⟨d, hd⟩ := Nat.exists_eq_add_of_le hj
  rw [← preA_row]
  have : preA S M i M.n = preA S M i j ++ ((List.range d).map fun k => lA S M (i, j + k)) := by
    have e : List.range M.n = List.range j ++ (List.range d).map (j + ·) := by rw [hd, List.range_add]
    unfold preA
    conv => lhs; rw [e]
    simp [Function.comp_def]
  rw [this, tx_app, List.length_append]
  omega
theorem preF_le' (S : Sg) (M : Md) {i : Nat} (h : i ≤ M.V.length) : (tx (preF S M i)).length ≤ (textM S M).length :=
  Nat.le_trans (preF_le S M h) (by rw [← preA_zero]; exact preA_le0 S M (Nat.zero_le _))
end Mt
namespace Go.Proofs.YtmnhgeggojgflaaGreatDoor
open Go.RowKit Go.Shelf
open Mt
open Ev (Md Okm modelE)
attribute [local go_sem] Oper.semAt_some
section
set_option maxRecDepth 100000
set_option maxHeartbeats 2000000
variable {M : Md} {va ra : Option Addr} {cv cr : Nat} {rs : List (Option Addr × Nat)}
/-- Format's parameters in memory. -/
structure FB (w : World) (S : Sg) (a : Option Addr) (ca : Nat) (f : Option Addr) (cf : Nat) (c : Option Addr) (cc : Nat) (M : Md) (va : Option Addr) (cv : Nat) (ra : Option Addr) (cr : Nat) (W : World) : Prop where
  s : Bk W w.heap.size 24 #[.slice a S.A.length ca, .slice f S.F.length cf, .slice c S.C.length cc]
  m : Bk W (w.heap.size + 1) 28 #[.int .i64 M.W, .slice va M.V.length cv, .slice ra M.R.length cr]
  k : Keep NoF w W
theorem FB.new (w : World) (S : Sg) (a : Option Addr) (ca : Nat) (f : Option Addr) (cf : Nat) (c : Option Addr) (cc : Nat) (M : Md) (va : Option Addr) (cv : Nat) (ra : Option Addr) (cr : Nat) :
    FB w S a ca f cf c cc M va cv ra cr ((w.alloc (.cells #[.slice a S.A.length ca, .slice f S.F.length cf, .slice c S.C.length cc] 24)).alloc (.cells #[.int .i64 M.W, .slice va M.V.length cv, .slice ra M.R.length cr] 28)) := by
  refine ⟨(Bk.new w _ _).alloc _, ?_, ((Keep.refl _ _).alloc _).alloc _⟩
  have := Bk.new (w.alloc (.cells #[.slice a S.A.length ca, .slice f S.F.length cf, .slice c S.C.length cc] 24)) 28 #[.int .i64 M.W, .slice va M.V.length cv, .slice ra M.R.length cr]
  rwa [World.size_alloc] at this
theorem FB.keep {w : World} {S : Sg} {a f c : Option Addr} {ca cf cc : Nat} {W W' : World} (h : FB w S a ca f cf c cc M va cv ra cr W) (k : Keep NoF W W') : FB w S a ca f cf c cc M va cv ra cr W' :=
  ⟨h.s.keep k fun h => h, h.m.keep k fun h => h, h.k.trans k fun _ _ h => h⟩
theorem keep_step {w2 W W' : World} (k : Keep NoF w2 W) (h : Below w2.heap.size W W') : Keep NoF w2 W' :=
  ⟨h.os.trans k.os, h.tape.trans k.tape, h.output.trans k.output, Nat.le_trans k.size h.size, fun j hj hf => (h.block j hj).trans (k.block j hj hf)⟩
theorem v64 {M : Md} (h : Ev.U64 M) (i : Nat) : M.V.getD i 0 < 18446744073709551616 := by
  rw [List.getD_eq_getElem?_getD]
  rcases Nat.lt_or_ge i M.V.length with hi | hi
  · rw [List.getElem?_eq_getElem hi]; exact h.V _ (List.getElem_mem hi)
  · rw [List.getElem?_eq_none hi]; decide
theorem r64 {M : Md} (h : Ev.U64 M) (i j : Nat) : (M.R.getD i []).getD j 0 < 18446744073709551616 := by
  rw [List.getD_eq_getElem?_getD (l := M.R), List.getD_eq_getElem?_getD]
  rcases Nat.lt_or_ge i M.R.length with hi | hi
  · rw [List.getElem?_eq_getElem hi]
    simp only [Option.getD_some]
    rcases Nat.lt_or_ge j M.R[i].length with hj | hj
    · rw [List.getElem?_eq_getElem hj]; exact h.R _ (List.getElem_mem hi) _ (List.getElem_mem hj)
    · rw [List.getElem?_eq_none hj]; decide
  · rw [List.getElem?_eq_none hi]; simp
theorem row_n {M : Md} (h : Okm M) {i : Nat} (hi : i < M.R.length) : (M.R.getD i []).length = M.n := by
  rw [List.getD_eq_getElem?_getD, List.getElem?_eq_getElem hi]
  exact h.len _ (List.getElem_mem hi)
theorem lF_cells {S : Sg} {M : Md} {i : Nat} (h : i < S.F.length) : #[Value.string ⟨#[102, 97, 99, 116]⟩, .string S.F[i], .string (Ws.txt (Ws.fmtS (M.V.getD i 0)))] = ((lF S M i).map fun x => Value.string (txt x)).toArray := by
  have e : S.F.getD i default = S.F[i] := by rw [List.getD_eq_getElem?_getD, List.getElem?_eq_getElem h]; rfl
  unfold lF
  rw [e]
  simp only [List.map_cons, List.map_nil, nm, txt_data]
  rfl
theorem lA_cells {S : Sg} {M : Md} {i j : Nat} (h : i < S.A.length) : #[Value.string ⟨#[97, 103, 101, 110, 116]⟩, .string S.A[i], .string (txt (dec j)), .string (Ws.txt (Ws.fmtS ((M.R.getD i []).getD j 0)))] = ((lA S M (i, j)).map fun x => Value.string (txt x)).toArray := by
  have e : S.A.getD i default = S.A[i] := by rw [List.getD_eq_getElem?_getD, List.getElem?_eq_getElem h]; rfl
  unfold lA
  rw [e]
  simp only [List.map_cons, List.map_nil, nm, txt_data]
  rfl
theorem mtFormat_bad1 (S : Sg) (a f c : Option Addr) (ca cf cc : Nat) (w : World) (hS : SigR w S a ca f cf c cc) (hT : Tab w) (h : checkS S ≠ 0) :
    Calls Tryz.prog 11 #[.agg #[.slice a S.A.length ca, .slice f S.F.length cf, .slice c S.C.length cc], .agg #[.int .i64 M.W, .slice va M.V.length cv, .slice ra M.R.length cr]] w fun e w' => e = .returned (.tuple #[.string ⟨#[]⟩, .int .i64 (checkS S : Int)]) ∧ Keep NoF w w' := by
  have HP0 := Lib.hid (FB.new w S a ca f cf c cc M va cv ra cr)
  have HC := Lib.hid fun W (hk : Keep NoF w W) => Check_any S a f c ca cf cc W (hS.keep hk) (hT.keep0 hk)
  generalize checkS S = x at *
  have hx : ((x : Int) != 0) = true := by simp; omega
  clear h hS hT
  go_enter Tryz.func11, Tryz.ntmps11
  go_upto_region 1 with (fail)
  generalize (w.alloc (.cells #[.slice a S.A.length ca, .slice f S.F.length cf, .slice c S.C.length cc] 24)).alloc (.cells #[.int .i64 M.W, .slice va M.V.length cv, .slice ra M.R.length cr] 28) = W0 at *
  have k0 := HP0.out.k
  have c0 : W0.cell? ⟨w.heap.size, 0, none⟩ = some (.slice a S.A.length ca) := HP0.out.s.cell 0
  have c1 : W0.cell? ⟨w.heap.size, 1, none⟩ = some (.slice f S.F.length cf) := HP0.out.s.cell 1
  have c2 : W0.cell? ⟨w.heap.size, 2, none⟩ = some (.slice c S.C.length cc) := HP0.out.s.cell 2
  go_wp2_with (go_at_call 21; (with_reducible refine (HC.out _ k0).mono ?_); rintro e w1 ⟨rfl, k1⟩)
  go_ret2
  exact ⟨rfl, k0.trans k1 fun _ _ h => h⟩
theorem mtFormat_bad2 (S : Sg) (a f c : Option Addr) (ca cf cc : Nat) (w : World) (hS : SigR w S a ca f cf c cc) (hM : MdR w M va cv ra cr rs) (hT : Tab w) (h : checkS S = 0) (h2 : modelE M ≠ 0) :
    Calls Tryz.prog 11 #[.agg #[.slice a S.A.length ca, .slice f S.F.length cf, .slice c S.C.length cc], .agg #[.int .i64 M.W, .slice va M.V.length cv, .slice ra M.R.length cr]] w fun e w' => e = .returned (.tuple #[.string ⟨#[]⟩, .int .i64 (modelE M)]) ∧ Keep NoF w w' := by
  have HP0 := Lib.hid (FB.new w S a ca f cf c cc M va cv ra cr)
  have HC := Lib.hid fun W (hk : Keep NoF w W) => Check_any S a f c ca cf cc W (hS.keep hk) (hT.keep0 hk)
  have HM := Lib.hid fun W (hk : Keep NoF w W) => moCheck_any W (hM.keep hk)
  rw [h] at HC
  generalize modelE M = x at *
  have hx : (x != 0) = true := by simpa using h2
  clear h hS hT hM h2
  go_enter Tryz.func11, Tryz.ntmps11
  go_upto_region 1 with (fail)
  generalize (w.alloc (.cells #[.slice a S.A.length ca, .slice f S.F.length cf, .slice c S.C.length cc] 24)).alloc (.cells #[.int .i64 M.W, .slice va M.V.length cv, .slice ra M.R.length cr] 28) = W0 at *
  have k0 := HP0.out.k
  have c0 : W0.cell? ⟨w.heap.size, 0, none⟩ = some (.slice a S.A.length ca) := HP0.out.s.cell 0
  have c1 : W0.cell? ⟨w.heap.size, 1, none⟩ = some (.slice f S.F.length cf) := HP0.out.s.cell 1
  have c2 : W0.cell? ⟨w.heap.size, 2, none⟩ = some (.slice c S.C.length cc) := HP0.out.s.cell 2
  go_wp2_with (first
    | (go_at_call 21; (with_reducible refine (HC.out _ k0).mono ?_); rintro e w1 ⟨rfl, k1⟩
       have HP1 := Lib.hid (HP0.out.keep k1)
       have m0 : w1.cell? ⟨w.heap.size + 1, 0, none⟩ = some (.int .i64 M.W) := HP1.out.m.cell 0
       have m1 : w1.cell? ⟨w.heap.size + 1, 1, none⟩ = some (.slice va M.V.length cv) := HP1.out.m.cell 1
       have m2 : w1.cell? ⟨w.heap.size + 1, 2, none⟩ = some (.slice ra M.R.length cr) := HP1.out.m.cell 2)
    | (go_at_call 17; (with_reducible refine (HM.out _ HP1.out.k).mono ?_); rintro e w2 ⟨rfl, k2⟩))
  go_ret2
  exact ⟨rfl, HP1.out.k.trans k2 fun _ _ h => h⟩
theorem mtFormat_bad3 (S : Sg) (a f c : Option Addr) (ca cf cc : Nat) (w : World) (hS : SigR w S a ca f cf c cc) (hM : MdR w M va cv ra cr rs) (hT : Tab w) (h : checkS S = 0) (h2 : modelE M = 0) (h3 : S.A.length ≠ M.R.length ∨ S.F.length ≠ M.V.length) :
    Calls Tryz.prog 11 #[.agg #[.slice a S.A.length ca, .slice f S.F.length cf, .slice c S.C.length cc], .agg #[.int .i64 M.W, .slice va M.V.length cv, .slice ra M.R.length cr]] w fun e w' => e = .returned (.tuple #[.string ⟨#[]⟩, .int .i64 1]) ∧ Keep NoF w w' := by
  have HP0 := Lib.hid (FB.new w S a ca f cf c cc M va cv ra cr)
  have HC := Lib.hid fun W (hk : Keep NoF w W) => Check_any S a f c ca cf cc W (hS.keep hk) (hT.keep0 hk)
  have HM := Lib.hid fun W (hk : Keep NoF w W) => moCheck_any W (hM.keep hk)
  rw [h] at HC
  rw [h2] at HM
  clear h hS hT hM h2
  go_enter Tryz.func11, Tryz.ntmps11
  go_upto_region 1 with (fail)
  generalize (w.alloc (.cells #[.slice a S.A.length ca, .slice f S.F.length cf, .slice c S.C.length cc] 24)).alloc (.cells #[.int .i64 M.W, .slice va M.V.length cv, .slice ra M.R.length cr] 28) = W0 at *
  have k0 := HP0.out.k
  have c0 : W0.cell? ⟨w.heap.size, 0, none⟩ = some (.slice a S.A.length ca) := HP0.out.s.cell 0
  have c1 : W0.cell? ⟨w.heap.size, 1, none⟩ = some (.slice f S.F.length cf) := HP0.out.s.cell 1
  have c2 : W0.cell? ⟨w.heap.size, 2, none⟩ = some (.slice c S.C.length cc) := HP0.out.s.cell 2
  by_cases hA : S.A.length = M.R.length
  · have hF : ((S.F.length : Int) != (M.V.length : Int)) = true := by simp; omega
    have hA' : ((S.A.length : Int) != (M.R.length : Int)) = false := by simp; omega
    clear h3 hA
    go_wp2_with (first
      | (go_at_call 21; (with_reducible refine (HC.out _ k0).mono ?_); rintro e w1 ⟨rfl, k1⟩
         have HP1 := Lib.hid (HP0.out.keep k1)
         have m0 : w1.cell? ⟨w.heap.size + 1, 0, none⟩ = some (.int .i64 M.W) := HP1.out.m.cell 0
         have m1 : w1.cell? ⟨w.heap.size + 1, 1, none⟩ = some (.slice va M.V.length cv) := HP1.out.m.cell 1
         have m2 : w1.cell? ⟨w.heap.size + 1, 2, none⟩ = some (.slice ra M.R.length cr) := HP1.out.m.cell 2)
      | (go_at_call 17; (with_reducible refine (HM.out _ HP1.out.k).mono ?_); rintro e w2 ⟨rfl, k2⟩
         have HP2 := Lib.hid (HP1.out.keep k2)
         have s0 : w2.cell? ⟨w.heap.size, 0, none⟩ = some (.slice a S.A.length ca) := HP2.out.s.cell 0
         have s1 : w2.cell? ⟨w.heap.size, 1, none⟩ = some (.slice f S.F.length cf) := HP2.out.s.cell 1
         have n1 : w2.cell? ⟨w.heap.size + 1, 1, none⟩ = some (.slice va M.V.length cv) := HP2.out.m.cell 1
         have n2 : w2.cell? ⟨w.heap.size + 1, 2, none⟩ = some (.slice ra M.R.length cr) := HP2.out.m.cell 2))
    go_ret2
    exact ⟨rfl, HP2.out.k⟩
  · have hA' : ((S.A.length : Int) != (M.R.length : Int)) = true := by simp; omega
    clear h3 hA
    go_wp2_with (first
      | (go_at_call 21; (with_reducible refine (HC.out _ k0).mono ?_); rintro e w1 ⟨rfl, k1⟩
         have HP1 := Lib.hid (HP0.out.keep k1)
         have m0 : w1.cell? ⟨w.heap.size + 1, 0, none⟩ = some (.int .i64 M.W) := HP1.out.m.cell 0
         have m1 : w1.cell? ⟨w.heap.size + 1, 1, none⟩ = some (.slice va M.V.length cv) := HP1.out.m.cell 1
         have m2 : w1.cell? ⟨w.heap.size + 1, 2, none⟩ = some (.slice ra M.R.length cr) := HP1.out.m.cell 2)
      | (go_at_call 17; (with_reducible refine (HM.out _ HP1.out.k).mono ?_); rintro e w2 ⟨rfl, k2⟩
         have HP2 := Lib.hid (HP1.out.keep k2)
         have s0 : w2.cell? ⟨w.heap.size, 0, none⟩ = some (.slice a S.A.length ca) := HP2.out.s.cell 0
         have n2 : w2.cell? ⟨w.heap.size + 1, 2, none⟩ = some (.slice ra M.R.length cr) := HP2.out.m.cell 2))
    go_ret2
    exact ⟨rfl, HP2.out.k⟩
theorem mtFormat_ok (S : Sg) (a f c : Option Addr) (ca cf cc : Nat) (w : World) (hS : SigR w S a ca f cf c cc) (hM : MdR w M va cv ra cr rs) (hT : Tab w) (hU : Ws.Tab w) (h : checkS S = 0) (h2 : modelE M = 0) (h3 : S.A.length = M.R.length) (h4 : S.F.length = M.V.length) :
    Calls Tryz.prog 11 #[.agg #[.slice a S.A.length ca, .slice f S.F.length cf, .slice c S.C.length cc], .agg #[.int .i64 M.W, .slice va M.V.length cv, .slice ra M.R.length cr]] w fun e w' => e = .returned (.tuple #[.string (txt (textM S M)), .int .i64 0]) ∧ Keep NoF w w' := by
  have HP0 := Lib.hid (FB.new w S a ca f cf c cc M va cv ra cr)
  have HC := Lib.hid fun W (hk : Keep NoF w W) => Check_any S a f c ca cf cc W (hS.keep hk) (hT.keep0 hk)
  have HM := Lib.hid fun W (hk : Keep NoF w W) => moCheck_any W (hM.keep hk)
  rw [h] at HC
  rw [h2] at HM
  have hok : Okm M := (Ev.model_zero hM.u).1 h2
  have HSg := Lib.hid hS
  have HMd := Lib.hid hM
  have HTb := Lib.hid (And.intro hT hU)
  have hA' : ((S.A.length : Int) != (M.R.length : Int)) = false := by simp; omega
  have hF' : ((S.F.length : Int) != (M.V.length : Int)) = false := by simp; omega
  have HLen := Lib.hid (And.intro h3 h4)
  have HTx := Lib.hid (text_len h hok h4.symm h3.symm)
  obtain ⟨n1, n2, n3⟩ := hok.n1
  have HN := Lib.hid n3
  have HOk := Lib.hid hok
  have HI : Hid (∀ w, Calls Tryz.prog 25 #[.int .i64 M.W] w fun e w' => e = .returned (.string (txt (dec M.n))) ∧ w' = w) := Lib.hid fun w => by rw [← n3]; exact Tryz.strconv_Itoa_small M.n (by omega) w
  have hnn1 := Lib.hid n1
  have hnn2 := Lib.hid n2
  clear h hS hT hM h2 h3 h4 hU n1 n2 n3 hok
  go_enter Tryz.func11, Tryz.ntmps11
  go_upto_region 1 with (fail)
  generalize (w.alloc (.cells #[.slice a S.A.length ca, .slice f S.F.length cf, .slice c S.C.length cc] 24)).alloc (.cells #[.int .i64 M.W, .slice va M.V.length cv, .slice ra M.R.length cr] 28) = W0 at *
  have k0 := HP0.out.k
  have c0 : W0.cell? ⟨w.heap.size, 0, none⟩ = some (.slice a S.A.length ca) := HP0.out.s.cell 0
  have c1 : W0.cell? ⟨w.heap.size, 1, none⟩ = some (.slice f S.F.length cf) := HP0.out.s.cell 1
  have c2 : W0.cell? ⟨w.heap.size, 2, none⟩ = some (.slice c S.C.length cc) := HP0.out.s.cell 2
  go_upto_region 9 with (first
    | (go_at_call 21; (with_reducible refine (HC.out _ k0).mono ?_); rintro e w1 ⟨rfl, k1⟩
       have HP1 := Lib.hid (HP0.out.keep k1)
       have m0 : w1.cell? ⟨w.heap.size + 1, 0, none⟩ = some (.int .i64 M.W) := HP1.out.m.cell 0
       have m1 : w1.cell? ⟨w.heap.size + 1, 1, none⟩ = some (.slice va M.V.length cv) := HP1.out.m.cell 1
       have m2 : w1.cell? ⟨w.heap.size + 1, 2, none⟩ = some (.slice ra M.R.length cr) := HP1.out.m.cell 2)
    | (go_at_call 17; (with_reducible refine (HM.out _ HP1.out.k).mono ?_); rintro e w2 ⟨rfl, k2⟩
       have HP2 := Lib.hid (HP1.out.keep k2)
       have s0 : w2.cell? ⟨w.heap.size, 0, none⟩ = some (.slice a S.A.length ca) := HP2.out.s.cell 0
       have s1 : w2.cell? ⟨w.heap.size, 1, none⟩ = some (.slice f S.F.length cf) := HP2.out.s.cell 1
       have n1 : w2.cell? ⟨w.heap.size + 1, 1, none⟩ = some (.slice va M.V.length cv) := HP2.out.m.cell 1
       have n2 : w2.cell? ⟨w.heap.size + 1, 2, none⟩ = some (.slice ra M.R.length cr) := HP2.out.m.cell 2))
  have KW : Keep NoF w2 (w2.alloc (.cells #[.pointer none, .slice none 0 0] 52)) := (Keep.refl _ _).alloc _
  have HP3 := Lib.hid (HP2.out.keep KW)
  have HB3 := Lib.hid (IsB.fresh w2)
  have HZ := Lib.hid (World.size_alloc w2 (.cells #[.pointer none, .slice none 0 0] 52))
  clear m0 m1 m2 s0 s1 n1 n2 c0 c1 c2
  go_upto_region 11 with (fail)
  generalize w2.alloc (.cells #[.pointer none, .slice none 0 0] 52) = W3 at *
  have m0 : W3.cell? ⟨w.heap.size + 1, 0, none⟩ = some (.int .i64 M.W) := HP3.out.m.cell 0
  have m1 : W3.cell? ⟨w.heap.size + 1, 1, none⟩ = some (.slice va M.V.length cv) := HP3.out.m.cell 1
  have m2 : W3.cell? ⟨w.heap.size + 1, 2, none⟩ = some (.slice ra M.R.length cr) := HP3.out.m.cell 2
  have HL2 := Lib.hid (mtline_new w2.heap.size [] (lW M) 2 W3 9 #[.string ⟨#[119, 111, 114, 108, 100, 115]⟩, .string (txt (dec M.n))] rfl rfl HB3.out (by omega) (by have := preF_le' S M (Nat.zero_le _); have := HTx.out; simp [preF, tx] at *; omega))
  go_upto_region 12 with (first
    | (go_at_call 25; (with_reducible refine (HI.out _).mono ?_); rintro e w' ⟨rfl, hw'⟩; obtain rfl := hw'.symm)
    | (go_at_call 22; (with_reducible refine HL2.out.mono ?_); rintro e w4 ⟨rfl, hb4, k4⟩))
  have HS4 : Hid (IsB w2.heap.size (tx (preF S M 0)) w4 ∧ Keep NoF w2 w4) := Lib.hid ⟨by simpa [preF, tx] using hb4, keep_step KW k4⟩
  have HP4 := Lib.hid (HP2.out.keep HS4.out.2)
  clear m0 m1 m2 hb4 k4 HL2
  have s1 : w4.cell? ⟨w.heap.size, 1, none⟩ = some (.slice f S.F.length cf) := HP4.out.s.cell 1
  go_upto_region 13 with (fail)
  go_loopw [52] (fun v wr => ∃ i : Nat, v = .int .i64 i ∧ i ≤ S.F.length ∧ Hid (IsB w2.heap.size (tx (preF S M i)) wr ∧ Keep NoF w2 wr)) (fun v _ => S.F.length - (intOf v).toNat)
  case atStart => exact ⟨0, rfl, by omega, HS4⟩
  case round =>
    obtain ⟨i, rfl, hi, HR⟩ := hrel
    have hbd := HSg.out.lF
    by_cases hlt : i < S.F.length
    · have hlt' : (i : Int) < (S.F.length : Int) := by omega
      have kr : Keep NoF w wr := HP2.out.k.trans HR.out.2 fun _ _ h => h
      have HPr := Lib.hid (HP2.out.keep HR.out.2)
      obtain ⟨-, hcf, bl, off, rfl, hc⟩ := (HSg.out.keep kr).F.str (List.getElem?_eq_getElem hlt)
      obtain ⟨-, hcv, bv, ov, rfl, hv⟩ := Rd.nat_lt (HMd.out.keep kr).V (show i < M.V.length by rw [← HLen.out.2]; exact hlt)
      have hltv : (i : Int) < (M.V.length : Int) := by have := HLen.out.2; omega
      have m1 : wr.cell? ⟨w.heap.size + 1, 1, none⟩ = some (.slice (some ⟨bv, ov, none⟩) M.V.length cv) := HPr.out.m.cell 1
      have HF5 := Lib.hid fun W hk => Ws.Format_any (M.V.getD i 0) W (v64 HMd.out.u i) (HTb.out.2.keep0 hk)
      have HLF := Lib.hid fun (W : World) (hb : IsB w2.heap.size (tx (preF S M i)) W) => mtline_new w2.heap.size (tx (preF S M i)) (lF S M i) 3 W 9 #[.string ⟨#[102, 97, 99, 116]⟩, .string S.F[i], .string (Ws.txt (Ws.fmtS (M.V.getD i 0)))] (lF_cells hlt) rfl hb (by omega) (by rw [← List.length_append, ← tx_snoc, ← preF_succ]; have := preF_le' S M (i := i + 1) (by have := HLen.out.2; omega); have := HTx.out; omega)
      generalize S.F[i] = name at *
      generalize hV : M.V.getD i 0 = vi at *
      clear hV
      go_wp2_with (first
        | (go_at_call 26; (with_reducible refine (HF5.out _ kr).mono ?_); rintro e w5 ⟨rfl, k5⟩)
        | (go_at_call 22; (with_reducible refine (HLF.out _ (HR.out.1.keep k5)).mono ?_); rintro e w6 ⟨rfl, hb6, k6⟩))
      go_roundw
      case rel => exact ⟨i + 1, by go_num, by omega, Lib.hid ⟨by rw [preF_succ, tx_snoc]; exact hb6, keep_step (HR.out.2.trans k5 fun _ _ h => h) k6⟩⟩
      case measure => simp only [intOf]; omega
    · obtain rfl : i = S.F.length := by omega
      have hlt' : ¬ (S.F.length : Int) < (S.F.length : Int) := by omega
      have HSA : Hid (IsB w2.heap.size (tx (preA S M 0 0)) wr ∧ Keep NoF w2 wr) := Lib.hid ⟨by rw [preA_zero, ← HLen.out.2]; exact HR.out.1, HR.out.2⟩
      have HPr := Lib.hid (HP2.out.keep HR.out.2)
      have s0 : wr.cell? ⟨w.heap.size, 0, none⟩ = some (.slice a S.A.length ca) := HPr.out.s.cell 0
      clear s1 HR HS4 HP4 hi
      go_upto_region 18 with (fail)
      generalize wr = w7 at *
      go_loopw [71] (fun v wr => ∃ i : Nat, v = .int .i64 i ∧ i ≤ S.A.length ∧ Hid (IsB w2.heap.size (tx (preA S M i 0)) wr ∧ Keep NoF w2 wr)) (fun v _ => S.A.length - (intOf v).toNat)
      case atStart => exact ⟨0, rfl, by omega, HSA⟩
      case round =>
        obtain ⟨i, rfl, hi, HR⟩ := hrel
        by_cases hlt : i < S.A.length
        · have hlt' : (i : Int) < (S.A.length : Int) := by omega
          have hltr : i < M.R.length := by rw [← HLen.out.1]; exact hlt
          have hltR : (i : Int) < (M.R.length : Int) := by omega
          have kr : Keep NoF w wr := HP2.out.k.trans HR.out.2 fun _ _ h => h
          have HPr := Lib.hid (HP2.out.keep HR.out.2)
          obtain ⟨-, hca, bl, off, rfl, hc⟩ := (HSg.out.keep kr).A.str (List.getElem?_eq_getElem hlt)
          obtain ⟨bv, ov, rA, rc, rfl, hcr, hv0, hrd, -⟩ := HMd.out.at_ hltr
          have hv := kr.cellv hv0 fun h => h
          clear hv0
          have HRow := Lib.hid (row_n HOk.out hltr)
          rw [HRow.out] at hv
          have m2 : wr.cell? ⟨w.heap.size + 1, 2, none⟩ = some (.slice (some ⟨bv, ov, none⟩) M.R.length cr) := HPr.out.m.cell 2
          have HRD : Hid (∀ (j : Nat) (W : World), j < M.n → Keep NoF w W → M.n ≤ rc ∧ ∃ b' o', rA = some ⟨b', o', none⟩ ∧ W.cell? ⟨b', o' + j, none⟩ = some (.int .u64 ((M.R.getD i []).getD j 0 : Nat))) := Lib.hid fun j W hj hk => by
            obtain ⟨h1, h2, h3⟩ := Rd.nat_lt (hrd.kept hk fun _ _ h => h) (show j < (M.R.getD i []).length by rw [HRow.out]; exact hj)
            exact ⟨by rw [← HRow.out]; exact h2, h3⟩
          clear hrd
          generalize hnm : S.A[i] = name at *
          have HNM := Lib.hid hnm
          clear hnm
          go_upto_region 21 with (fail)
          generalize hw8 : wr = w8 at *
          clear hw8
          go_loopw [82] (fun v wr => ∃ j : Nat, v = .int .i64 j ∧ j ≤ M.n ∧ Hid (IsB w2.heap.size (tx (preA S M i j)) wr ∧ Keep NoF w2 wr)) (fun v _ => M.n - (intOf v).toNat)
          case atStart => exact ⟨0, rfl, by omega, HR⟩
          case round =>
            obtain ⟨j, rfl, hj, HQ⟩ := hrel
            have hbn := hnn2.out
            have hba := HSg.out.lA
            by_cases hlj : j < M.n
            · have hlj' : (j : Int) < (M.n : Int) := by omega
              have kq : Keep NoF w wr := HP2.out.k.trans HQ.out.2 fun _ _ h => h
              obtain ⟨hrc, b', o', rfl, hcell⟩ := HRD.out j wr hlj kq
              have HIj := Lib.hid fun w => Tryz.strconv_Itoa_small j (by have := hnn2.out; omega) w
              have HF5 := Lib.hid fun W hk => Ws.Format_any ((M.R.getD i []).getD j 0) W (r64 HMd.out.u i j) (HTb.out.2.keep0 hk)
              have HLF := Lib.hid fun (W : World) (hb : IsB w2.heap.size (tx (preA S M i j)) W) => mtline_new w2.heap.size (tx (preA S M i j)) (lA S M (i, j)) 4 W 9 #[.string ⟨#[97, 103, 101, 110, 116]⟩, .string name, .string ⟨(Lib.decDigits j).toArray⟩, .string (Ws.txt (Ws.fmtS ((M.R.getD i []).getD j 0)))] (by rw [← HNM.out]; exact lA_cells hlt) rfl hb (by omega) (by rw [← List.length_append, ← tx_snoc, ← preA_succ]; have := preA_le S M hltr (j := j + 1) (by omega); have := HTx.out; omega)
              generalize hV : (M.R.getD i []).getD j 0 = vi at *
              clear hV
              go_wp2_with (first
                | (go_at_call 25; (with_reducible refine (HIj.out _).mono ?_); rintro e w' ⟨rfl, hw'⟩; obtain rfl := hw'.symm)
                | (go_at_call 26; (with_reducible refine (HF5.out _ kq).mono ?_); rintro e w5 ⟨rfl, k5⟩)
                | (go_at_call 22; (with_reducible refine (HLF.out _ (HQ.out.1.keep k5)).mono ?_); rintro e w6 ⟨rfl, hb6, k6⟩))
              go_roundw
              case rel => exact ⟨j + 1, by go_num, by omega, Lib.hid ⟨by rw [preA_succ, tx_snoc]; exact hb6, keep_step (HQ.out.2.trans k5 fun _ _ h => h) k6⟩⟩
              case measure => simp only [intOf]; omega
            · obtain rfl : j = M.n := by omega
              have hlj' : ¬ (M.n : Int) < (M.n : Int) := by omega
              go_wp2
              go_roundw
              case rel => exact ⟨i + 1, by go_num, by omega, Lib.hid ⟨by rw [← preA_row]; exact HQ.out.1, HQ.out.2⟩⟩
              case measure => simp only [intOf]; omega
        · obtain rfl : i = S.A.length := by omega
          have hlt' : ¬ (S.A.length : Int) < (S.A.length : Int) := by omega
          have HST := Lib.hid (Tryz.Builder_String_any w2.heap.size w2.heap.size (tx (preA S M S.A.length 0)) wr HR.out.1 HR.out.2.size)
          go_wp2_with (go_at_call 27; (with_reducible refine HST.out.mono ?_); rintro e w9 ⟨rfl, k9⟩)
          go_ret2
          refine ⟨?_, HP2.out.k.trans (keep_step HR.out.2 k9) fun _ _ h => h⟩
          rw [HLen.out.1, preA_all]
          rfl
theorem mtFormat_any (S : Sg) (a f c : Option Addr) (ca cf cc : Nat) (w : World) (hS : SigR w S a ca f cf c cc) (hM : MdR w M va cv ra cr rs) (hT : Tab w) (hU : Ws.Tab w) :
    Calls Tryz.prog 11 #[.agg #[.slice a S.A.length ca, .slice f S.F.length cf, .slice c S.C.length cc], .agg #[.int .i64 M.W, .slice va M.V.length cv, .slice ra M.R.length cr]] w fun e w' => e = .returned (.tuple #[.string (txt (formatM S M).1), .int .i64 (formatM S M).2]) ∧ Keep NoF w w' := by
  unfold formatM
  by_cases h1 : checkS S = 0
  · rw [if_neg (fun h => h h1)]
    by_cases h2 : modelE M = 0
    · rw [if_neg (fun h => h h2)]
      by_cases h3 : S.A.length ≠ M.R.length ∨ S.F.length ≠ M.V.length
      · rw [if_pos h3]
        exact mtFormat_bad3 S a f c ca cf cc w hS hM hT h1 h2 h3
      · rw [if_neg h3]
        exact mtFormat_ok S a f c ca cf cc w hS hM hT hU h1 h2 (by omega) (by omega)
    · rw [if_pos h2]
      exact mtFormat_bad2 S a f c ca cf cc w hS hM hT h1 h2
  · rw [if_pos h1]
    exact mtFormat_bad1 S a f c ca cf cc w hS hT h1
end
end Go.Proofs.YtmnhgeggojgflaaGreatDoor
