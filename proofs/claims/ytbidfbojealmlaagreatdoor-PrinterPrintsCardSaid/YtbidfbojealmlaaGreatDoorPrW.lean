/- The printer's writer: its state, and the strings.Builder inside of it; put. Conditions: the writer lies as it is built. The printer: find, names, agent, head. Conditions: the variable of the operators lies as it is read; the writer lies as it is built. The printer: names, agent, head. Conditions: the writer lies as it is built. The printer: operand, condition, node: the text of a formula is put behind what is written. Conditions: the writer lies as it is built; the variable of the operators lies as it is read. The printer: node. Conditions: the writer lies as it is built; the variable of the operators lies as it is read. No condition. -/
import Derived.Test.YtbidfbojealmlaaGreatDoorSgRG
import Derived.Test.YtbidfbojealmlaaGreatDoorFmE
import Derived.Lib.Builder
import Derived.Lib.AppendStr
import Derived.Lib.UnsafeStr
import Derived.Shelf.RegionOpenPlain
import Derived.Test.YtbidfbojealmlaaGreatDoorSgHJ
import Derived.Test.YtbidfbojealmlaaGreatDoorPrT
import Derived.BigQuiet
import Derived.StillTailTactics
import Derived.Deep.RegionWith
set_option linter.unusedVariables false
set_option linter.unusedSimpArgs false
namespace Go.Proofs.YtbidfbojealmlaaGreatDoor
open Go.RowKit
open Fm (Nd)

/-- What a run of the printer's writer does not change. -/
structure WE where
  w0 : World
  b : Nat
  S : Sg
  a : Option Addr
  ca : Nat
  f : Option Addr
  cf : Nat
  c : Option Addr
  cc : Nat
  o : List Nd
  A : Option Addr
  c0 : Nat
structure WE.Ok (E : WE) : Prop where
  hb : E.w0.heap.size ≤ E.b
  sig : SigR E.w0 E.S E.a E.ca E.f E.cf E.c E.cc
  nodes : Rd E.w0 (.slice E.A E.o.length E.c0) 6 E.o.length (fmC E.o)
  chk : checkS E.S = 0
  big : E.o.length ≤ 200
abbrev WE.ptr (E : WE) : Value := .pointer (some ⟨E.b, 0, none⟩)
abbrev WE.bp (E : WE) : Value := .pointer (some ⟨E.b, 4, none⟩)
def WE.cells (E : WE) (p v : Value) (lg : Bool) : Array Value := #[.slice E.a E.S.A.length E.ca, .slice E.f E.S.F.length E.cf, .slice E.c E.S.C.length E.cc, .slice E.A E.o.length E.c0, p, v, .bool lg]
structure WStP (E : WE) (w : World) (p v : Value) (bs : List UInt8) (lg : Bool) : Prop where
  kp : Keep NoF E.w0 w
  bk : Bk w E.b 56 (E.cells p v lg)
  own : w.ownsRow (E.b + 1) 5 1 v bs.length (Lib.byteCells bs)
def WSt (E : WE) (w : World) (bs : List UInt8) (lg : Bool) : Prop := ∃ p v, (p = .pointer none ∨ p = E.bp) ∧ WStP E w p v bs lg
/-- Blocks beside the writer and its bytes are left as they are. -/
def WK (E : WE) (w w' : World) : Prop := ∀ (k : Nat) (t : TypeId) (cs : Array Value), Bk w k t cs → t ≠ 5 → k ≠ E.b → Bk w' k t cs
theorem WK.refl (E : WE) (w : World) : WK E w w := fun _ _ _ h _ _ => h
theorem WK.trans {E : WE} {a b c : World} (h : WK E a b) (k : WK E b c) : WK E a c := fun i t cs hb ht hn => k i t cs (h i t cs hb ht hn) ht hn
theorem WK.of {E : WE} {a b : World} (h : Keep NoF a b) : WK E a b := fun i t cs hb _ _ => hb.keep h fun h => h
theorem WK.set {E : WE} {a : World} (i : Nat) (u : Value) : WK E a (a.setCell ⟨E.b, i, none⟩ u) := fun k t cs hb _ hn => hb.far hn u
/-- The text so far, or none once it is too long. -/
def WS (E : WE) (w : World) : Option (List UInt8) → Prop
  | some bs => bs.length ≤ 4000 ∧ WSt E w bs false
  | none => ∃ bs, bs.length ≤ 4000 ∧ WSt E w bs true
def putO (o : Option (List UInt8)) (s : List UInt8) : Option (List UInt8) := match o with
  | some bs => if 4000 < bs.length + s.length then none else some (bs ++ s)
  | none => none
theorem putO_app (o : Option (List UInt8)) (a b : List UInt8) : putO (putO o a) b = putO o (a ++ b) := by
  cases o with
  | none => rfl
  | some bs =>
    simp only [putO]
    by_cases h : 4000 < bs.length + a.length
    · rw [if_pos h, if_pos (by rw [List.length_append]; omega)]
    · rw [if_neg h]
      simp only [List.length_append]
      by_cases h2 : 4000 < bs.length + a.length + b.length
      · rw [if_pos h2, if_pos (by omega)]
      · rw [if_neg h2, if_neg (by omega), List.append_assoc]
section
variable {E : WE} {w w' : World} {p v : Value} {bs : List UInt8} {lg : Bool}
theorem WStP.keep (h : WStP E w p v bs lg) (hk : Keep NoF w w') : WStP E w' p v bs lg :=
  ⟨h.kp.trans hk fun _ _ h => h, h.bk.keep hk fun h => h, own_keep h.own fun k hk' => hk.block k (h.own.lt k hk').2 fun h => h⟩
theorem WSt.keep (h : WSt E w bs lg) (hk : Keep NoF w w') : WSt E w' bs lg := by
  obtain ⟨p, v, h1, h2⟩ := h
  exact ⟨p, v, h1, h2.keep hk⟩
theorem WS.keep {o : Option (List UInt8)} (h : WS E w o) (hk : Keep NoF w w') : WS E w' o := by
  cases o with
  | some bs => exact ⟨h.1, h.2.keep hk⟩
  | none => obtain ⟨bs, h1, h2⟩ := h; exact ⟨bs, h1, h2.keep hk⟩
theorem WStP.set (h : WStP E w p v bs lg) (hE : E.Ok) (i : Nat) (u : Value) {p' : Value} {lg' : Bool} (he : (E.cells p v lg).setIfInBounds i u = E.cells p' v lg') : WStP E (w.setCell ⟨E.b, i, none⟩ u) p' v bs lg' :=
  ⟨h.kp.setCell (.inr hE.hb) _, he ▸ h.bk.put i u, own_keep h.own fun k hk => Below.heap_setCell _ _ _ _ (by have := (h.own.lt k hk).1; show k ≠ E.b; omega)⟩
theorem WSt.cells (h : WSt E w bs lg) : w.cell? ⟨E.b, 0, none⟩ = some (.slice E.a E.S.A.length E.ca) ∧ w.cell? ⟨E.b, 1, none⟩ = some (.slice E.f E.S.F.length E.cf) ∧ w.cell? ⟨E.b, 2, none⟩ = some (.slice E.c E.S.C.length E.cc) ∧ w.cell? ⟨E.b, 3, none⟩ = some (.slice E.A E.o.length E.c0) ∧ w.cell? ⟨E.b, 6, none⟩ = some (.bool lg) := by
  obtain ⟨p, v, _, h2⟩ := h
  exact ⟨h2.bk.cell 0, h2.bk.cell 1, h2.bk.cell 2, h2.bk.cell 3, h2.bk.cell 6⟩
theorem WSt.fr (h : WSt E w bs lg) (i : Nat) : w.frozen? ⟨E.b, i, none⟩ = false := by
  obtain ⟨p, v, _, h2⟩ := h
  exact h2.bk.frozen i
theorem WS.some_ {o : Option (List UInt8)} (h : WS E w o) : ∃ bs, bs.length ≤ 4000 ∧ WSt E w bs o.isNone := by
  cases o with
  | some bs => exact ⟨bs, h⟩
  | none => exact h
end
section
set_option maxRecDepth 100000
set_option maxHeartbeats 2000000
variable {E : WE} {w : World} {bs : List UInt8} {lg : Bool}
theorem bCopy_any (h : WSt E w bs lg) (hE : E.Ok) : Calls Tryz.prog 111 #[E.bp] w fun e w' => e = .returned (.tuple #[]) ∧ (∃ v, WStP E w' E.bp v bs lg) ∧ WK E w w' := by
  obtain ⟨p, v, hp, hs⟩ := h
  obtain ⟨j, hj, hjs⟩ := Option.map_eq_some_iff.1 (show (Tryz.prog.info? 54).map (·.size) = some 2 by kernel_rfl)
  rcases hp with rfl | rfl
  · have h0 : w.cell? ⟨E.b, 4, none⟩ = some (.pointer none) := hs.bk.cell 4
    have f0 : w.frozen? ⟨E.b, 4, none⟩ = false := hs.bk.frozen 4
    have hsh : w.shape? E.b = some (56, 7) := by have := hs.bk; unfold Bk at this; simp [World.shape?, this, WE.cells]
    have HQ := Lib.hid (hs.set hE 4 E.bp (p' := E.bp) (lg' := lg) rfl)
    clear hs
    go_enter Tryz.func111, Tryz.ntmps111
    go_wp2
    rw [Lib.run_to_unsafe w ⟨E.b, 4, none⟩ Tryz.underlying51 Tryz.underlying133 hj (by rw [hjs]; decide) hsh (by show 4 < 7; decide)]
    simp only [Result.andThen]
    rw [Oper.upon_value]
    go_wp2
    rw [run_callFunc_extern Tryz.func125 (by kernel_rfl) (by kernel_rfl) (by kernel_rfl) (e := Extern.AbiNoEscape.same) (by kernel_rfl)]
    rw [Lib.run_noEscape]
    simp only [Result.andThen]
    rw [Oper.upon_value]
    go_wp2
    rw [Lib.run_from_unsafe w ⟨E.b, 4, none⟩ Tryz.underlying133 Tryz.underlying51 hj hsh (by kernel_rfl)]
    simp only [Result.andThen]
    rw [Oper.upon_value]
    go_wp2
    refine bodyPost_end (v := .tuple #[]) (by simp [results, Tryz.results111, go_sem]) rfl ?_
    exact ⟨rfl, ⟨v, HQ.out⟩, WK.set _ _⟩
  · have h0 : w.cell? ⟨E.b, 4, none⟩ = some E.bp := hs.bk.cell 4
    have HQ := Lib.hid hs
    clear hs
    go_enter Tryz.func111, Tryz.ntmps111
    go_wp2
    rw [Lib.run_neq_ptr_same w _ Tryz.underlying51 hj]
    go_wp2
    refine bodyPost_end (v := .tuple #[]) (by simp [results, Tryz.results111, go_sem]) rfl ?_
    exact ⟨rfl, ⟨v, HQ.out⟩, WK.refl _ _⟩
theorem bLen_any (h : WSt E w bs lg) : Calls Tryz.prog 85 #[E.bp] w fun e w' => e = .returned (.int .i64 (bs.length : Int)) ∧ w' = w := by
  obtain ⟨p, v, hp, hs⟩ := h
  have c5 : w.cell? ⟨E.b, 5, none⟩ = some v := hs.bk.cell 5
  obtain ⟨A, c, rfl⟩ := own_form hs.own
  clear hs hp
  go_enter Tryz.func85, Tryz.ntmps85
  go_wp2
  refine bodyPost_ret (v := .int .i64 (bs.length : Int)) (by simp [results, Tryz.results85, go_sem]) rfl ?_
  exact ⟨rfl, rfl⟩
theorem bWrite_any (hE : E.Ok) (h : WSt E w bs lg) (s : ByteArray) (hl : bs.length + s.size ≤ 1000000) : Calls Tryz.prog 86 #[E.bp, .string s] w fun e w' => e = .returned (.tuple #[.int .i64 s.size, .nilIface]) ∧ WSt E w' (bs ++ s.data.toList) lg ∧ WK E w w' := by
  have HC := Lib.hid (bCopy_any h hE)
  obtain ⟨i0, hi, hz0, hz1, hz2⟩ := info_parts (show (Tryz.prog.info? 5).map (fun i => (i.zero, i.size, i.bytes)) = some (some (.int .u8 0), 1, 1) by kernel_rfl)
  clear h
  go_enter Tryz.func86, Tryz.ntmps86
  go_wp2_with (go_at_call 111; (with_reducible refine HC.out.mono ?_))
  rintro e w1 ⟨rfl, ⟨v, h1⟩, k1⟩
  obtain ⟨vA, vc, rfl⟩ := own_form h1.own
  have c4 : w1.cell? ⟨E.b, 4, none⟩ = some E.bp := h1.bk.cell 4
  have c5 : w1.cell? ⟨E.b, 5, none⟩ = some (.slice vA bs.length vc) := h1.bk.cell 5
  have hown := h1.own
  have hbk := h1.bk
  have hkp := h1.kp
  have hlt := hbk.lt
  have hvb : (Value.slice vA bs.length vc).ownBlock ≠ some E.b := fun he => by have := (hown.lt _ he).1; omega
  go_wp2_with (at_builtin; refine Lib.wpList_append_own_string _ rfl _ _ 52 9 rfl (E.b + 1) 5 i0 Tryz.underlying52 Tryz.underlying9 hi hz0 hz1 hz2 _ _ _ rfl hown s rfl ?c3 ?c4 ?c5 ?_)
  case c3 => unfold maxLen; omega
  case c4 => omega
  case c5 => omega
  intro v' w2 hown' hgrow _
  have hb2 : Bk w2 E.b 56 (E.cells E.bp (.slice vA bs.length vc) lg) := hbk.grown hgrow (Ne.symm hvb)
  have d5 : w2.cell? ⟨E.b, 5, none⟩ = some (.slice vA bs.length vc) := hb2.cell 5
  have f5 : w2.frozen? ⟨E.b, 5, none⟩ = false := hb2.frozen 5
  have HW2 : Hid (WK E w w2) := Lib.hid (k1.trans fun k t cs hb ht hn => hb.grown hgrow (Ne.symm (own_ne_bk hown hb (Ne.symm ht))))
  obtain ⟨A', c', rfl⟩ := own_form hown'
  have HK2 := Lib.hid (hkp.grown hgrow fun y hy => .inr (by have := (hown.lt y hy).1; have := hE.hb; omega))
  go_wp2
  refine bodyPost_ret (v := .tuple #[.int .i64 s.size, .nilIface]) (by simp [results, Tryz.results86, go_sem]) rfl ?_
  refine ⟨rfl, ⟨E.bp, _, .inr rfl, HK2.out.setCell (.inr hE.hb) _, hb2.put 5 _, ?_⟩, HW2.out.trans (WK.set 5 _)⟩
  have e1 : Lib.byteCells (bs ++ s.data.toList) = Lib.byteCells bs ++ Lib.strCells s := by rw [Lib.strCells_eq]; simp [Lib.byteCells]
  have e2 : (bs ++ s.data.toList).length = bs.length + s.size := by rw [List.length_append, data_len]
  rw [e1, e2]
  exact own_keep hown' fun y hy => Below.heap_setCell _ _ _ _ (by have := (hown'.lt y hy).1; show y ≠ E.b; omega)
theorem bString_any (h : WSt E w bs lg) (hE : E.Ok) (h0 : bs ≠ []) (hl : bs.length ≤ 1000000) : Calls Tryz.prog 29 #[E.bp] w fun e w' => e = .returned (.string (txt bs)) ∧ Keep NoF E.w0 w' := by
  obtain ⟨p, v, hp, hs⟩ := h
  have hown := hs.own
  have hl0 : bs.length ≠ 0 := by simpa using h0
  obtain ⟨g, cap, cur, rfl, hbg, hg, hnc, hcm, hcs, htake⟩ : ∃ g cap cur, v = .slice (some ⟨g, 0, none⟩) bs.length cap ∧ E.b + 1 ≤ g ∧ w.heap[g]? = some (.cells cur 5 (0, 0)) ∧ bs.length ≤ cap ∧ cap ≤ maxLen ∧ cur.size = cap * 1 ∧ cur.toList.take (bs.length * 1) = Lib.byteCells bs := by
    rcases hown.2 with ⟨_, hz⟩ | ⟨g, cap, cur, hv, r⟩
    · exact absurd hz hl0
    · exact ⟨g, cap, cur, hv, r⟩
  have c1 : w.drew.cell? ⟨E.b, 5, none⟩ = some (.slice (some ⟨g, 0, none⟩) bs.length cap) := hs.bk.cell 5
  have hSD : (Builtin.unsafeSliceData_ #[52] 85 #[.slice (some ⟨g, 0, none⟩) bs.length cap]).run Tryz.prog w.drew = .ok (.pointer (some ⟨g, 0, none⟩)) w.drew :=
    Lib.run_unsafeSliceData_row _ _ _ _ _ _ (by omega)
  have hUS : (Builtin.unsafeString_ #[85, 3] 9 #[.pointer (some ⟨g, 0, none⟩), .int .i64 bs.length]).run Tryz.prog w.drew = .ok (.string ⟨bs.toArray⟩) (w.drew.freeze ⟨g, 0, none⟩ bs.length) := by
    refine Lib.run_unsafeString_row w.drew 85 3 9 5 Tryz.underlying85 (by kernel_rfl) g cur.size (by have hg' : w.drew.heap[g]? = some (.cells cur 5 (0, 0)) := hg; simp [World.shape?, hg']) bs h0 (by omega) (by unfold maxLen at hcm; omega) ?_
    intro j x hx
    exact hown.cells (g := g) rfl j (.int .u8 x.toNat) (by simp [Lib.byteCells, hx])
  have HQ : Hid (Keep NoF E.w0 (w.drew.freeze ⟨g, 0, none⟩ bs.length)) := Lib.hid (by
    have hb1 : Below E.w0.heap.size E.w0 w := hs.kp.below
    exact Keep.of_below (Lib.below_freeze (Below.drew hb1) (p := ⟨g, 0, none⟩) (by have := hE.hb; show E.w0.heap.size ≤ g; omega) _) NoF)
  have mixed : Tryz.prog.follows Departure.mixedOrders = true := by kernel_rfl
  clear hs hown hl0 htake hcs
  unfold txt
  go_enter Tryz.func29, Tryz.ntmps29
  go_wp2
  go_region_o
  all_goals
    go_wp2
    refine bodyPost_ret (v := .string ⟨bs.toArray⟩) (by simp [results, Tryz.results29, go_sem]) rfl ?_
    exact ⟨rfl, HQ.out⟩
theorem put_any (hE : E.Ok) (s : ByteArray) (hs : s.size ≤ 1000000) {o : Option (List UInt8)} (h : WS E w o) : Calls Tryz.prog 54 #[E.ptr, .string s] w fun e w' => e = .returned (.tuple #[]) ∧ WS E w' (putO o s.data.toList) ∧ WK E w w' := by
  cases o with
  | none =>
    obtain ⟨bs, hb, p, v, hp, hst⟩ := h
    have c6 : w.cell? ⟨E.b, 6, none⟩ = some (.bool true) := hst.bk.cell 6
    have f6 : w.frozen? ⟨E.b, 6, none⟩ = false := hst.bk.frozen 6
    have HQ : Hid (WS E (w.setCell ⟨E.b, 6, none⟩ (.bool true)) none) := Lib.hid ⟨bs, hb, p, v, hp, hst.set hE 6 (.bool true) rfl⟩
    clear hst hp
    go_enter Tryz.func54, Tryz.ntmps54
    go_wp2
    refine bodyPost_ret (v := .tuple #[]) (by simp [results, Tryz.results54, go_sem]) rfl ?_
    exact ⟨rfl, HQ.out, WK.set _ _⟩
  | some bs =>
    obtain ⟨hb, hst⟩ := h
    have c6 : w.cell? ⟨E.b, 6, none⟩ = some (.bool false) := hst.cells.2.2.2.2
    have f6 := hst.fr 6
    have HL := Lib.hid (bLen_any hst)
    simp only [putO, data_len]
    by_cases hov : 4000 < bs.length + s.size
    · rw [if_pos hov]
      have HQ : Hid (WS E (w.setCell ⟨E.b, 6, none⟩ (.bool true)) none) := Lib.hid (by
        obtain ⟨p, v, hp, hst⟩ := hst
        exact ⟨bs, hb, p, v, hp, hst.set hE 6 (.bool true) rfl⟩)
      have hov' : (4000 : Int) < (bs.length : Int) + (s.size : Int) := by omega
      clear hst hov
      generalize bs.length = n at *
      go_enter Tryz.func54, Tryz.ntmps54
      go_wp2_with (go_at_call 85; (with_reducible refine HL.out.mono ?_); rintro e w1 ⟨rfl, hw⟩; obtain rfl := hw.symm)
      refine bodyPost_ret (v := .tuple #[]) (by simp [results, Tryz.results54, go_sem]) rfl ?_
      exact ⟨rfl, HQ.out, WK.set _ _⟩
    · rw [if_neg hov]
      have HW := Lib.hid (bWrite_any hE hst s (by omega))
      have hov' : ¬ (4000 : Int) < (bs.length : Int) + (s.size : Int) := by omega
      have HLE : Hid ((bs ++ s.data.toList).length ≤ 4000) := Lib.hid (by rw [List.length_append, data_len]; omega)
      clear hst hov
      generalize bs.length = n at *
      go_enter Tryz.func54, Tryz.ntmps54
      go_wp2_with (first
        | (go_at_call 85; (with_reducible refine HL.out.mono ?_); rintro e w1 ⟨rfl, hw⟩; obtain rfl := hw.symm)
        | (go_at_call 86; (with_reducible refine HW.out.mono ?_); rintro e w2 ⟨rfl, h2, k2⟩; have H2 := Lib.hid h2; have HK2 := Lib.hid k2; clear h2 k2))
      refine bodyPost_end (v := .tuple #[]) (by simp [results, Tryz.results54, go_sem]) rfl ?_
      exact ⟨rfl, ⟨HLE.out, H2.out⟩, HK2.out⟩
end
end Go.Proofs.YtbidfbojealmlaaGreatDoor
namespace Go.Proofs.YtbidfbojealmlaaGreatDoor
open Go.RowKit
open Fm (Nd own usesX usesY)
open Fm.Form

/-- The operators between two operands, as they are laid. -/
def infL : List Value := [.int .i64 5, .string ⟨#[32, 38, 32]⟩, .int .i64 4, .int .i64 4, .int .i64 5, .int .i64 6, .string ⟨#[32, 124, 32]⟩, .int .i64 3, .int .i64 3, .int .i64 4, .int .i64 19, .string ⟨#[32, 117, 110, 116, 105, 108, 32]⟩, .int .i64 2, .int .i64 3, .int .i64 2, .int .i64 21, .string ⟨#[32, 115, 105, 110, 99, 101, 32]⟩, .int .i64 2, .int .i64 3, .int .i64 2, .int .i64 7, .string ⟨#[32, 45, 62, 32]⟩, .int .i64 1, .int .i64 2, .int .i64 1, .int .i64 8, .string ⟨#[32, 60, 45, 62, 32]⟩, .int .i64 0, .int .i64 0, .int .i64 1]
def FTab (w : World) : Prop := ∀ (k : Nat) (v : Value), infL[k]? = some v → w.cell? ⟨1, k, none⟩ = some v
theorem FTab.keep0 {w w' : World} (h : FTab w) (hk : Keep NoF w w') : FTab w' := fun k v hv => hk.cellv (h k v hv) fun h => h
def isIn (op : Int) : Bool := decide (op = 5) || decide (op = 6) || decide (op = 19) || decide (op = 21) || decide (op = 7) || decide (op = 8)
/-- What find returns. -/
def infV (op : Int) : Value := if isIn op = true then .agg #[.int .i64 op, .string (txt (sgL op)), .int .i64 (lvO op : Int), .int .i64 (ltO op : Int), .int .i64 (rtO op : Int)] else .agg #[.int .i64 0, .string ⟨#[]⟩, .int .i64 0, .int .i64 0, .int .i64 0]
/-- A load of a whole array. -/
theorem wpList_loadVar {P : Program} {Q : Exit → Act → World → Prop} {ops : Array Oper} {rest : List Oper} {o : Oper} {a : Act} {w : World} (hgd : o.guard = none) (t : TypeId) (x : Operand) (ho : o.op = .load t x) (ad : Addr) (hx : a.eval x = .pointer (some ad)) (v : Value)
    (hl : (loadVar t ad).run P w = .ok v w) (h : wpList P ops Q rest (a.put o.dst v) w) : wpList P ops Q (o :: rest) a w := by
  refine wpList_plain hgd fun K hK => ?_
  unfold Oper.wp execOp
  simp only [ho, Instr.loadAt, Instr.sureAddr, Sem.run_bind, Sem.run_pure, Result.andThen_ok, hx, hl]
  rw [Oper.upon_value]
  exact hK _ _ h
section
set_option maxRecDepth 100000
set_option maxHeartbeats 4000000
theorem prfind_any (w : World) (hF : FTab w) (op : Int) : Calls Tryz.prog 52 #[.int .i64 op] w fun e w' => e = .returned (.tuple #[infV op, .bool (isIn op)]) ∧ Keep NoF w w' := by
  have hK0 : Keep NoF w (w.alloc (.cells #[.int .i64 0, .string ⟨#[]⟩, .int .i64 0, .int .i64 0, .int .i64 0] 80)) := (Keep.refl _ _).alloc _
  have hF1 := hF.keep0 hK0
  have hb := Bk.new w 80 #[.int .i64 0, .string ⟨#[]⟩, .int .i64 0, .int .i64 0, .int .i64 0]
  obtain ⟨A, hr, x0, x1, x2, x3, x4, x5⟩ : ∃ A : Array Value, (loadVar 102 ⟨1, 0, none⟩).run Tryz.prog (w.alloc (.cells #[.int .i64 0, .string ⟨#[]⟩, .int .i64 0, .int .i64 0, .int .i64 0] 80)) = .ok (.agg A) (w.alloc (.cells #[.int .i64 0, .string ⟨#[]⟩, .int .i64 0, .int .i64 0, .int .i64 0] 80)) ∧ (∀ W : World, (Instr.index 102 (.agg A) (.int .i64 0)).run Tryz.prog W = .ok (.agg #[.int .i64 5, .string ⟨#[32, 38, 32]⟩, .int .i64 4, .int .i64 4, .int .i64 5]) W) ∧ (∀ W : World, (Instr.index 102 (.agg A) (.int .i64 1)).run Tryz.prog W = .ok (.agg #[.int .i64 6, .string ⟨#[32, 124, 32]⟩, .int .i64 3, .int .i64 3, .int .i64 4]) W) ∧ (∀ W : World, (Instr.index 102 (.agg A) (.int .i64 2)).run Tryz.prog W = .ok (.agg #[.int .i64 19, .string ⟨#[32, 117, 110, 116, 105, 108, 32]⟩, .int .i64 2, .int .i64 3, .int .i64 2]) W) ∧ (∀ W : World, (Instr.index 102 (.agg A) (.int .i64 3)).run Tryz.prog W = .ok (.agg #[.int .i64 21, .string ⟨#[32, 115, 105, 110, 99, 101, 32]⟩, .int .i64 2, .int .i64 3, .int .i64 2]) W) ∧ (∀ W : World, (Instr.index 102 (.agg A) (.int .i64 4)).run Tryz.prog W = .ok (.agg #[.int .i64 7, .string ⟨#[32, 45, 62, 32]⟩, .int .i64 1, .int .i64 2, .int .i64 1]) W) ∧ (∀ W : World, (Instr.index 102 (.agg A) (.int .i64 5)).run Tryz.prog W = .ok (.agg #[.int .i64 8, .string ⟨#[32, 60, 45, 62, 32]⟩, .int .i64 0, .int .i64 0, .int .i64 1]) W) := by
    refine ⟨infL.toArray, ?_, fun W => by kernel_rfl, fun W => by kernel_rfl, fun W => by kernel_rfl, fun W => by kernel_rfl, fun W => by kernel_rfl, fun W => by kernel_rfl⟩
    have hrow := run_loadCells_list (P := Tryz.prog) (w.alloc (.cells #[.int .i64 0, .string ⟨#[]⟩, .int .i64 0, .int .i64 0, .int .i64 0] 80)) ⟨1, 0, none⟩ infL fun j v hv => by
      have := hF1 j v hv
      rw [Addr.add_lit, Nat.zero_add]; exact this
    have hag : (isAgg 102).run Tryz.prog (w.alloc (.cells #[.int .i64 0, .string ⟨#[]⟩, .int .i64 0, .int .i64 0, .int .i64 0] 80)) = .ok true (w.alloc (.cells #[.int .i64 0, .string ⟨#[]⟩, .int .i64 0, .int .i64 0, .int .i64 0] 80)) := Tryz.isAgg102 _
    have hsi : (sizeOf 102).run Tryz.prog (w.alloc (.cells #[.int .i64 0, .string ⟨#[]⟩, .int .i64 0, .int .i64 0, .int .i64 0] 80)) = .ok infL.length (w.alloc (.cells #[.int .i64 0, .string ⟨#[]⟩, .int .i64 0, .int .i64 0, .int .i64 0] 80)) := Tryz.sizeOf102 _
    simp only [loadVar, Sem.run_bind, hag, Result.andThen_ok, if_true, hsi, hrow, Sem.run_pure]
  clear hF hF1
  go_enter Tryz.func52, Tryz.ntmps52
  go_wp2_with (refine wpList_loadVar (by rfl) 102 (.global 1) (by rfl) ⟨1, 0, none⟩ (by rfl) (.agg A) hr ?_)
  clear hr
  generalize w.alloc (.cells #[.int .i64 0, .string ⟨#[]⟩, .int .i64 0, .int .i64 0, .int .i64 0] 80) = W0 at *
  go_loopw [7] (fun kv wr => ∃ k : Nat, kv = .int .i64 (k : Int) ∧ k ≤ 6 ∧ Hid (∀ m, m < k → infL[5 * m]? ≠ some (.int .i64 op)) ∧ Keep NoF W0 wr) (fun kv _ => 6 - (intOf kv).toNat)
  case atStart => exact ⟨0, rfl, by omega, Lib.hid fun m hm => by omega, Keep.refl _ _⟩
  case round =>
    obtain ⟨k, rfl, hk, HN, hkr⟩ := hrel
    have hbr := hb.keep hkr fun h => h
    have hz := hkr.size
    have hlb := hb.lt
    have r0 : wr.cell? ⟨w.heap.size, 0, none⟩ = some (.int .i64 0) := hbr.cell 0
    have r1 : wr.cell? ⟨w.heap.size, 1, none⟩ = some (.string ⟨#[]⟩) := hbr.cell 1
    have r2 : wr.cell? ⟨w.heap.size, 2, none⟩ = some (.int .i64 0) := hbr.cell 2
    have r3 : wr.cell? ⟨w.heap.size, 3, none⟩ = some (.int .i64 0) := hbr.cell 3
    have r4 : wr.cell? ⟨w.heap.size, 4, none⟩ = some (.int .i64 0) := hbr.cell 4
    have fb : ∀ i, wr.frozen? ⟨w.heap.size, i, none⟩ = false := fun i => hbr.frozen i
    have f0 := fb 0
    have f1 := fb 1
    have f2 := fb 2
    have f3 := fb 3
    have f4 := fb 4
    have l1 : w.heap.size < wr.heap.size := Nat.lt_of_lt_of_le hlb hz
    have l2 : ¬ w.heap.size = wr.heap.size := by omega
    have l3 : ¬ wr.heap.size = w.heap.size := by omega
    clear fb
    have hkw := hK0.trans hkr fun _ _ h => h
    rcases (show k = 0 ∨ k = 1 ∨ k = 2 ∨ k = 3 ∨ k = 4 ∨ k = 5 ∨ k = 6 by omega) with rfl | rfl | rfl | rfl | rfl | rfl | rfl
    · by_cases he : op = 5
      · subst he
        go_wp2
        have hq := (((((hbr.put 0 (.int .i64 5)).put 1 (.string ⟨#[32, 38, 32]⟩)).put 2 (.int .i64 4)).put 3 (.int .i64 4)).put 4 (.int .i64 5)).alloc (.cells #[.int .i64 5, .string ⟨#[32, 38, 32]⟩, .int .i64 4, .int .i64 4, .int .i64 5] 80)
        have hk2 := (((((hkw.setCell (p := ⟨w.heap.size, 0, none⟩) (.inr (Nat.le_refl _)) (.int .i64 5)).setCell (p := ⟨w.heap.size, 1, none⟩) (.inr (Nat.le_refl _)) (.string ⟨#[32, 38, 32]⟩)).setCell (p := ⟨w.heap.size, 2, none⟩) (.inr (Nat.le_refl _)) (.int .i64 4)).setCell (p := ⟨w.heap.size, 3, none⟩) (.inr (Nat.le_refl _)) (.int .i64 4)).setCell (p := ⟨w.heap.size, 4, none⟩) (.inr (Nat.le_refl _)) (.int .i64 5)).alloc (.cells #[.int .i64 5, .string ⟨#[32, 38, 32]⟩, .int .i64 4, .int .i64 4, .int .i64 5] 80)
        have q0 := hq.cell 0
        have q1 := hq.cell 1
        have q2 := hq.cell 2
        have q3 := hq.cell 3
        have q4 := hq.cell 4
        generalize World.alloc _ _ = W2 at *
        refine bodyPost_ret (v := .tuple #[.agg #[.int .i64 5, .string ⟨#[32, 38, 32]⟩, .int .i64 4, .int .i64 4, .int .i64 5], .bool true]) (by simp [results, Tryz.results52, go_sem, q0, q1, q2, q3, q4]) rfl ?_
        exact ⟨rfl, hk2⟩
      · have HN2 : Hid (∀ m, m < 1 → infL[5 * m]? ≠ some (.int .i64 op)) := Lib.hid fun m hm => if h : m < 0 then HN.out m h else (by obtain rfl : m = 0 := (by omega); exact fun e => he (by injection e with e; injection e with _ e; exact e.symm))
        go_wp2
        go_roundw
        case rel => exact ⟨1, rfl, by omega, HN2, hkr.alloc _⟩
        case measure => simp [intOf]
    · by_cases he : op = 6
      · subst he
        go_wp2
        have hq := (((((hbr.put 0 (.int .i64 6)).put 1 (.string ⟨#[32, 124, 32]⟩)).put 2 (.int .i64 3)).put 3 (.int .i64 3)).put 4 (.int .i64 4)).alloc (.cells #[.int .i64 6, .string ⟨#[32, 124, 32]⟩, .int .i64 3, .int .i64 3, .int .i64 4] 80)
        have hk2 := (((((hkw.setCell (p := ⟨w.heap.size, 0, none⟩) (.inr (Nat.le_refl _)) (.int .i64 6)).setCell (p := ⟨w.heap.size, 1, none⟩) (.inr (Nat.le_refl _)) (.string ⟨#[32, 124, 32]⟩)).setCell (p := ⟨w.heap.size, 2, none⟩) (.inr (Nat.le_refl _)) (.int .i64 3)).setCell (p := ⟨w.heap.size, 3, none⟩) (.inr (Nat.le_refl _)) (.int .i64 3)).setCell (p := ⟨w.heap.size, 4, none⟩) (.inr (Nat.le_refl _)) (.int .i64 4)).alloc (.cells #[.int .i64 6, .string ⟨#[32, 124, 32]⟩, .int .i64 3, .int .i64 3, .int .i64 4] 80)
        have q0 := hq.cell 0
        have q1 := hq.cell 1
        have q2 := hq.cell 2
        have q3 := hq.cell 3
        have q4 := hq.cell 4
        generalize World.alloc _ _ = W2 at *
        refine bodyPost_ret (v := .tuple #[.agg #[.int .i64 6, .string ⟨#[32, 124, 32]⟩, .int .i64 3, .int .i64 3, .int .i64 4], .bool true]) (by simp [results, Tryz.results52, go_sem, q0, q1, q2, q3, q4]) rfl ?_
        exact ⟨rfl, hk2⟩
      · have HN2 : Hid (∀ m, m < 2 → infL[5 * m]? ≠ some (.int .i64 op)) := Lib.hid fun m hm => if h : m < 1 then HN.out m h else (by obtain rfl : m = 1 := (by omega); exact fun e => he (by injection e with e; injection e with _ e; exact e.symm))
        go_wp2
        go_roundw
        case rel => exact ⟨2, rfl, by omega, HN2, hkr.alloc _⟩
        case measure => simp [intOf]
    · by_cases he : op = 19
      · subst he
        go_wp2
        have hq := (((((hbr.put 0 (.int .i64 19)).put 1 (.string ⟨#[32, 117, 110, 116, 105, 108, 32]⟩)).put 2 (.int .i64 2)).put 3 (.int .i64 3)).put 4 (.int .i64 2)).alloc (.cells #[.int .i64 19, .string ⟨#[32, 117, 110, 116, 105, 108, 32]⟩, .int .i64 2, .int .i64 3, .int .i64 2] 80)
        have hk2 := (((((hkw.setCell (p := ⟨w.heap.size, 0, none⟩) (.inr (Nat.le_refl _)) (.int .i64 19)).setCell (p := ⟨w.heap.size, 1, none⟩) (.inr (Nat.le_refl _)) (.string ⟨#[32, 117, 110, 116, 105, 108, 32]⟩)).setCell (p := ⟨w.heap.size, 2, none⟩) (.inr (Nat.le_refl _)) (.int .i64 2)).setCell (p := ⟨w.heap.size, 3, none⟩) (.inr (Nat.le_refl _)) (.int .i64 3)).setCell (p := ⟨w.heap.size, 4, none⟩) (.inr (Nat.le_refl _)) (.int .i64 2)).alloc (.cells #[.int .i64 19, .string ⟨#[32, 117, 110, 116, 105, 108, 32]⟩, .int .i64 2, .int .i64 3, .int .i64 2] 80)
        have q0 := hq.cell 0
        have q1 := hq.cell 1
        have q2 := hq.cell 2
        have q3 := hq.cell 3
        have q4 := hq.cell 4
        generalize World.alloc _ _ = W2 at *
        refine bodyPost_ret (v := .tuple #[.agg #[.int .i64 19, .string ⟨#[32, 117, 110, 116, 105, 108, 32]⟩, .int .i64 2, .int .i64 3, .int .i64 2], .bool true]) (by simp [results, Tryz.results52, go_sem, q0, q1, q2, q3, q4]) rfl ?_
        exact ⟨rfl, hk2⟩
      · have HN2 : Hid (∀ m, m < 3 → infL[5 * m]? ≠ some (.int .i64 op)) := Lib.hid fun m hm => if h : m < 2 then HN.out m h else (by obtain rfl : m = 2 := (by omega); exact fun e => he (by injection e with e; injection e with _ e; exact e.symm))
        go_wp2
        go_roundw
        case rel => exact ⟨3, rfl, by omega, HN2, hkr.alloc _⟩
        case measure => simp [intOf]
    · by_cases he : op = 21
      · subst he
        go_wp2
        have hq := (((((hbr.put 0 (.int .i64 21)).put 1 (.string ⟨#[32, 115, 105, 110, 99, 101, 32]⟩)).put 2 (.int .i64 2)).put 3 (.int .i64 3)).put 4 (.int .i64 2)).alloc (.cells #[.int .i64 21, .string ⟨#[32, 115, 105, 110, 99, 101, 32]⟩, .int .i64 2, .int .i64 3, .int .i64 2] 80)
        have hk2 := (((((hkw.setCell (p := ⟨w.heap.size, 0, none⟩) (.inr (Nat.le_refl _)) (.int .i64 21)).setCell (p := ⟨w.heap.size, 1, none⟩) (.inr (Nat.le_refl _)) (.string ⟨#[32, 115, 105, 110, 99, 101, 32]⟩)).setCell (p := ⟨w.heap.size, 2, none⟩) (.inr (Nat.le_refl _)) (.int .i64 2)).setCell (p := ⟨w.heap.size, 3, none⟩) (.inr (Nat.le_refl _)) (.int .i64 3)).setCell (p := ⟨w.heap.size, 4, none⟩) (.inr (Nat.le_refl _)) (.int .i64 2)).alloc (.cells #[.int .i64 21, .string ⟨#[32, 115, 105, 110, 99, 101, 32]⟩, .int .i64 2, .int .i64 3, .int .i64 2] 80)
        have q0 := hq.cell 0
        have q1 := hq.cell 1
        have q2 := hq.cell 2
        have q3 := hq.cell 3
        have q4 := hq.cell 4
        generalize World.alloc _ _ = W2 at *
        refine bodyPost_ret (v := .tuple #[.agg #[.int .i64 21, .string ⟨#[32, 115, 105, 110, 99, 101, 32]⟩, .int .i64 2, .int .i64 3, .int .i64 2], .bool true]) (by simp [results, Tryz.results52, go_sem, q0, q1, q2, q3, q4]) rfl ?_
        exact ⟨rfl, hk2⟩
      · have HN2 : Hid (∀ m, m < 4 → infL[5 * m]? ≠ some (.int .i64 op)) := Lib.hid fun m hm => if h : m < 3 then HN.out m h else (by obtain rfl : m = 3 := (by omega); exact fun e => he (by injection e with e; injection e with _ e; exact e.symm))
        go_wp2
        go_roundw
        case rel => exact ⟨4, rfl, by omega, HN2, hkr.alloc _⟩
        case measure => simp [intOf]
    · by_cases he : op = 7
      · subst he
        go_wp2
        have hq := (((((hbr.put 0 (.int .i64 7)).put 1 (.string ⟨#[32, 45, 62, 32]⟩)).put 2 (.int .i64 1)).put 3 (.int .i64 2)).put 4 (.int .i64 1)).alloc (.cells #[.int .i64 7, .string ⟨#[32, 45, 62, 32]⟩, .int .i64 1, .int .i64 2, .int .i64 1] 80)
        have hk2 := (((((hkw.setCell (p := ⟨w.heap.size, 0, none⟩) (.inr (Nat.le_refl _)) (.int .i64 7)).setCell (p := ⟨w.heap.size, 1, none⟩) (.inr (Nat.le_refl _)) (.string ⟨#[32, 45, 62, 32]⟩)).setCell (p := ⟨w.heap.size, 2, none⟩) (.inr (Nat.le_refl _)) (.int .i64 1)).setCell (p := ⟨w.heap.size, 3, none⟩) (.inr (Nat.le_refl _)) (.int .i64 2)).setCell (p := ⟨w.heap.size, 4, none⟩) (.inr (Nat.le_refl _)) (.int .i64 1)).alloc (.cells #[.int .i64 7, .string ⟨#[32, 45, 62, 32]⟩, .int .i64 1, .int .i64 2, .int .i64 1] 80)
        have q0 := hq.cell 0
        have q1 := hq.cell 1
        have q2 := hq.cell 2
        have q3 := hq.cell 3
        have q4 := hq.cell 4
        generalize World.alloc _ _ = W2 at *
        refine bodyPost_ret (v := .tuple #[.agg #[.int .i64 7, .string ⟨#[32, 45, 62, 32]⟩, .int .i64 1, .int .i64 2, .int .i64 1], .bool true]) (by simp [results, Tryz.results52, go_sem, q0, q1, q2, q3, q4]) rfl ?_
        exact ⟨rfl, hk2⟩
      · have HN2 : Hid (∀ m, m < 5 → infL[5 * m]? ≠ some (.int .i64 op)) := Lib.hid fun m hm => if h : m < 4 then HN.out m h else (by obtain rfl : m = 4 := (by omega); exact fun e => he (by injection e with e; injection e with _ e; exact e.symm))
        go_wp2
        go_roundw
        case rel => exact ⟨5, rfl, by omega, HN2, hkr.alloc _⟩
        case measure => simp [intOf]
    · by_cases he : op = 8
      · subst he
        go_wp2
        have hq := (((((hbr.put 0 (.int .i64 8)).put 1 (.string ⟨#[32, 60, 45, 62, 32]⟩)).put 2 (.int .i64 0)).put 3 (.int .i64 0)).put 4 (.int .i64 1)).alloc (.cells #[.int .i64 8, .string ⟨#[32, 60, 45, 62, 32]⟩, .int .i64 0, .int .i64 0, .int .i64 1] 80)
        have hk2 := (((((hkw.setCell (p := ⟨w.heap.size, 0, none⟩) (.inr (Nat.le_refl _)) (.int .i64 8)).setCell (p := ⟨w.heap.size, 1, none⟩) (.inr (Nat.le_refl _)) (.string ⟨#[32, 60, 45, 62, 32]⟩)).setCell (p := ⟨w.heap.size, 2, none⟩) (.inr (Nat.le_refl _)) (.int .i64 0)).setCell (p := ⟨w.heap.size, 3, none⟩) (.inr (Nat.le_refl _)) (.int .i64 0)).setCell (p := ⟨w.heap.size, 4, none⟩) (.inr (Nat.le_refl _)) (.int .i64 1)).alloc (.cells #[.int .i64 8, .string ⟨#[32, 60, 45, 62, 32]⟩, .int .i64 0, .int .i64 0, .int .i64 1] 80)
        have q0 := hq.cell 0
        have q1 := hq.cell 1
        have q2 := hq.cell 2
        have q3 := hq.cell 3
        have q4 := hq.cell 4
        generalize World.alloc _ _ = W2 at *
        refine bodyPost_ret (v := .tuple #[.agg #[.int .i64 8, .string ⟨#[32, 60, 45, 62, 32]⟩, .int .i64 0, .int .i64 0, .int .i64 1], .bool true]) (by simp [results, Tryz.results52, go_sem, q0, q1, q2, q3, q4]) rfl ?_
        exact ⟨rfl, hk2⟩
      · have HN2 : Hid (∀ m, m < 6 → infL[5 * m]? ≠ some (.int .i64 op)) := Lib.hid fun m hm => if h : m < 5 then HN.out m h else (by obtain rfl : m = 5 := (by omega); exact fun e => he (by injection e with e; injection e with _ e; exact e.symm))
        go_wp2
        go_roundw
        case rel => exact ⟨6, rfl, by omega, HN2, hkr.alloc _⟩
        case measure => simp [intOf]
    · have hno : ∀ m, m < 6 → infL[5 * m]? ≠ some (.int .i64 op) := HN.out
      have e5 : op ≠ 5 := fun e => hno 0 (by omega) (by rw [e]; rfl)
      have e6 : op ≠ 6 := fun e => hno 1 (by omega) (by rw [e]; rfl)
      have e19 : op ≠ 19 := fun e => hno 2 (by omega) (by rw [e]; rfl)
      have e21 : op ≠ 21 := fun e => hno 3 (by omega) (by rw [e]; rfl)
      have e7 : op ≠ 7 := fun e => hno 4 (by omega) (by rw [e]; rfl)
      have e8 : op ≠ 8 := fun e => hno 5 (by omega) (by rw [e]; rfl)
      have hin : isIn op = false := by simp [isIn, e5, e6, e19, e21, e7, e8]
      have HV : Hid (infV op = .agg #[.int .i64 0, .string ⟨#[]⟩, .int .i64 0, .int .i64 0, .int .i64 0] ∧ isIn op = false) := Lib.hid ⟨by unfold infV; rw [hin]; rfl, hin⟩
      clear hno hin e5 e6 e19 e21 e7 e8
      have hq := ((((hbr.put 0 (.int .i64 0)).put 1 (.string ⟨#[]⟩)).put 2 (.int .i64 0)).put 3 (.int .i64 0)).put 4 (.int .i64 0)
      have hk2 := ((((hkw.setCell (p := ⟨w.heap.size, 0, none⟩) (.inr (Nat.le_refl _)) (.int .i64 0)).setCell (p := ⟨w.heap.size, 1, none⟩) (.inr (Nat.le_refl _)) (.string ⟨#[]⟩)).setCell (p := ⟨w.heap.size, 2, none⟩) (.inr (Nat.le_refl _)) (.int .i64 0)).setCell (p := ⟨w.heap.size, 3, none⟩) (.inr (Nat.le_refl _)) (.int .i64 0)).setCell (p := ⟨w.heap.size, 4, none⟩) (.inr (Nat.le_refl _)) (.int .i64 0)
      have q0 := hq.cell 0
      have q1 := hq.cell 1
      have q2 := hq.cell 2
      have q3 := hq.cell 3
      have q4 := hq.cell 4
      go_wp2
      generalize World.setCell _ _ _ = W2 at *
      refine bodyPost_ret (v := .tuple #[.agg #[.int .i64 0, .string ⟨#[]⟩, .int .i64 0, .int .i64 0, .int .i64 0], .bool false]) (by simp [results, Tryz.results52, go_sem, q0, q1, q2, q3, q4]) rfl ?_
      exact ⟨by rw [HV.out.1, HV.out.2], hk2⟩
end
end Go.Proofs.YtbidfbojealmlaaGreatDoor
namespace Go.Proofs.YtbidfbojealmlaaGreatDoor
open Go.RowKit
open Fm (Nd own usesX usesY)
open Fm.Form

section
set_option maxRecDepth 100000
set_option maxHeartbeats 4000000
variable {E : WE} {w : World} {bs : List UInt8} {lg : Bool}
theorem WSt.kp (h : WSt E w bs lg) : Keep NoF E.w0 w := by obtain ⟨p, v, _, h2⟩ := h; exact h2.kp
theorem WSt.lt (h : WSt E w bs lg) : E.b < w.heap.size := by obtain ⟨p, v, _, h2⟩ := h; exact h2.bk.lt
theorem prnames_any (hE : E.Ok) (h : WSt E w bs lg) (n : Nat) (hn : n < 16) : Calls Tryz.prog 82 #[E.ptr, .int .i64 (n : Int)] w fun e w' => e = .returned (.string (joinC (sel n E.S.A 0))) ∧ Keep NoF w w' := by
  have c0 := h.cells.1
  have hA := (checkS_ok hE.chk).lA
  have HNM := Lib.hid (fun x (hx : x ∈ E.S.A) => name_size ((checkS_ok hE.chk).name x (by simp [Sg.all, hx])).1)
  have HRD := Lib.hid (fun w1 (hk : Keep NoF w w1) => (hE.sig.keep (h.kp.trans hk fun _ _ h => h)).A)
  generalize hr : joinC (sel n E.S.A 0) = r
  have HR := Lib.hid hr
  clear hr h
  go_enter Tryz.func82, Tryz.ntmps82
  go_wp2
  go_loopw [5, 14] (fun v i wr => ∃ (k : Nat) (p : List ByteArray), i = .int .i64 k ∧ k ≤ E.S.A.length ∧ Hid (p = sel n (E.S.A.take k) 0) ∧ wr.ownsRow w.heap.size 9 1 v p.length (strs p) ∧ Keep NoF w wr) (fun _ i _ => E.S.A.length - (intOf i).toNat)
  case atStart => exact ⟨0, [], rfl, by omega, Lib.hid rfl, World.ownsRow_nil _ _ _ _, Keep.refl _ _⟩
  case round =>
    obtain ⟨k, p, rfl, hk, hp, hown, hkr⟩ := hrel
    have hz := hkr.size
    by_cases hlt : k < E.S.A.length
    · have hx : E.S.A[k]? = some E.S.A[k] := List.getElem?_eq_getElem hlt
      obtain ⟨-, hcc, bl, off, hA0, hc⟩ := (HRD.out wr hkr).str hx
      have hsel := sel_at hx n
      have hpl : p.length ≤ 4 := by
        have := sel_len n (E.S.A.take k) 0
        rw [← hp.out, List.length_take] at this
        omega
      have hba := bit_ask hn (show k < 4 by omega)
      clear hx
      generalize E.S.A[k] = x at *
      rw [hA0]
      obtain ⟨B, cb, rfl⟩ := own_form hown
      cases hb : n.testBit k with
      | true =>
        rw [hb, if_pos rfl] at hsel
        rw [hb] at hba
        have HP : Hid (p ++ [x] = sel n (E.S.A.take (k + 1)) 0) := Lib.hid (by rw [hsel, hp.out])
        clear hsel hb hp hA0
        go_wp2_with (at_builtin
                     refine wpList_app (by rfl) eStrs (.tmp 24) (.tmp 26) (by rfl) (by rfl) (hown.alloc _) ⟨wr.heap.size, 0, none⟩ 1 1 [.string x] (by rfl) (by rfl)
                       (World.news_of_block (cs := #[.string x]) (t := 9) (fr := (0, 0)) (heap_alloc_new wr _)) (by simp [Value.oneCell']) (by omega) (by omega) (by omega) (by simp; omega) ?_
                     intro g4 cap4 w4 hown4 hA4)
        go_roundw
        case rel =>
          refine ⟨k + 1, p ++ [x], by go_num, by omega, HP, ?_, (hkr.alloc _).grown hA4.grown fun x hx => .inr (hown.lt x hx).1⟩
          rw [strs_snoc] at hown4
          rw [List.length_append]
          exact hown4
        case measure => simp only [intOf]; omega
      | false =>
        rw [hb, if_neg (by simp), List.append_nil] at hsel
        rw [hb] at hba
        have HP : Hid (p = sel n (E.S.A.take (k + 1)) 0) := Lib.hid (by rw [hsel, hp.out])
        clear hsel hb hp hA0
        go_wp2
        go_roundw
        case rel => exact ⟨k + 1, p, by go_num, by omega, HP, hown, hkr⟩
        case measure => simp only [intOf]; omega
    · obtain rfl : k = E.S.A.length := by omega
      have HP : Hid (p = sel n E.S.A 0) := Lib.hid (by rw [hp.out, List.take_length])
      have hpl : p.length ≤ 4 := by
        have := sel_len n E.S.A 0
        rw [← HP.out] at this
        omega
      have hjs := joinC_size p fun x hx => (HNM.out x (sel_sub n E.S.A 0 x (HP.out ▸ hx))).2
      have HJ := join_any p _ wr w hown (by omega) (by omega)
      rw [show joinC p = r by rw [HP.out]; exact HR.out] at HJ
      have HJ2 := Lib.hid HJ
      clear HJ hjs hp HR
      go_wp2_with (go_at_call 110; (with_reducible refine HJ2.out.mono ?_); rintro e w3 ⟨rfl, hk3⟩)
      refine bodyPost_ret (v := .string r) (by simp [results, Tryz.results82, go_sem]) rfl ?_
      exact ⟨rfl, hkr.trans hk3 fun _ _ h => h⟩
theorem pragent_any (hE : E.Ok) (h : WSt E w bs lg) (s : ByteArray) (hs : s.size = 1) (n : Nd) {a : Nat} (hi : n.i = a) (ha : a < E.S.A.length) : Calls Tryz.prog 83 #[E.ptr, .string s, ndV n] w fun e w' => e = .returned (.string ((s ++ ⟨#[91]⟩) ++ nmB E.S.A a)) ∧ Keep NoF w w' := by
  obtain ⟨op, i, e0, g, x, y⟩ := n
  obtain rfl : i = (a : Int) := hi
  have hK0 : Keep NoF w (w.alloc (.cells #[.int .i64 op, .int .i64 (a : Int), .int .i64 e0, .int .i64 g, .int .i64 x, .int .i64 y] 49)) := (Keep.refl _ _).alloc _
  have c0 : (w.alloc (.cells #[.int .i64 op, .int .i64 (a : Int), .int .i64 e0, .int .i64 g, .int .i64 x, .int .i64 y] 49)).cell? ⟨E.b, 0, none⟩ = some (.slice E.a E.S.A.length E.ca) := (h.keep hK0).cells.1
  have hqn := Bk.new w 49 #[.int .i64 op, .int .i64 (a : Int), .int .i64 e0, .int .i64 g, .int .i64 x, .int .i64 y]
  have q1 : (w.alloc (.cells #[.int .i64 op, .int .i64 (a : Int), .int .i64 e0, .int .i64 g, .int .i64 x, .int .i64 y] 49)).cell? ⟨w.heap.size, 1, none⟩ = some (.int .i64 (a : Int)) := hqn.cell 1
  have hx := nm_at ha
  obtain ⟨-, hcc, bl, off, hA0, hc⟩ := ((hE.sig.keep (h.kp.trans hK0 fun _ _ h => h)).A).str hx
  have hsz : (nmB E.S.A a).size ≤ 8 := (name_size ((checkS_ok hE.chk).name _ (by have := nm_mem ha; simp [Sg.all, this])).1).2
  rw [hA0] at c0
  clear h hqn hx hA0
  have h1 : (0 : Int) ≤ (a : Int) := by omega
  have h2 : (a : Int) < (E.S.A.length : Int) := by omega
  generalize nmB E.S.A a = nm at *
  generalize E.S.A.length = N at *
  simp only [ndV] at *
  go_enter Tryz.func83, Tryz.ntmps83
  go_wp2
  generalize w.alloc _ = W at *
  go_region
  all_goals
    go_wp2
    refine bodyPost_ret (v := .string ((s ++ ⟨#[91]⟩) ++ nm)) (by simp [results, Tryz.results83, go_sem]) rfl ?_
    exact ⟨rfl, hK0.drewN _⟩
theorem joinC_le (hE : E.Ok) (n : Nat) : (joinC (sel n E.S.A 0)).size ≤ 36 := by
  have h1 := joinC_size (sel n E.S.A 0) fun x hx => (name_size ((checkS_ok hE.chk).name x (by have := sel_sub n E.S.A 0 x hx; simp [Sg.all, this])).1).2
  have h2 := sel_len n E.S.A 0
  have := (checkS_ok hE.chk).lA
  omega
theorem prhead_4 (x y : Int) : Calls Tryz.prog 84 #[E.ptr, ndV ⟨4, 0, 0, 0, x, y⟩] w fun e w' => e = .returned (.string (txt (hdL E.S 4 0 0 0))) ∧ Keep NoF w w' := by
  have hK0 : Keep NoF w (w.alloc (.cells #[.int .i64 4, .int .i64 0, .int .i64 0, .int .i64 0, .int .i64 x, .int .i64 y] 49)) := (Keep.refl _ _).alloc _
  simp only [ndV] at *
  go_enter Tryz.func84, Tryz.ntmps84
  go_wp2
  refine bodyPost_ret (v := .string ⟨#[126]⟩) (by simp [results, Tryz.results84, go_sem]) rfl ?_
  exact ⟨rfl, hK0⟩
theorem prhead_18 (x y : Int) : Calls Tryz.prog 84 #[E.ptr, ndV ⟨18, 0, 0, 0, x, y⟩] w fun e w' => e = .returned (.string (txt (hdL E.S 18 0 0 0))) ∧ Keep NoF w w' := by
  have hK0 : Keep NoF w (w.alloc (.cells #[.int .i64 18, .int .i64 0, .int .i64 0, .int .i64 0, .int .i64 x, .int .i64 y] 49)) := (Keep.refl _ _).alloc _
  simp only [ndV] at *
  go_enter Tryz.func84, Tryz.ntmps84
  go_wp2
  refine bodyPost_ret (v := .string ⟨#[110, 101, 120, 116, 32]⟩) (by simp [results, Tryz.results84, go_sem]) rfl ?_
  exact ⟨rfl, hK0⟩
theorem prhead_20 (x y : Int) : Calls Tryz.prog 84 #[E.ptr, ndV ⟨20, 0, 0, 0, x, y⟩] w fun e w' => e = .returned (.string (txt (hdL E.S 20 0 0 0))) ∧ Keep NoF w w' := by
  have hK0 : Keep NoF w (w.alloc (.cells #[.int .i64 20, .int .i64 0, .int .i64 0, .int .i64 0, .int .i64 x, .int .i64 y] 49)) := (Keep.refl _ _).alloc _
  simp only [ndV] at *
  go_enter Tryz.func84, Tryz.ntmps84
  go_wp2
  refine bodyPost_ret (v := .string ⟨#[112, 114, 101, 118, 32]⟩) (by simp [results, Tryz.results84, go_sem]) rfl ?_
  exact ⟨rfl, hK0⟩
theorem prhead_9 (hE : E.Ok) (h : WSt E w bs lg) (x y : Int) {a : Nat} (ha : a < E.S.A.length) : Calls Tryz.prog 84 #[E.ptr, ndV ⟨9, (a : Int), 0, 0, x, y⟩] w fun e w' => e = .returned (.string (txt (hdL E.S 9 (a : Int) 0 0))) ∧ Keep NoF w w' := by
  have hK0 : Keep NoF w (w.alloc (.cells #[.int .i64 9, .int .i64 (a : Int), .int .i64 0, .int .i64 0, .int .i64 x, .int .i64 y] 49)) := (Keep.refl _ _).alloc _
  have HA := Lib.hid (pragent_any hE (h.keep hK0) ⟨#[75]⟩ rfl ⟨9, (a : Int), 0, 0, x, y⟩ rfl ha)
  have hsz : (nmB E.S.A a).size ≤ 8 := (name_size ((checkS_ok hE.chk).name _ (by have := nm_mem ha; simp [Sg.all, this])).1).2
  have hr : txt (hdL E.S 9 (a : Int) 0 0) = (((⟨#[75]⟩ : ByteArray) ++ ⟨#[91]⟩) ++ nmB E.S.A a) ++ ⟨#[93]⟩ := by
    show txt ([75, 91] ++ (nmB E.S.A a).data.toList ++ [93]) = ((txt [75] ++ txt [91]) ++ nmB E.S.A a) ++ txt [93]
    rw [txt_app, ← txt_app, ← txt_app, txt_data]
    rfl
  have hs2 : (((⟨#[75]⟩ : ByteArray) ++ ⟨#[91]⟩) ++ nmB E.S.A a).size ≤ 10 := by
    rw [ByteArray.size_append, ByteArray.size_append]
    show 1 + 1 + (nmB E.S.A a).size ≤ 10
    omega
  rw [hr]
  clear hr h hsz
  generalize ((⟨#[75]⟩ : ByteArray) ++ ⟨#[91]⟩) ++ nmB E.S.A a = r at *
  simp only [ndV] at *
  go_enter Tryz.func84, Tryz.ntmps84
  go_wp2_with (go_at_call 83; (with_reducible refine HA.out.mono ?_); rintro e w1 ⟨rfl, K1⟩)
  refine bodyPost_ret (v := .string (r ++ ⟨#[93]⟩)) (by simp [results, Tryz.results84, go_sem]) rfl ?_
  exact ⟨rfl, hK0.trans K1 fun _ _ h => h⟩
theorem prhead_10 (hE : E.Ok) (h : WSt E w bs lg) (x y : Int) {a : Nat} (ha : a < E.S.A.length) : Calls Tryz.prog 84 #[E.ptr, ndV ⟨10, (a : Int), 0, 0, x, y⟩] w fun e w' => e = .returned (.string (txt (hdL E.S 10 (a : Int) 0 0))) ∧ Keep NoF w w' := by
  have hK0 : Keep NoF w (w.alloc (.cells #[.int .i64 10, .int .i64 (a : Int), .int .i64 0, .int .i64 0, .int .i64 x, .int .i64 y] 49)) := (Keep.refl _ _).alloc _
  have HA := Lib.hid (pragent_any hE (h.keep hK0) ⟨#[77]⟩ rfl ⟨10, (a : Int), 0, 0, x, y⟩ rfl ha)
  have hsz : (nmB E.S.A a).size ≤ 8 := (name_size ((checkS_ok hE.chk).name _ (by have := nm_mem ha; simp [Sg.all, this])).1).2
  have hr : txt (hdL E.S 10 (a : Int) 0 0) = (((⟨#[77]⟩ : ByteArray) ++ ⟨#[91]⟩) ++ nmB E.S.A a) ++ ⟨#[93]⟩ := by
    show txt ([77, 91] ++ (nmB E.S.A a).data.toList ++ [93]) = ((txt [77] ++ txt [91]) ++ nmB E.S.A a) ++ txt [93]
    rw [txt_app, ← txt_app, ← txt_app, txt_data]
    rfl
  have hs2 : (((⟨#[77]⟩ : ByteArray) ++ ⟨#[91]⟩) ++ nmB E.S.A a).size ≤ 10 := by
    rw [ByteArray.size_append, ByteArray.size_append]
    show 1 + 1 + (nmB E.S.A a).size ≤ 10
    omega
  rw [hr]
  clear hr h hsz
  generalize ((⟨#[77]⟩ : ByteArray) ++ ⟨#[91]⟩) ++ nmB E.S.A a = r at *
  simp only [ndV] at *
  go_enter Tryz.func84, Tryz.ntmps84
  go_wp2_with (go_at_call 83; (with_reducible refine HA.out.mono ?_); rintro e w1 ⟨rfl, K1⟩)
  refine bodyPost_ret (v := .string (r ++ ⟨#[93]⟩)) (by simp [results, Tryz.results84, go_sem]) rfl ?_
  exact ⟨rfl, hK0.trans K1 fun _ _ h => h⟩
theorem prhead_15 (hE : E.Ok) (h : WSt E w bs lg) (x y : Int) {a : Nat} (ha : a < E.S.A.length) : Calls Tryz.prog 84 #[E.ptr, ndV ⟨15, (a : Int), 0, 0, x, y⟩] w fun e w' => e = .returned (.string (txt (hdL E.S 15 (a : Int) 0 0))) ∧ Keep NoF w w' := by
  have hK0 : Keep NoF w (w.alloc (.cells #[.int .i64 15, .int .i64 (a : Int), .int .i64 0, .int .i64 0, .int .i64 x, .int .i64 y] 49)) := (Keep.refl _ _).alloc _
  have HA := Lib.hid (pragent_any hE (h.keep hK0) ⟨#[83]⟩ rfl ⟨15, (a : Int), 0, 0, x, y⟩ rfl ha)
  have hsz : (nmB E.S.A a).size ≤ 8 := (name_size ((checkS_ok hE.chk).name _ (by have := nm_mem ha; simp [Sg.all, this])).1).2
  have hr : txt (hdL E.S 15 (a : Int) 0 0) = (((⟨#[83]⟩ : ByteArray) ++ ⟨#[91]⟩) ++ nmB E.S.A a) ++ ⟨#[93]⟩ := by
    show txt ([83, 91] ++ (nmB E.S.A a).data.toList ++ [93]) = ((txt [83] ++ txt [91]) ++ nmB E.S.A a) ++ txt [93]
    rw [txt_app, ← txt_app, ← txt_app, txt_data]
    rfl
  have hs2 : (((⟨#[83]⟩ : ByteArray) ++ ⟨#[91]⟩) ++ nmB E.S.A a).size ≤ 10 := by
    rw [ByteArray.size_append, ByteArray.size_append]
    show 1 + 1 + (nmB E.S.A a).size ≤ 10
    omega
  rw [hr]
  clear hr h hsz
  generalize ((⟨#[83]⟩ : ByteArray) ++ ⟨#[91]⟩) ++ nmB E.S.A a = r at *
  simp only [ndV] at *
  go_enter Tryz.func84, Tryz.ntmps84
  go_wp2_with (go_at_call 83; (with_reducible refine HA.out.mono ?_); rintro e w1 ⟨rfl, K1⟩)
  refine bodyPost_ret (v := .string (r ++ ⟨#[93]⟩)) (by simp [results, Tryz.results84, go_sem]) rfl ?_
  exact ⟨rfl, hK0.trans K1 fun _ _ h => h⟩
theorem prhead_11 (hE : E.Ok) (h : WSt E w bs lg) (x y : Int) {n : Nat} (hn : n < 16) : Calls Tryz.prog 84 #[E.ptr, ndV ⟨11, 0, 0, (n : Int), x, y⟩] w fun e w' => e = .returned (.string (txt (hdL E.S 11 0 0 (n : Int)))) ∧ Keep NoF w w' := by
  have hK0 : Keep NoF w (w.alloc (.cells #[.int .i64 11, .int .i64 0, .int .i64 0, .int .i64 (n : Int), .int .i64 x, .int .i64 y] 49)) := (Keep.refl _ _).alloc _
  have HA := Lib.hid (prnames_any hE (h.keep hK0) n hn)
  have hsz := joinC_le hE n
  have hr : txt (hdL E.S 11 0 0 (n : Int)) = ((⟨#[69, 91]⟩ : ByteArray) ++ joinC (sel n E.S.A 0)) ++ ⟨#[93]⟩ := by
    show txt ([69, 91] ++ (joinC (sel n E.S.A 0)).data.toList ++ [93]) = (txt [69, 91] ++ joinC (sel n E.S.A 0)) ++ txt [93]
    rw [← txt_app, ← txt_app, txt_data]
  have hs2 : ((⟨#[69, 91]⟩ : ByteArray) ++ joinC (sel n E.S.A 0)).size ≤ 40 := by
    rw [ByteArray.size_append]
    show 2 + (joinC (sel n E.S.A 0)).size ≤ 40
    omega
  rw [hr]
  clear hr h
  generalize joinC (sel n E.S.A 0) = r at *
  simp only [ndV] at *
  go_enter Tryz.func84, Tryz.ntmps84
  go_wp2_with (go_at_call 82; (with_reducible refine HA.out.mono ?_); rintro e w1 ⟨rfl, K1⟩)
  refine bodyPost_ret (v := .string (((⟨#[69, 91]⟩ : ByteArray) ++ r) ++ ⟨#[93]⟩)) (by simp [results, Tryz.results84, go_sem]) rfl ?_
  exact ⟨rfl, hK0.trans K1 fun _ _ h => h⟩
theorem prhead_12 (hE : E.Ok) (h : WSt E w bs lg) (x y : Int) {n : Nat} (hn : n < 16) : Calls Tryz.prog 84 #[E.ptr, ndV ⟨12, 0, 0, (n : Int), x, y⟩] w fun e w' => e = .returned (.string (txt (hdL E.S 12 0 0 (n : Int)))) ∧ Keep NoF w w' := by
  have hK0 : Keep NoF w (w.alloc (.cells #[.int .i64 12, .int .i64 0, .int .i64 0, .int .i64 (n : Int), .int .i64 x, .int .i64 y] 49)) := (Keep.refl _ _).alloc _
  have HA := Lib.hid (prnames_any hE (h.keep hK0) n hn)
  have hsz := joinC_le hE n
  have hr : txt (hdL E.S 12 0 0 (n : Int)) = ((⟨#[68, 91]⟩ : ByteArray) ++ joinC (sel n E.S.A 0)) ++ ⟨#[93]⟩ := by
    show txt ([68, 91] ++ (joinC (sel n E.S.A 0)).data.toList ++ [93]) = (txt [68, 91] ++ joinC (sel n E.S.A 0)) ++ txt [93]
    rw [← txt_app, ← txt_app, txt_data]
  have hs2 : ((⟨#[68, 91]⟩ : ByteArray) ++ joinC (sel n E.S.A 0)).size ≤ 40 := by
    rw [ByteArray.size_append]
    show 2 + (joinC (sel n E.S.A 0)).size ≤ 40
    omega
  rw [hr]
  clear hr h
  generalize joinC (sel n E.S.A 0) = r at *
  simp only [ndV] at *
  go_enter Tryz.func84, Tryz.ntmps84
  go_wp2_with (go_at_call 82; (with_reducible refine HA.out.mono ?_); rintro e w1 ⟨rfl, K1⟩)
  refine bodyPost_ret (v := .string (((⟨#[68, 91]⟩ : ByteArray) ++ r) ++ ⟨#[93]⟩)) (by simp [results, Tryz.results84, go_sem]) rfl ?_
  exact ⟨rfl, hK0.trans K1 fun _ _ h => h⟩
theorem prhead_17 (hE : E.Ok) (h : WSt E w bs lg) (x y : Int) {a b : Nat} (ha : a < E.S.C.length) (hb : b < 8) : Calls Tryz.prog 84 #[E.ptr, ndV ⟨17, (a : Int), (b : Int), 0, x, y⟩] w fun e w' => e = .returned (.string (txt (hdL E.S 17 (a : Int) (b : Int) 0))) ∧ Keep NoF w w' := by
  have hK0 : Keep NoF w (w.alloc (.cells #[.int .i64 17, .int .i64 (a : Int), .int .i64 (b : Int), .int .i64 0, .int .i64 x, .int .i64 y] 49)) := (Keep.refl _ _).alloc _
  have c2 : (w.alloc (.cells #[.int .i64 17, .int .i64 (a : Int), .int .i64 (b : Int), .int .i64 0, .int .i64 x, .int .i64 y] 49)).cell? ⟨E.b, 2, none⟩ = some (.slice E.c E.S.C.length E.cc) := (h.keep hK0).cells.2.2.1
  have hqn := Bk.new w 49 #[.int .i64 17, .int .i64 (a : Int), .int .i64 (b : Int), .int .i64 0, .int .i64 x, .int .i64 y]
  have q1 : (w.alloc (.cells #[.int .i64 17, .int .i64 (a : Int), .int .i64 (b : Int), .int .i64 0, .int .i64 x, .int .i64 y] 49)).cell? ⟨w.heap.size, 1, none⟩ = some (.int .i64 (a : Int)) := hqn.cell 1
  have q2 : (w.alloc (.cells #[.int .i64 17, .int .i64 (a : Int), .int .i64 (b : Int), .int .i64 0, .int .i64 x, .int .i64 y] 49)).cell? ⟨w.heap.size, 2, none⟩ = some (.int .i64 (b : Int)) := hqn.cell 2
  have q0 : (w.alloc (.cells #[.int .i64 17, .int .i64 (a : Int), .int .i64 (b : Int), .int .i64 0, .int .i64 x, .int .i64 y] 49)).cell? ⟨w.heap.size, 0, none⟩ = some (.int .i64 17) := hqn.cell 0
  have hx := nm_at ha
  obtain ⟨-, hcc, bl, off, hA0, hc⟩ := ((hE.sig.keep (h.kp.trans hK0 fun _ _ h => h)).C).str hx
  have hsz : (nmB E.S.C a).size ≤ 8 := (name_size ((checkS_ok hE.chk).name _ (by have := nm_mem ha; simp [Sg.all, this])).1).2
  have HI := Lib.hid fun W => Tryz.strconv_Itoa_small b (by omega) W
  have hd : (⟨(Lib.decDigits b).toArray⟩ : ByteArray) = digW (b : Int) := by
    have h8 : b = 0 ∨ b = 1 ∨ b = 2 ∨ b = 3 ∨ b = 4 ∨ b = 5 ∨ b = 6 ∨ b = 7 := by omega
    rcases h8 with rfl | rfl | rfl | rfl | rfl | rfl | rfl | rfl <;> decide +kernel
  rw [hd] at HI
  have hds : (digW (b : Int)).size = 1 := rfl
  have hr : txt (hdL E.S 17 (a : Int) (b : Int) 0) = (((⟨#[91]⟩ : ByteArray) ++ nmB E.S.C a) ++ ⟨#[46]⟩) ++ digW (b : Int) ++ ⟨#[93]⟩ := by
    show txt ([91] ++ (nmB E.S.C a).data.toList ++ [46] ++ (digW (b : Int)).data.toList ++ [93]) = (((txt [91] ++ nmB E.S.C a) ++ txt [46]) ++ digW (b : Int)) ++ txt [93]
    rw [← txt_app, ← txt_app, ← txt_app, ← txt_app, txt_data, txt_data]
  rw [hr]
  rw [hA0] at c2
  clear h hqn hx hA0 hr hd
  have h1 : (0 : Int) ≤ (a : Int) := by omega
  have h2 : (a : Int) < (E.S.C.length : Int) := by omega
  generalize digW (b : Int) = dg at *
  generalize nmB E.S.C a = nm at *
  generalize E.S.C.length = N at *
  simp only [ndV] at *
  go_enter Tryz.func84, Tryz.ntmps84
  go_wp2
  generalize (w.alloc (.cells #[.int .i64 17, .int .i64 (a : Int), .int .i64 (b : Int), .int .i64 0, .int .i64 x, .int .i64 y] 49)) = W at *
  go_quiet ((go_at_call 95; exact Calls.quiet_of_same (HI.out _)))
  all_goals
    go_wp2
    refine bodyPost_ret (v := .string ((((⟨#[91]⟩ : ByteArray) ++ nm) ++ ⟨#[46]⟩) ++ dg ++ ⟨#[93]⟩)) (by simp [results, Tryz.results84, go_sem]) rfl ?_
    exact ⟨rfl, hK0.drewN _⟩
theorem prhead_any (hE : E.Ok) (h : WSt E w bs lg) {op i e g : Int} (hx : usesX op = true) (hy : usesY op = false) (q : QS E.S op i e g) (x y : Int) : Calls Tryz.prog 84 #[E.ptr, ndV ⟨op, i, e, g, x, y⟩] w fun e' w' => e' = .returned (.string (txt (hdL E.S op i e g))) ∧ Keep NoF w w' := by
  have hA := (checkS_ok hE.chk).lA
  rcases un_cases hx hy q with ⟨ho, rfl, rfl, rfl⟩ | ⟨ho, rfl, rfl, a, rfl, ha⟩ | ⟨ho, rfl, rfl, n, rfl, h0, hn⟩ | ⟨rfl, rfl, a, b, rfl, rfl, ha, hb⟩
  · rcases ho with rfl | rfl | rfl
    · exact prhead_4 x y
    · exact prhead_18 x y
    · exact prhead_20 x y
  · rcases ho with rfl | rfl | rfl
    · exact prhead_9 hE h x y ha
    · exact prhead_10 hE h x y ha
    · exact prhead_15 hE h x y ha
  · have hn16 : n < 16 := Nat.lt_of_lt_of_le hn (Nat.pow_le_pow_right (n := 2) (by omega) hA)
    rcases ho with rfl | rfl
    · exact prhead_11 hE h x y hn16
    · exact prhead_12 hE h x y hn16
  · exact prhead_17 hE h x y ha hb
end
end Go.Proofs.YtbidfbojealmlaaGreatDoor
namespace Go.Proofs.YtbidfbojealmlaaGreatDoor
open Go.RowKit
open Fm (Nd own usesX usesY Rep)
open Fm.Form

def OpC (E : WE) (t : Fm.Form) : Prop := ∀ (k L : Nat) (w : World) (o : Option (List UInt8)), Rep t E.o k → L ≤ 5 → WS E w o → Calls Tryz.prog 28 #[E.ptr, .int .i64 (k : Int), .int .i64 (L : Int)] w fun e w' => e = .returned (.tuple #[]) ∧ WS E w' (putO o (parL (lvO (top t)) L (prL E.S t))) ∧ WK E w w'
def NdC (E : WE) (t : Fm.Form) : Prop := ∀ (n : Nd) (k : Nat) (w : World) (o : Option (List UInt8)), Rep t E.o k → E.o[k]? = some n → WS E w o → Calls Tryz.prog 53 #[E.ptr, ndV n] w fun e w' => e = .returned (.tuple #[]) ∧ WS E w' (putO o (prL E.S t)) ∧ WK E w w'
theorem OpC.five {E : WE} {t : Fm.Form} (h : OpC E t) {k : Nat} (hr : Rep t E.o k) {w : World} {o : Option (List UInt8)} (hw : WS E w o) : Calls Tryz.prog 28 #[E.ptr, .int .i64 (k : Int), .int .i64 5] w fun e w' => e = .returned (.tuple #[]) ∧ WS E w' (putO o (parL (lvO (top t)) 5 (prL E.S t))) ∧ WK E w w' := h k 5 w o hr (Nat.le_refl 5) hw
theorem OpC.zero {E : WE} {t : Fm.Form} (h : OpC E t) {k : Nat} (hr : Rep t E.o k) {w : World} {o : Option (List UInt8)} (hw : WS E w o) : Calls Tryz.prog 28 #[E.ptr, .int .i64 (k : Int), .int .i64 0] w fun e w' => e = .returned (.tuple #[]) ∧ WS E w' (putO o (prL E.S t)) ∧ WK E w w' := by
  have := h k 0 w o hr (by omega) hw
  rwa [show parL (lvO (top t)) 0 (prL E.S t) = prL E.S t by unfold parL; rw [if_pos (Nat.zero_le _)]] at this
theorem rep_top {t : Fm.Form} {o : List Nd} {k : Nat} (h : Rep t o k) : ∃ n, o[k]? = some n ∧ n.op = top t := by
  cases t with
  | leaf op i e g => exact ⟨_, h, rfl⟩
  | un op i e g x => obtain ⟨a, _, h2⟩ := h; exact ⟨_, h2, rfl⟩
  | bin op i e g x y => obtain ⟨a, b, _, _, h3⟩ := h; exact ⟨_, h3, rfl⟩
theorem lv_in {op : Int} (h : isIn op = false) : lvO op = 5 := by
  simp only [isIn, Bool.or_eq_false_iff, decide_eq_false_iff_not] at h
  unfold lvO
  rw [if_neg (by omega), if_neg (by omega), if_neg (by omega), if_neg (by omega), if_neg (by omega)]
theorem WS.kp {E : WE} {w : World} {o : Option (List UInt8)} (h : WS E w o) : Keep NoF E.w0 w := by obtain ⟨bs, _, hst⟩ := h.some_; exact hst.kp
theorem WS.lt {E : WE} {w : World} {o : Option (List UInt8)} (h : WS E w o) : E.b < w.heap.size := by obtain ⟨bs, _, hst⟩ := h.some_; exact hst.lt
theorem WS.c3 {E : WE} {w : World} {o : Option (List UInt8)} (h : WS E w o) : w.cell? ⟨E.b, 3, none⟩ = some (.slice E.A E.o.length E.c0) := by obtain ⟨bs, _, hst⟩ := h.some_; exact hst.cells.2.2.2.1
/-- What a load of a node wants. -/
structure NdF (E : WE) (n : Nd) (k bl off : Nat) (w : World) : Prop where
  lb : E.b < w.heap.size
  ln : bl < w.heap.size
  c3 : w.cell? ⟨E.b, 3, none⟩ = some (.slice (some ⟨bl, off, none⟩) E.o.length E.c0)
  x0 : w.cell? ⟨bl, off + k * 6, none⟩ = some (.int .i64 n.op)
  x1 : w.cell? ⟨bl, off + k * 6 + 1, none⟩ = some (.int .i64 n.i)
  x2 : w.cell? ⟨bl, off + k * 6 + 2, none⟩ = some (.int .i64 n.e)
  x3 : w.cell? ⟨bl, off + k * 6 + 3, none⟩ = some (.int .i64 n.g)
  x4 : w.cell? ⟨bl, off + k * 6 + 4, none⟩ = some (.int .i64 n.x)
  x5 : w.cell? ⟨bl, off + k * 6 + 5, none⟩ = some (.int .i64 n.y)
theorem ndF (E : WE) (hE : E.Ok) {n : Nd} {k : Nat} (hn : E.o[k]? = some n) : ∃ bl off, E.o.length ≤ E.c0 ∧ k < E.o.length ∧ bl < E.b ∧ ∀ w o, WS E w o → NdF E n k bl off w := by
  obtain ⟨bl, off, hA, _, hcap, x0, x1, x2, x3, x4, x5⟩ := hE.nodes.nd hn
  have hbl := World.block_lt_of_cell? E.w0 _ x0
  refine ⟨bl, off, hcap, (List.getElem?_eq_some_iff.1 hn).1, by have := hE.hb; show bl < E.b; exact Nat.lt_of_lt_of_le hbl this, fun w o h => ?_⟩
  have kp := h.kp
  have c3 := h.c3
  rw [hA] at c3
  exact ⟨h.lt, Nat.lt_of_lt_of_le hbl kp.size, c3, kp.cellv x0 fun h => h, kp.cellv x1 fun h => h, kp.cellv x2 fun h => h, kp.cellv x3 fun h => h, kp.cellv x4 fun h => h, kp.cellv x5 fun h => h⟩
section
set_option maxRecDepth 100000
set_option maxHeartbeats 4000000
variable {E : WE}
theorem operand_of (hE : E.Ok) (hF : FTab E.w0) {t : Fm.Form} (HN : NdC E t) : OpC E t := by
  intro k L w o hrep hL h
  cases o with
  | none =>
    obtain ⟨bs, hb, hst⟩ := h
    have c6 := hst.cells.2.2.2.2
    have HQ : Hid (WS E w none) := Lib.hid ⟨bs, hb, hst⟩
    clear hst
    go_enter Tryz.func28, Tryz.ntmps28
    go_wp2
    refine bodyPost_ret (v := .tuple #[]) (by simp [results, Tryz.results28, go_sem]) rfl ?_
    exact ⟨rfl, HQ.out, WK.refl _ _⟩
  | some bs =>
    obtain ⟨n, hn, htop⟩ := rep_top hrep
    obtain ⟨bl, off, hcap, hkl, hbb, hnf⟩ := ndF E hE hn
    have HNF := Lib.hid hnf
    have c6 := h.2.cells.2.2.2.2
    obtain ⟨lb, ln, c3, x0, x1, x2, x3, x4, x5⟩ := hnf w _ h
    have HFI := Lib.hid (prfind_any w (hF.keep0 h.kp) n.op)
    have HND := Lib.hid fun w1 o' (h' : WS E w1 o') => HN n k w1 o' hrep hn h'
    have HPL := Lib.hid fun w1 o' (h' : WS E w1 o') => put_any hE ⟨#[40]⟩ (by decide) h'
    have HPR := Lib.hid fun w1 o' (h' : WS E w1 o') => put_any hE ⟨#[41]⟩ (by decide) h'
    have HS := Lib.hid h
    have hk1 : (k : Int) < (E.o.length : Int) := by omega
    have hk0 : (0 : Int) ≤ (k : Int) := by omega
    have hbl1 : ¬ bl = E.b := by omega
    clear hnf h HN hF hrep hn
    rw [← htop]
    clear htop
    generalize prL E.S t = pt at *
    generalize (some bs : Option (List UInt8)) = ob at *
    obtain ⟨op, i, e0, g, x, y⟩ := n
    simp only at *
    obtain ⟨p0, p1, p2, p3, p4, hV, hl⟩ : ∃ (p0 : Int) (p1 : ByteArray) (p2 p3 p4 : Int), infV op = .agg #[.int .i64 p0, .string p1, .int .i64 p2, .int .i64 p3, .int .i64 p4] ∧ (isIn op = true → p2 = (lvO op : Int)) := by
      unfold infV
      cases isIn op with
      | true => exact ⟨_, _, _, _, _, rfl, fun _ => rfl⟩
      | false => exact ⟨_, _, _, _, _, rfl, fun h => by cases h⟩
    rw [hV] at HFI
    clear hV
    have hown : (if isIn op = true then p2 else 5) = (lvO op : Int) := by
      cases hb : isIn op with
      | true => rw [if_pos rfl]; exact hl hb
      | false => rw [if_neg (by simp), lv_in hb]; rfl
    clear hl
    unfold parL
    generalize lvO op = ow at *
    generalize isIn op = ii at *
    by_cases hle : L ≤ ow
    · rw [if_pos hle]
      cases ii
      · have hle2 : (L : Int) ≤ 5 := by omega
        go_enter Tryz.func28, Tryz.ntmps28
        go_wp2_with (first
          | (go_at_call 52; (with_reducible refine HFI.out.mono ?_); rintro e w1 ⟨rfl, K1⟩; obtain ⟨lb, ln, c3, x0, x1, x2, x3, x4, x5⟩ := HNF.out _ _ (HS.out.keep K1); have lb2 : ¬ E.b = w1.heap.size := (by omega); have ln2 : ¬ bl = w1.heap.size := (by omega); have H4 := Lib.hid (HND.out (w1.alloc (.cells #[.int .i64 p0, .string p1, .int .i64 p2, .int .i64 p3, .int .i64 p4] 80)) _ (HS.out.keep (K1.alloc _))))
          | (go_at_call 53; (with_reducible refine H4.out.mono ?_); rintro e w2 ⟨rfl, h2, k2⟩; have HW2 := Lib.hid h2; have HK2 := Lib.hid k2; clear h2 k2))
        refine bodyPost_ret (v := .tuple #[]) (by simp [results, Tryz.results28, go_sem]) rfl ?_
        exact ⟨rfl, HW2.out, (WK.of (K1.alloc _)).trans HK2.out⟩
      · obtain rfl : p2 = (ow : Int) := hown
        have hle2 : (L : Int) ≤ (ow : Int) := by omega
        go_enter Tryz.func28, Tryz.ntmps28
        go_wp2_with (first
          | (go_at_call 52; (with_reducible refine HFI.out.mono ?_); rintro e w1 ⟨rfl, K1⟩; obtain ⟨lb, ln, c3, x0, x1, x2, x3, x4, x5⟩ := HNF.out _ _ (HS.out.keep K1); have lb2 : ¬ E.b = w1.heap.size := (by omega); have ln2 : ¬ bl = w1.heap.size := (by omega); have H4 := Lib.hid (HND.out (w1.alloc (.cells #[.int .i64 p0, .string p1, .int .i64 (ow : Int), .int .i64 p3, .int .i64 p4] 80)) _ (HS.out.keep (K1.alloc _))))
          | (go_at_call 53; (with_reducible refine H4.out.mono ?_); rintro e w2 ⟨rfl, h2, k2⟩; have HW2 := Lib.hid h2; have HK2 := Lib.hid k2; clear h2 k2))
        refine bodyPost_ret (v := .tuple #[]) (by simp [results, Tryz.results28, go_sem]) rfl ?_
        exact ⟨rfl, HW2.out, (WK.of (K1.alloc _)).trans HK2.out⟩
    · rw [if_neg hle]
      have HPP : Hid (putO ob (40 :: (pt ++ [41])) = putO (putO (putO ob [40]) pt) [41]) := Lib.hid (by rw [putO_app, putO_app]; rfl)
      rw [HPP.out]
      clear HPP
      cases ii
      · have hle2 : ¬ (L : Int) ≤ 5 := by
          have e5 : (5 : Int) = (ow : Int) := hown
          omega
        omega
      · obtain rfl : p2 = (ow : Int) := hown
        have hle2 : ¬ (L : Int) ≤ (ow : Int) := by omega
        go_enter Tryz.func28, Tryz.ntmps28
        go_wp2_with (first
          | (go_at_call 52; (with_reducible refine HFI.out.mono ?_); rintro e w1 ⟨rfl, K1⟩; have H3 := Lib.hid (HPL.out (w1.alloc (.cells #[.int .i64 p0, .string p1, .int .i64 (ow : Int), .int .i64 p3, .int .i64 p4] 80)) _ (HS.out.keep (K1.alloc _))))
          | (go_at_call 54; (with_reducible refine H3.out.mono ?_); rintro e w3 ⟨rfl, h3, k3⟩; obtain ⟨lb, ln, c3, x0, x1, x2, x3, x4, x5⟩ := HNF.out _ _ h3; have H4 := Lib.hid (HND.out w3 _ h3); have HK3 := Lib.hid k3; clear h3 k3)
          | (go_at_call 53; (with_reducible refine H4.out.mono ?_); rintro e w2 ⟨rfl, h2, k2⟩; have H5 := Lib.hid (HPR.out w2 _ h2); have HK2 := Lib.hid k2; clear h2 k2)
          | (go_at_call 54; (with_reducible refine H5.out.mono ?_); rintro e w5 ⟨rfl, h5, k5⟩; have HW5 := Lib.hid h5; have HK5 := Lib.hid k5; clear h5 k5))
        refine bodyPost_end (v := .tuple #[]) (by simp [results, Tryz.results28, go_sem]) rfl ?_
        exact ⟨rfl, HW5.out, (((WK.of (K1.alloc _)).trans HK3.out).trans HK2.out).trans HK5.out⟩
/-- A box that the walk has made, kept. -/
theorem WK.box {E : WE} {w w' : World} {k : Nat} {cs : Array Value} (h : WK E w w') (hb : Bk w k 49 cs) (hk : k ≠ E.b) : Bk w' k 49 cs := h k _ cs hb (by decide) hk
theorem prcond_any (hE : E.Ok) {w : World} {ob : Option (List UInt8)} (h : WS E w ob) (hd : ByteArray) (hh : hd.size ≤ 1000) {x y : Fm.Form} {op i e0 g : Int} {kx ky : Nat} (hx : Rep x E.o kx) (hy : Rep y E.o ky) (HX : OpC E x) (HY : OpC E y) :
    Calls Tryz.prog 81 #[E.ptr, .string hd, ndV ⟨op, i, e0, g, (kx : Int), (ky : Int)⟩] w fun e w' => e = .returned (.tuple #[]) ∧ WS E w' (putO ob (hd.data.toList ++ (cdL x (prL E.S x) ++ ([93] ++ parL (lvO (top y)) 5 (prL E.S y))))) ∧ WK E w w' := by
  have hK0 : Keep NoF w (w.alloc (.cells #[.int .i64 op, .int .i64 i, .int .i64 e0, .int .i64 g, .int .i64 (kx : Int), .int .i64 (ky : Int)] 49)) := (Keep.refl _ _).alloc _
  have hqn := Bk.new w 49 #[.int .i64 op, .int .i64 i, .int .i64 e0, .int .i64 g, .int .i64 (kx : Int), .int .i64 (ky : Int)]
  have hne : w.heap.size ≠ E.b := by have := h.lt; omega
  have HB : Hid (∀ w1, WK E (w.alloc (.cells #[.int .i64 op, .int .i64 i, .int .i64 e0, .int .i64 g, .int .i64 (kx : Int), .int .i64 (ky : Int)] 49)) w1 → _) := Lib.hid fun w1 (hk : WK E (w.alloc (.cells #[.int .i64 op, .int .i64 i, .int .i64 e0, .int .i64 g, .int .i64 (kx : Int), .int .i64 (ky : Int)] 49)) w1) => hk.box hqn hne
  obtain ⟨n, hn, htop⟩ := rep_top hx
  obtain ⟨bl, off, hcap, hkl, hbb, hnf⟩ := ndF E hE hn
  have HNF := Lib.hid hnf
  have HP0 := Lib.hid (put_any hE hd (by omega) (h.keep hK0))
  have HP1 := Lib.hid fun w1 o' (h' : WS E w1 o') => put_any hE ⟨#[124]⟩ (by decide) h'
  have HP2 := Lib.hid fun w1 o' (h' : WS E w1 o') => put_any hE ⟨#[93]⟩ (by decide) h'
  have HOX := Lib.hid fun w1 o' (h' : WS E w1 o') => HX.zero hx h'
  have HOY := Lib.hid fun w1 o' (h' : WS E w1 o') => HY.five hy h'
  have hk1 : (kx : Int) < (E.o.length : Int) := by omega
  have hk0 : (0 : Int) ≤ (kx : Int) := by omega
  unfold cdL
  rw [← htop]
  clear h hnf HX HY hx hy hn htop hqn
  generalize prL E.S x = px at *
  generalize parL (lvO (top y)) 5 (prL E.S y) = py at *
  obtain ⟨nop, ni, ne, ng, nx, ny⟩ := n
  simp only [ndV] at *
  by_cases h1 : nop = 1
  · rw [if_pos h1]
    have hne1 : (nop != 1) = false := by simp [h1]
    have HPP : Hid (putO ob (hd.data.toList ++ ([] ++ ([93] ++ py))) = putO (putO (putO ob hd.data.toList) [93]) py) := Lib.hid (by rw [putO_app, putO_app]; simp)
    rw [HPP.out]
    subst h1
    clear HPP HOX HP1
    go_enter Tryz.func81, Tryz.ntmps81
    go_upto_region 2 with (first
      | (go_at_call 54; (with_reducible refine HP0.out.mono ?_); rintro e w1 ⟨rfl, h1, k1⟩; obtain ⟨lb, ln, c3, x0, x1, x2, x3, x4, x5⟩ := HNF.out _ _ h1; have hb := HB.out w1 k1; have q4 : w1.cell? ⟨w.heap.size, 4, none⟩ = some (.int .i64 (kx : Int)) := hb.cell 4; have q5 : w1.cell? ⟨w.heap.size, 5, none⟩ = some (.int .i64 (ky : Int)) := hb.cell 5; have HS1 := Lib.hid h1; have HK1 := Lib.hid k1; clear h1 k1 hb))
    go_quiet (fail)
    have H3 := Lib.hid fun m => HP2.out (w1.drewN m) _ (HS1.out.keep ((Keep.refl _ _).drewN m))
    go_wp2_with (first
      | (go_at_call 54; (with_reducible refine (H3.out _).mono ?_); rintro e w3 ⟨rfl, h3, k3⟩; have k13 := HK1.out.trans ((WK.of ((Keep.refl NoF _).drewN _)).trans k3); have hb := HB.out w3 k13; have q5 : w3.cell? ⟨w.heap.size, 5, none⟩ = some (.int .i64 (ky : Int)) := hb.cell 5; have H5 := Lib.hid (HOY.out w3 _ h3); have HK3 := Lib.hid k13; clear h3 k3 k13 hb)
      | (go_at_call 28; (with_reducible refine H5.out.mono ?_); rintro e w5 ⟨rfl, h5, k5⟩; have HW5 := Lib.hid h5; have HK5 := Lib.hid k5; clear h5 k5))
    refine bodyPost_end (v := .tuple #[]) (by simp [results, Tryz.results81, go_sem]) rfl ?_
    exact ⟨rfl, HW5.out, ((WK.of hK0).trans HK3.out).trans HK5.out⟩
  · rw [if_neg h1]
    have hne1 : (nop != 1) = true := by simpa using h1
    have HPP : Hid (putO ob (hd.data.toList ++ ((124 :: px) ++ ([93] ++ py))) = putO (putO (putO (putO (putO ob hd.data.toList) [124]) px) [93]) py) := Lib.hid (by rw [putO_app, putO_app, putO_app, putO_app]; simp)
    rw [HPP.out]
    clear HPP h1
    go_enter Tryz.func81, Tryz.ntmps81
    go_upto_region 2 with (first
      | (go_at_call 54; (with_reducible refine HP0.out.mono ?_); rintro e w1 ⟨rfl, h1, k1⟩; obtain ⟨lb, ln, c3, x0, x1, x2, x3, x4, x5⟩ := HNF.out _ _ h1; have hb := HB.out w1 k1; have q4 : w1.cell? ⟨w.heap.size, 4, none⟩ = some (.int .i64 (kx : Int)) := hb.cell 4; have q5 : w1.cell? ⟨w.heap.size, 5, none⟩ = some (.int .i64 (ky : Int)) := hb.cell 5; have HS1 := Lib.hid h1; have HK1 := Lib.hid k1; clear h1 k1 hb))
    go_quiet (fail)
    have H3 := Lib.hid fun m => HP1.out (w1.drewN m) _ (HS1.out.keep ((Keep.refl _ _).drewN m))
    go_wp2_with (first
      | (go_at_call 54; (with_reducible refine (H3.out _).mono ?_); rintro e w3 ⟨rfl, h3, k3⟩; have k13 := HK1.out.trans ((WK.of ((Keep.refl NoF _).drewN _)).trans k3); have hb := HB.out w3 k13; have q5 : w3.cell? ⟨w.heap.size, 4, none⟩ = some (.int .i64 (kx : Int)) := hb.cell 4; have H5 := Lib.hid (HOX.out w3 _ h3); have HK3 := Lib.hid k13; clear h3 k3 k13 hb)
      | (go_at_call 28; (with_reducible refine H5.out.mono ?_); rintro e w5 ⟨rfl, h5, k5⟩; have H6 := Lib.hid (HP2.out w5 _ h5); have HK5 := Lib.hid (HK3.out.trans k5); clear h5 k5)
      | (go_at_call 54; (with_reducible refine H6.out.mono ?_); rintro e w6 ⟨rfl, h6, k6⟩; have k16 := HK5.out.trans k6; have hb := HB.out w6 k16; have q6 : w6.cell? ⟨w.heap.size, 5, none⟩ = some (.int .i64 (ky : Int)) := hb.cell 5; have H7 := Lib.hid (HOY.out w6 _ h6); have HK6 := Lib.hid k16; clear h6 k6 k16 hb)
      | (go_at_call 28; (with_reducible refine H7.out.mono ?_); rintro e w7 ⟨rfl, h7, k7⟩; have HW7 := Lib.hid h7; have HK7 := Lib.hid k7; clear h7 k7))
    refine bodyPost_end (v := .tuple #[]) (by simp [results, Tryz.results81, go_sem]) rfl ?_
    exact ⟨rfl, HW7.out, ((WK.of hK0).trans HK6.out).trans HK7.out⟩
end
end Go.Proofs.YtbidfbojealmlaaGreatDoor
namespace Go.Proofs.YtbidfbojealmlaaGreatDoor
open Go.RowKit
open Fm (Nd own usesX usesY Rep)
open Fm.Form

section
set_option maxRecDepth 100000
set_option maxHeartbeats 4000000
variable {E : WE} {w : World} {ob : Option (List UInt8)}
theorem inf_no {op : Int} (h : isIn op = false) : infV op = .agg #[.int .i64 0, .string ⟨#[]⟩, .int .i64 0, .int .i64 0, .int .i64 0] := by unfold infV; rw [h]; rfl
theorem node_in (hE : E.Ok) (hF : FTab E.w0) (h : WS E w ob) {x y : Fm.Form} {op : Int} (hin : isIn op = true) {kx ky : Nat} (hx : Rep x E.o kx) (hy : Rep y E.o ky) (HX : OpC E x) (HY : OpC E y) :
    Calls Tryz.prog 53 #[E.ptr, ndV ⟨op, 0, 0, 0, (kx : Int), (ky : Int)⟩] w fun e w' => e = .returned (.tuple #[]) ∧ WS E w' (putO ob (parL (lvO (top x)) (ltO op) (prL E.S x) ++ (sgL op ++ parL (lvO (top y)) (rtO op) (prL E.S y)))) ∧ WK E w w' := by
  have hK0 : Keep NoF w (w.alloc (.cells #[.int .i64 op, .int .i64 0, .int .i64 0, .int .i64 0, .int .i64 (kx : Int), .int .i64 (ky : Int)] 49)) := (Keep.refl _ _).alloc _
  have hqn := Bk.new w 49 #[.int .i64 op, .int .i64 0, .int .i64 0, .int .i64 0, .int .i64 (kx : Int), .int .i64 (ky : Int)]
  have hlt := h.lt
  have hne : w.heap.size ≠ E.b := by omega
  have HFI := Lib.hid (prfind_any (w.alloc (.cells #[.int .i64 op, .int .i64 0, .int .i64 0, .int .i64 0, .int .i64 (kx : Int), .int .i64 (ky : Int)] 49)) (hF.keep0 (h.keep hK0).kp) op)
  have hV : infV op = .agg #[.int .i64 op, .string (txt (sgL op)), .int .i64 (lvO op : Int), .int .i64 (ltO op : Int), .int .i64 (rtO op : Int)] := by unfold infV; rw [hin]; rfl
  rw [hin, hV] at HFI
  have hl5 : ltO op ≤ 5 := by unfold ltO; repeat' split
                              all_goals omega
  have hr5 : rtO op ≤ 5 := by unfold rtO; repeat' split
                              all_goals omega
  have HOX := Lib.hid fun w1 o' (h' : WS E w1 o') => HX kx (ltO op) w1 o' hx hl5 h'
  have HOY := Lib.hid fun w1 o' (h' : WS E w1 o') => HY ky (rtO op) w1 o' hy hr5 h'
  have hsz : (txt (sgL op)).size ≤ 1000000 := by
    rw [txt_size]
    unfold sgL
    repeat' split
    all_goals decide
  have HPS := Lib.hid fun w1 o' (h' : WS E w1 o') => put_any hE (txt (sgL op)) hsz h'
  have HPP : Hid (putO ob (parL (lvO (top x)) (ltO op) (prL E.S x) ++ (sgL op ++ parL (lvO (top y)) (rtO op) (prL E.S y))) = putO (putO (putO ob (parL (lvO (top x)) (ltO op) (prL E.S x))) (txt (sgL op)).data.toList) (parL (lvO (top y)) (rtO op) (prL E.S y))) := Lib.hid (by rw [putO_app, putO_app, data_txt])
  have HS := Lib.hid h
  rw [HPP.out]
  clear HPP hV hin HX HY hx hy hl5 hr5 hF hsz h
  generalize txt (sgL op) = sg at *
  generalize parL (lvO (top x)) (ltO op) (prL E.S x) = px at *
  generalize parL (lvO (top y)) (rtO op) (prL E.S y) = py at *
  generalize ltO op = lt at *
  generalize rtO op = rt at *
  generalize lvO op = lv at *
  simp only [ndV] at *
  go_enter Tryz.func53, Tryz.ntmps53
  go_wp2_with (first
    | (go_at_call 52
       (with_reducible refine HFI.out.mono ?_)
       rintro e w1 ⟨rfl, K1⟩
       have hz1 := K1.size
       have hb3 := (hqn.keep K1 fun h => h).alloc (.cells #[.int .i64 op, .string sg, .int .i64 (lv : Int), .int .i64 (lt : Int), .int .i64 (rt : Int)] 80)
       have hb4 := Bk.new w1 80 #[.int .i64 op, .string sg, .int .i64 (lv : Int), .int .i64 (lt : Int), .int .i64 (rt : Int)]
       have KW : Keep NoF w (w1.alloc (.cells #[.int .i64 op, .string sg, .int .i64 (lv : Int), .int .i64 (lt : Int), .int .i64 (rt : Int)] 80)) := (hK0.trans K1 fun _ _ h => h).alloc _
       have q4 : (w1.alloc (.cells #[.int .i64 op, .string sg, .int .i64 (lv : Int), .int .i64 (lt : Int), .int .i64 (rt : Int)] 80)).cell? ⟨w.heap.size, 4, none⟩ = some (.int .i64 (kx : Int)) := hb3.cell 4
       have r3 : (w1.alloc (.cells #[.int .i64 op, .string sg, .int .i64 (lv : Int), .int .i64 (lt : Int), .int .i64 (rt : Int)] 80)).cell? ⟨w1.heap.size, 3, none⟩ = some (.int .i64 (lt : Int)) := hb4.cell 3
       have hl1 : w.heap.size < w1.heap.size := (by have := hqn.lt; omega)
       have hn4 : w1.heap.size ≠ E.b := (by omega)
       have q4' : w1.cell? ⟨w.heap.size, 4, none⟩ = some (.int .i64 (kx : Int)) := (hqn.keep K1 fun h => h).cell 4
       have l2 : ¬ w.heap.size = w1.heap.size := (by omega)
       have H2 := Lib.hid (HOX.out _ _ (HS.out.keep KW)))
    | (go_at_call 28
       (with_reducible refine H2.out.mono ?_)
       rintro e w2 ⟨rfl, h2, k2⟩
       have hc3 := k2 _ _ _ hb3 (by decide) hne
       have hc4 := k2 _ _ _ hb4 (by decide) hn4
       have s1 : w2.cell? ⟨w1.heap.size, 1, none⟩ = some (.string sg) := hc4.cell 1
       have H3 := Lib.hid (HPS.out w2 _ h2)
       have HK2 := Lib.hid k2
       clear H2 h2 k2 hb3 hb4)
    | (go_at_call 54
       (with_reducible refine H3.out.mono ?_)
       rintro e w3 ⟨rfl, h3, k3⟩
       have hd3 := k3 _ _ _ hc3 (by decide) hne
       have hd4 := k3 _ _ _ hc4 (by decide) hn4
       have t5 : w3.cell? ⟨w.heap.size, 5, none⟩ = some (.int .i64 (ky : Int)) := hd3.cell 5
       have u4 : w3.cell? ⟨w1.heap.size, 4, none⟩ = some (.int .i64 (rt : Int)) := hd4.cell 4
       have H4 := Lib.hid (HOY.out w3 _ h3)
       have HK3 := Lib.hid (HK2.out.trans k3)
       clear h3 k3 hc3 hc4 hd3 hd4)
    | (go_at_call 28; (with_reducible refine H4.out.mono ?_); rintro e w4 ⟨rfl, h4, k4⟩; have HW4 := Lib.hid h4; have HK4 := Lib.hid k4; clear h4 k4))
  refine bodyPost_ret (v := .tuple #[]) (by simp [results, Tryz.results53, go_sem]) rfl ?_
  exact ⟨rfl, HW4.out, ((WK.of KW).trans HK3.out).trans HK4.out⟩
theorem node_1 (hE : E.Ok) (hF : FTab E.w0) (h : WS E w ob) : Calls Tryz.prog 53 #[E.ptr, ndV ⟨1, 0, 0, 0, 0, 0⟩] w fun e w' => e = .returned (.tuple #[]) ∧ WS E w' (putO ob (prL E.S (leaf 1 0 0 0))) ∧ WK E w w' := by
  have hK0 : Keep NoF w (w.alloc (.cells #[.int .i64 1, .int .i64 0, .int .i64 0, .int .i64 0, .int .i64 0, .int .i64 0] 49)) := (Keep.refl _ _).alloc _
  have hqn := Bk.new w 49 #[.int .i64 1, .int .i64 0, .int .i64 0, .int .i64 0, .int .i64 0, .int .i64 0]
  have HFI := Lib.hid (prfind_any (w.alloc (.cells #[.int .i64 1, .int .i64 0, .int .i64 0, .int .i64 0, .int .i64 0, .int .i64 0] 49)) (hF.keep0 (h.keep hK0).kp) 1)
  rw [show isIn 1 = false from rfl, inf_no (show isIn 1 = false from rfl)] at HFI
  have HPS := Lib.hid fun w1 o' (h' : WS E w1 o') => put_any hE ⟨#[116, 114, 117, 101]⟩ (by decide) h'
  have HS := Lib.hid h
  have hr : prL E.S (leaf 1 0 0 0) = (⟨#[116, 114, 117, 101]⟩ : ByteArray).data.toList := rfl
  rw [hr]
  clear hF h hr
  simp only [ndV] at *
  go_enter Tryz.func53, Tryz.ntmps53
  go_wp2_with (first
    | (go_at_call 52
       (with_reducible refine HFI.out.mono ?_)
       rintro e w1 ⟨rfl, K1⟩
       have hz1 := K1.size
       have hl1 : w.heap.size < w1.heap.size := (by have := hqn.lt; omega)
       have l2 : ¬ w.heap.size = w1.heap.size := (by omega)
       have q0' : w1.cell? ⟨w.heap.size, 0, none⟩ = some (.int .i64 1) := (hqn.keep K1 fun h => h).cell 0
       have KW : Keep NoF w (w1.alloc (.cells #[.int .i64 0, .string ⟨#[]⟩, .int .i64 0, .int .i64 0, .int .i64 0] 80)) := (hK0.trans K1 fun _ _ h => h).alloc _
       have H2 := Lib.hid (HPS.out _ _ (HS.out.keep KW)))
    | (go_at_call 54; (with_reducible refine H2.out.mono ?_); rintro e w4 ⟨rfl, h4, k4⟩; have HW4 := Lib.hid h4; have HK4 := Lib.hid k4; clear h4 k4))
  refine bodyPost_end (v := .tuple #[]) (by simp [results, Tryz.results53, go_sem]) rfl ?_
  exact ⟨rfl, HW4.out, (WK.of KW).trans HK4.out⟩
theorem node_2 (hE : E.Ok) (hF : FTab E.w0) (h : WS E w ob) : Calls Tryz.prog 53 #[E.ptr, ndV ⟨2, 0, 0, 0, 0, 0⟩] w fun e w' => e = .returned (.tuple #[]) ∧ WS E w' (putO ob (prL E.S (leaf 2 0 0 0))) ∧ WK E w w' := by
  have hK0 : Keep NoF w (w.alloc (.cells #[.int .i64 2, .int .i64 0, .int .i64 0, .int .i64 0, .int .i64 0, .int .i64 0] 49)) := (Keep.refl _ _).alloc _
  have hqn := Bk.new w 49 #[.int .i64 2, .int .i64 0, .int .i64 0, .int .i64 0, .int .i64 0, .int .i64 0]
  have HFI := Lib.hid (prfind_any (w.alloc (.cells #[.int .i64 2, .int .i64 0, .int .i64 0, .int .i64 0, .int .i64 0, .int .i64 0] 49)) (hF.keep0 (h.keep hK0).kp) 2)
  rw [show isIn 2 = false from rfl, inf_no (show isIn 2 = false from rfl)] at HFI
  have HPS := Lib.hid fun w1 o' (h' : WS E w1 o') => put_any hE ⟨#[102, 97, 108, 115, 101]⟩ (by decide) h'
  have HS := Lib.hid h
  have hr : prL E.S (leaf 2 0 0 0) = (⟨#[102, 97, 108, 115, 101]⟩ : ByteArray).data.toList := rfl
  rw [hr]
  clear hF h hr
  simp only [ndV] at *
  go_enter Tryz.func53, Tryz.ntmps53
  go_wp2_with (first
    | (go_at_call 52
       (with_reducible refine HFI.out.mono ?_)
       rintro e w1 ⟨rfl, K1⟩
       have hz1 := K1.size
       have hl1 : w.heap.size < w1.heap.size := (by have := hqn.lt; omega)
       have l2 : ¬ w.heap.size = w1.heap.size := (by omega)
       have q0' : w1.cell? ⟨w.heap.size, 0, none⟩ = some (.int .i64 2) := (hqn.keep K1 fun h => h).cell 0
       have KW : Keep NoF w (w1.alloc (.cells #[.int .i64 0, .string ⟨#[]⟩, .int .i64 0, .int .i64 0, .int .i64 0] 80)) := (hK0.trans K1 fun _ _ h => h).alloc _
       have H2 := Lib.hid (HPS.out _ _ (HS.out.keep KW)))
    | (go_at_call 54; (with_reducible refine H2.out.mono ?_); rintro e w4 ⟨rfl, h4, k4⟩; have HW4 := Lib.hid h4; have HK4 := Lib.hid k4; clear h4 k4))
  refine bodyPost_end (v := .tuple #[]) (by simp [results, Tryz.results53, go_sem]) rfl ?_
  exact ⟨rfl, HW4.out, (WK.of KW).trans HK4.out⟩
theorem joinC_36 {S : Sg} (hS : checkS S = 0) (n : Nat) : (joinC (sel n S.A 0)).size ≤ 36 := by
  have h1 := joinC_size (sel n S.A 0) fun x hx => (name_size ((checkS_ok hS).name x (by have := sel_sub n S.A 0 x hx; simp [Sg.all, this])).1).2
  have h2 := sel_len n S.A 0
  have := (checkS_ok hS).lA
  omega
theorem nm_8 {S : Sg} (hS : checkS S = 0) {l : List ByteArray} (hs : ∀ x ∈ l, x ∈ S.all) {a : Nat} (ha : a < l.length) : (nmB l a).data.toList.length ≤ 8 := by
  rw [data_len]
  exact (name_size (all_name hS (hs _ (nm_mem ha))).name).2
theorem hd_len {S : Sg} (hS : checkS S = 0) {op i e g : Int} (hx : usesX op = true) (hy : usesY op = false) (q : QS S op i e g) : (hdL S op i e g).length ≤ 100 := by
  have br : ∀ (p m : List UInt8), p.length = 2 → m.length ≤ 40 → (p ++ m ++ [93]).length ≤ 100 := fun p m h1 h2 => by
    rw [List.length_append, List.length_append, h1]
    show 2 + m.length + 1 ≤ 100
    omega
  rcases un_cases hx hy q with ⟨ho, rfl, rfl, rfl⟩ | ⟨ho, rfl, rfl, a, rfl, ha⟩ | ⟨ho, rfl, rfl, n, rfl, h0, hn⟩ | ⟨rfl, rfl, a, b, rfl, rfl, ha, hb⟩
  · rcases ho with rfl | rfl | rfl
    · exact (by decide : ([126] : List UInt8).length ≤ 100)
    · exact (by decide : ([110, 101, 120, 116, 32] : List UInt8).length ≤ 100)
    · exact (by decide : ([112, 114, 101, 118, 32] : List UInt8).length ≤ 100)
  · have := nm_8 hS subA ha
    rcases ho with rfl | rfl | rfl
    · exact br [75, 91] _ rfl (by omega)
    · exact br [77, 91] _ rfl (by omega)
    · exact br [83, 91] _ rfl (by omega)
  · have h36 := joinC_36 hS n
    rw [← data_len] at h36
    rcases ho with rfl | rfl
    · exact br [69, 91] (grL S n) rfl (Nat.le_trans h36 (by omega))
    · exact br [68, 91] (grL S n) rfl (Nat.le_trans h36 (by omega))
  · have := nm_8 hS subC ha
    show ([91] ++ (nmB S.C a).data.toList ++ [46] ++ (digW (b : Int)).data.toList ++ [93]).length ≤ 100
    rw [List.length_append, List.length_append, List.length_append, List.length_append]
    show 1 + (nmB S.C a).data.toList.length + 1 + 1 + 1 ≤ 100
    omega
theorem node_un (hE : E.Ok) (hF : FTab E.w0) (h : WS E w ob) {x : Fm.Form} {op i e0 g : Int} (hux : usesX op = true) (huy : usesY op = false) (hq : QS E.S op i e0 g) {kx : Nat} (hx : Rep x E.o kx) (HX : OpC E x) :
    Calls Tryz.prog 53 #[E.ptr, ndV ⟨op, i, e0, g, (kx : Int), 0⟩] w fun e w' => e = .returned (.tuple #[]) ∧ WS E w' (putO ob (hdL E.S op i e0 g ++ parL (lvO (top x)) 5 (prL E.S x))) ∧ WK E w w' := by
  have hK0 : Keep NoF w (w.alloc (.cells #[.int .i64 op, .int .i64 i, .int .i64 e0, .int .i64 g, .int .i64 (kx : Int), .int .i64 0] 49)) := (Keep.refl _ _).alloc _
  have hqn := Bk.new w 49 #[.int .i64 op, .int .i64 i, .int .i64 e0, .int .i64 g, .int .i64 (kx : Int), .int .i64 0]
  have hlt := h.lt
  have hne : w.heap.size ≠ E.b := by omega
  have hops : op = 4 ∨ op = 9 ∨ op = 10 ∨ op = 11 ∨ op = 12 ∨ op = 15 ∨ op = 17 ∨ op = 18 ∨ op = 20 := by
    rcases un_cases hux huy hq with ⟨ho, _⟩ | ⟨ho, _⟩ | ⟨ho, _⟩ | ⟨ho, _⟩ <;> omega
  have hin : isIn op = false := by rcases hops with rfl | rfl | rfl | rfl | rfl | rfl | rfl | rfl | rfl <;> rfl
  have HFI := Lib.hid (prfind_any (w.alloc (.cells #[.int .i64 op, .int .i64 i, .int .i64 e0, .int .i64 g, .int .i64 (kx : Int), .int .i64 0] 49)) (hF.keep0 (h.keep hK0).kp) op)
  rw [hin, inf_no hin] at HFI
  have z1 : (op == 1) = false := beq_eq_false_iff_ne.2 (by omega)
  have z2 : (op == 2) = false := beq_eq_false_iff_ne.2 (by omega)
  have z3 : (op == 3) = false := beq_eq_false_iff_ne.2 (by omega)
  have z13 : (op == 13) = false := beq_eq_false_iff_ne.2 (by omega)
  have z14 : (op == 14) = false := beq_eq_false_iff_ne.2 (by omega)
  have z16 : (op == 16) = false := beq_eq_false_iff_ne.2 (by omega)
  have HHD := Lib.hid fun w1 o' (h' : WS E w1 o') => prhead_any hE (h'.some_.choose_spec.2) hux huy hq (kx : Int) 0
  have hsz : (txt (hdL E.S op i e0 g)).size ≤ 1000000 := by
    rw [txt_size]
    have := hd_len hE.chk hux huy hq
    omega
  have HPS := Lib.hid fun w1 o' (h' : WS E w1 o') => put_any hE (txt (hdL E.S op i e0 g)) hsz h'
  have HOX := Lib.hid fun w1 o' (h' : WS E w1 o') => HX.five hx h'
  have HPP : Hid (putO ob (hdL E.S op i e0 g ++ parL (lvO (top x)) 5 (prL E.S x)) = putO (putO ob (txt (hdL E.S op i e0 g)).data.toList) (parL (lvO (top x)) 5 (prL E.S x))) := Lib.hid (by rw [putO_app, data_txt])
  have HS := Lib.hid h
  rw [HPP.out]
  clear HPP hin HX hx hF hsz h hops hux huy hq
  generalize txt (hdL E.S op i e0 g) = hd at *
  generalize parL (lvO (top x)) 5 (prL E.S x) = px at *
  simp only [ndV] at *
  go_enter Tryz.func53, Tryz.ntmps53
  go_wp2_with (first
    | (go_at_call 52
       (with_reducible refine HFI.out.mono ?_)
       rintro e w1 ⟨rfl, K1⟩
       have hz1 := K1.size
       have hl1 : w.heap.size < w1.heap.size := (by have := hqn.lt; omega)
       have l2 : ¬ w.heap.size = w1.heap.size := (by omega)
       have hb1 := hqn.keep K1 fun h => h
       have hb3 := hb1.alloc (.cells #[.int .i64 0, .string ⟨#[]⟩, .int .i64 0, .int .i64 0, .int .i64 0] 80)
       have q0' : w1.cell? ⟨w.heap.size, 0, none⟩ = some (.int .i64 op) := hb1.cell 0
       have q0 : (w1.alloc (.cells #[.int .i64 0, .string ⟨#[]⟩, .int .i64 0, .int .i64 0, .int .i64 0] 80)).cell? ⟨w.heap.size, 0, none⟩ = some (.int .i64 op) := hb3.cell 0
       have q1' : w1.cell? ⟨w.heap.size, 1, none⟩ = some (.int .i64 i) := hb1.cell 1
       have q1 : (w1.alloc (.cells #[.int .i64 0, .string ⟨#[]⟩, .int .i64 0, .int .i64 0, .int .i64 0] 80)).cell? ⟨w.heap.size, 1, none⟩ = some (.int .i64 i) := hb3.cell 1
       have q2' : w1.cell? ⟨w.heap.size, 2, none⟩ = some (.int .i64 e0) := hb1.cell 2
       have q2 : (w1.alloc (.cells #[.int .i64 0, .string ⟨#[]⟩, .int .i64 0, .int .i64 0, .int .i64 0] 80)).cell? ⟨w.heap.size, 2, none⟩ = some (.int .i64 e0) := hb3.cell 2
       have q3' : w1.cell? ⟨w.heap.size, 3, none⟩ = some (.int .i64 g) := hb1.cell 3
       have q3 : (w1.alloc (.cells #[.int .i64 0, .string ⟨#[]⟩, .int .i64 0, .int .i64 0, .int .i64 0] 80)).cell? ⟨w.heap.size, 3, none⟩ = some (.int .i64 g) := hb3.cell 3
       have q4' : w1.cell? ⟨w.heap.size, 4, none⟩ = some (.int .i64 (kx : Int)) := hb1.cell 4
       have q4 : (w1.alloc (.cells #[.int .i64 0, .string ⟨#[]⟩, .int .i64 0, .int .i64 0, .int .i64 0] 80)).cell? ⟨w.heap.size, 4, none⟩ = some (.int .i64 (kx : Int)) := hb3.cell 4
       have q5' : w1.cell? ⟨w.heap.size, 5, none⟩ = some (.int .i64 0) := hb1.cell 5
       have q5 : (w1.alloc (.cells #[.int .i64 0, .string ⟨#[]⟩, .int .i64 0, .int .i64 0, .int .i64 0] 80)).cell? ⟨w.heap.size, 5, none⟩ = some (.int .i64 0) := hb3.cell 5
       have KW : Keep NoF w (w1.alloc (.cells #[.int .i64 0, .string ⟨#[]⟩, .int .i64 0, .int .i64 0, .int .i64 0] 80)) := (hK0.trans K1 fun _ _ h => h).alloc _
       have H2 := Lib.hid (HHD.out (w1.alloc (.cells #[.int .i64 0, .string ⟨#[]⟩, .int .i64 0, .int .i64 0, .int .i64 0] 80)) _ (HS.out.keep KW)))
    | (go_at_call 84
       (with_reducible refine H2.out.mono ?_)
       rintro e w2 ⟨rfl, K2⟩
       have H3 := Lib.hid (HPS.out w2 _ (HS.out.keep (KW.trans K2 fun _ _ h => h)))
       have hb5 := hb3.keep K2 fun h => h)
    | (go_at_call 54
       (with_reducible refine H3.out.mono ?_)
       rintro e w3 ⟨rfl, h3, k3⟩
       have hd3 := k3 _ _ _ hb5 (by decide) hne
       have t4 : w3.cell? ⟨w.heap.size, 4, none⟩ = some (.int .i64 (kx : Int)) := hd3.cell 4
       have H4 := Lib.hid (HOX.out w3 _ h3)
       have HK3 := Lib.hid k3
       clear h3 k3 hd3)
    | (go_at_call 28; (with_reducible refine H4.out.mono ?_); rintro e w4 ⟨rfl, h4, k4⟩; have HW4 := Lib.hid h4; have HK4 := Lib.hid k4; clear h4 k4))
  refine bodyPost_end (v := .tuple #[]) (by simp [results, Tryz.results53, go_sem]) rfl ?_
  exact ⟨rfl, HW4.out, ((WK.of (KW.trans K2 fun _ _ h => h)).trans HK3.out).trans HK4.out⟩
theorem node_16 (hE : E.Ok) (hF : FTab E.w0) (h : WS E w ob) {x y : Fm.Form} {kx ky : Nat} (hx : Rep x E.o kx) (hy : Rep y E.o ky) (HX : OpC E x) (HY : OpC E y) :
    Calls Tryz.prog 53 #[E.ptr, ndV ⟨16, 0, 0, 0, (kx : Int), (ky : Int)⟩] w fun e w' => e = .returned (.tuple #[]) ∧ WS E w' (putO ob ([91, 33] ++ (prL E.S x ++ ([93] ++ parL (lvO (top y)) 5 (prL E.S y))))) ∧ WK E w w' := by
  have hK0 : Keep NoF w (w.alloc (.cells #[.int .i64 16, .int .i64 0, .int .i64 0, .int .i64 0, .int .i64 (kx : Int), .int .i64 (ky : Int)] 49)) := (Keep.refl _ _).alloc _
  have hqn := Bk.new w 49 #[.int .i64 16, .int .i64 0, .int .i64 0, .int .i64 0, .int .i64 (kx : Int), .int .i64 (ky : Int)]
  have hlt := h.lt
  have hne : w.heap.size ≠ E.b := by omega
  have HFI := Lib.hid (prfind_any (w.alloc (.cells #[.int .i64 16, .int .i64 0, .int .i64 0, .int .i64 0, .int .i64 (kx : Int), .int .i64 (ky : Int)] 49)) (hF.keep0 (h.keep hK0).kp) 16)
  rw [show isIn 16 = false from rfl, inf_no (show isIn 16 = false from rfl)] at HFI
  have HP1 := Lib.hid fun w1 o' (h' : WS E w1 o') => put_any hE ⟨#[91, 33]⟩ (by decide) h'
  have HP2 := Lib.hid fun w1 o' (h' : WS E w1 o') => put_any hE ⟨#[93]⟩ (by decide) h'
  have HOX := Lib.hid fun w1 o' (h' : WS E w1 o') => HX.zero hx h'
  have HOY := Lib.hid fun w1 o' (h' : WS E w1 o') => HY.five hy h'
  have HPP : Hid (putO ob ([91, 33] ++ (prL E.S x ++ ([93] ++ parL (lvO (top y)) 5 (prL E.S y)))) = putO (putO (putO (putO ob [91, 33]) (prL E.S x)) [93]) (parL (lvO (top y)) 5 (prL E.S y))) := Lib.hid (by rw [putO_app, putO_app, putO_app])
  have HS := Lib.hid h
  rw [HPP.out]
  clear HPP HX HY hx hy hF h
  generalize prL E.S x = px at *
  generalize parL (lvO (top y)) 5 (prL E.S y) = py at *
  simp only [ndV] at *
  go_enter Tryz.func53, Tryz.ntmps53
  go_wp2_with (first
    | (go_at_call 52
       (with_reducible refine HFI.out.mono ?_)
       rintro e w1 ⟨rfl, K1⟩
       have hz1 := K1.size
       have hl1 : w.heap.size < w1.heap.size := (by have := hqn.lt; omega)
       have l2 : ¬ w.heap.size = w1.heap.size := (by omega)
       have hb1 := hqn.keep K1 fun h => h
       have hb3 := hb1.alloc (.cells #[.int .i64 0, .string ⟨#[]⟩, .int .i64 0, .int .i64 0, .int .i64 0] 80)
       have q0' : w1.cell? ⟨w.heap.size, 0, none⟩ = some (.int .i64 16) := hb1.cell 0
       have q0 : (w1.alloc (.cells #[.int .i64 0, .string ⟨#[]⟩, .int .i64 0, .int .i64 0, .int .i64 0] 80)).cell? ⟨w.heap.size, 0, none⟩ = some (.int .i64 16) := hb3.cell 0
       have q4' : w1.cell? ⟨w.heap.size, 4, none⟩ = some (.int .i64 (kx : Int)) := hb1.cell 4
       have q4 : (w1.alloc (.cells #[.int .i64 0, .string ⟨#[]⟩, .int .i64 0, .int .i64 0, .int .i64 0] 80)).cell? ⟨w.heap.size, 4, none⟩ = some (.int .i64 (kx : Int)) := hb3.cell 4
       have q5' : w1.cell? ⟨w.heap.size, 5, none⟩ = some (.int .i64 (ky : Int)) := hb1.cell 5
       have q5 : (w1.alloc (.cells #[.int .i64 0, .string ⟨#[]⟩, .int .i64 0, .int .i64 0, .int .i64 0] 80)).cell? ⟨w.heap.size, 5, none⟩ = some (.int .i64 (ky : Int)) := hb3.cell 5
       have KW : Keep NoF w (w1.alloc (.cells #[.int .i64 0, .string ⟨#[]⟩, .int .i64 0, .int .i64 0, .int .i64 0] 80)) := (hK0.trans K1 fun _ _ h => h).alloc _
       have H2 := Lib.hid (HP1.out (w1.alloc (.cells #[.int .i64 0, .string ⟨#[]⟩, .int .i64 0, .int .i64 0, .int .i64 0] 80)) _ (HS.out.keep KW)))
    | (go_at_call 54
       (with_reducible refine H2.out.mono ?_)
       rintro e w3 ⟨rfl, h3, k3⟩
       have hd3 := k3 _ _ _ hb3 (by decide) hne
       have t4 : w3.cell? ⟨w.heap.size, 4, none⟩ = some (.int .i64 (kx : Int)) := hd3.cell 4
       have H4 := Lib.hid (HOX.out w3 _ h3)
       have HK3 := Lib.hid k3
       clear h3 k3 H2)
    | (go_at_call 28
       (with_reducible refine H4.out.mono ?_)
       rintro e w4 ⟨rfl, h4, k4⟩
       have hd4 := k4 _ _ _ hd3 (by decide) hne
       have H5 := Lib.hid (HP2.out w4 _ h4)
       have HK4 := Lib.hid k4
       clear h4 k4 H4)
    | (go_at_call 54
       (with_reducible refine H5.out.mono ?_)
       rintro e w5 ⟨rfl, h5, k5⟩
       have hd5 := k5 _ _ _ hd4 (by decide) hne
       have t5 : w5.cell? ⟨w.heap.size, 5, none⟩ = some (.int .i64 (ky : Int)) := hd5.cell 5
       have H6 := Lib.hid (HOY.out w5 _ h5)
       have HK5 := Lib.hid k5
       clear h5 k5)
    | (go_at_call 28; (with_reducible refine H6.out.mono ?_); rintro e w6 ⟨rfl, h6, k6⟩; have HW6 := Lib.hid h6; have HK6 := Lib.hid k6; clear h6 k6))
  refine bodyPost_end (v := .tuple #[]) (by simp [results, Tryz.results53, go_sem]) rfl ?_
  exact ⟨rfl, HW6.out, ((((WK.of KW).trans HK3.out).trans HK4.out).trans HK5.out).trans HK6.out⟩
theorem node_3 (hE : E.Ok) (hF : FTab E.w0) (h : WS E w ob) {a : Nat} (ha : a < E.S.F.length) :
    Calls Tryz.prog 53 #[E.ptr, ndV ⟨3, (a : Int), 0, 0, 0, 0⟩] w fun e w' => e = .returned (.tuple #[]) ∧ WS E w' (putO ob (nmB E.S.F a).data.toList) ∧ WK E w w' := by
  have hK0 : Keep NoF w (w.alloc (.cells #[.int .i64 3, .int .i64 (a : Int), .int .i64 0, .int .i64 0, .int .i64 0, .int .i64 0] 49)) := (Keep.refl _ _).alloc _
  have hqn := Bk.new w 49 #[.int .i64 3, .int .i64 (a : Int), .int .i64 0, .int .i64 0, .int .i64 0, .int .i64 0]
  have hlt := h.lt
  have hne : w.heap.size ≠ E.b := by omega
  have HFI := Lib.hid (prfind_any (w.alloc (.cells #[.int .i64 3, .int .i64 (a : Int), .int .i64 0, .int .i64 0, .int .i64 0, .int .i64 0] 49)) (hF.keep0 (h.keep hK0).kp) 3)
  rw [show isIn 3 = false from rfl, inf_no (show isIn 3 = false from rfl)] at HFI
  have hsz := (name_size (all_name hE.chk (subF _ (nm_mem ha))).name).2
  have HP1 := Lib.hid fun w1 o' (h' : WS E w1 o') => put_any hE (nmB E.S.F a) (by omega) h'
  obtain ⟨-, hcc, bl, off, hA0, hc⟩ := hE.sig.F.str (nm_at ha)
  have hbl := World.block_lt_of_cell? E.w0 _ hc
  have HCF : Hid (∀ w1 o', WS E w1 o' → w1.cell? ⟨E.b, 1, none⟩ = some (.slice (some ⟨bl, off, none⟩) E.S.F.length E.cf) ∧ w1.cell? ⟨bl, off + a, none⟩ = some (.string (nmB E.S.F a)) ∧ E.b < w1.heap.size ∧ bl < w1.heap.size) := Lib.hid fun w1 o' h' => by
    obtain ⟨bs, _, hst⟩ := h'.some_
    have c1 := hst.cells.2.1
    rw [hA0] at c1
    exact ⟨c1, h'.kp.cellv hc fun h => h, h'.lt, Nat.lt_of_lt_of_le hbl h'.kp.size⟩
  have g1 : (0 : Int) ≤ (a : Int) := by omega
  have g2 : (a : Int) < (E.S.F.length : Int) := by omega
  have HS := Lib.hid h
  clear h hF hA0 hc
  generalize nmB E.S.F a = nm at *
  simp only [ndV] at *
  go_enter Tryz.func53, Tryz.ntmps53
  go_upto_region 14 with (first
    | (go_at_call 52
       (with_reducible refine HFI.out.mono ?_)
       rintro e w1 ⟨rfl, K1⟩
       have hz1 := K1.size
       have hl1 : w.heap.size < w1.heap.size := (by have := hqn.lt; omega)
       have l2 : ¬ w.heap.size = w1.heap.size := (by omega)
       have hb1 := hqn.keep K1 fun h => h
       have hb3 := hb1.alloc (.cells #[.int .i64 0, .string ⟨#[]⟩, .int .i64 0, .int .i64 0, .int .i64 0] 80)
       have q0' : w1.cell? ⟨w.heap.size, 0, none⟩ = some (.int .i64 3) := hb1.cell 0
       have q0 : (w1.alloc (.cells #[.int .i64 0, .string ⟨#[]⟩, .int .i64 0, .int .i64 0, .int .i64 0] 80)).cell? ⟨w.heap.size, 0, none⟩ = some (.int .i64 3) := hb3.cell 0
       have q1' : w1.cell? ⟨w.heap.size, 1, none⟩ = some (.int .i64 (a : Int)) := hb1.cell 1
       have q1 : (w1.alloc (.cells #[.int .i64 0, .string ⟨#[]⟩, .int .i64 0, .int .i64 0, .int .i64 0] 80)).cell? ⟨w.heap.size, 1, none⟩ = some (.int .i64 (a : Int)) := hb3.cell 1
       have KW : Keep NoF w (w1.alloc (.cells #[.int .i64 0, .string ⟨#[]⟩, .int .i64 0, .int .i64 0, .int .i64 0] 80)) := (hK0.trans K1 fun _ _ h => h).alloc _
       obtain ⟨f1, f2, f3, f4⟩ := HCF.out _ _ (HS.out.keep KW)
       obtain ⟨f1', f2', f3', f4'⟩ := HCF.out _ _ (HS.out.keep (hK0.trans K1 fun _ _ h => h))
       have H2 := Lib.hid fun m => HP1.out ((w1.alloc (.cells #[.int .i64 0, .string ⟨#[]⟩, .int .i64 0, .int .i64 0, .int .i64 0] 80)).drewN m) _ ((HS.out.keep KW).keep ((Keep.refl _ _).drewN m))
       have H2d := Lib.hid (HP1.out (w1.alloc (.cells #[.int .i64 0, .string ⟨#[]⟩, .int .i64 0, .int .i64 0, .int .i64 0] 80)).drew _ ((HS.out.keep KW).keep (Keep.refl _ _).drew)))
    | fail)
  go_region_with (first
    | (go_at_call 54
       (first | (with_reducible refine (H2.out _).mono ?_) | (with_reducible refine H2d.out.mono ?_))
       rintro e w4 ⟨rfl, h4, k4⟩
       have HW4 := Lib.hid h4
       have HK4 : Hid (WK E (w1.alloc (.cells #[.int .i64 0, .string ⟨#[]⟩, .int .i64 0, .int .i64 0, .int .i64 0] 80)) w4) := Lib.hid (by first | exact (WK.of ((Keep.refl NoF _).drewN _)).trans k4 | exact (WK.of (Keep.refl NoF _).drew).trans k4)
       clear h4 k4))
  all_goals
    go_wp2
    refine bodyPost_end (v := .tuple #[]) (by simp [results, Tryz.results53, go_sem]) rfl ?_
    exact ⟨rfl, HW4.out, (WK.of KW).trans HK4.out⟩
theorem node_13 (hE : E.Ok) (hF : FTab E.w0) (h : WS E w ob) {x y : Fm.Form} {n : Nat} (hn : n < 16) {kx ky : Nat} (hx : Rep x E.o kx) (hy : Rep y E.o ky) (HX : OpC E x) (HY : OpC E y) :
    Calls Tryz.prog 53 #[E.ptr, ndV ⟨13, 0, 0, (n : Int), (kx : Int), (ky : Int)⟩] w fun e w' => e = .returned (.tuple #[]) ∧ WS E w' (putO ob (cnL E.S 13 0 (n : Int) ++ (cdL x (prL E.S x) ++ ([93] ++ parL (lvO (top y)) 5 (prL E.S y))))) ∧ WK E w w' := by
  have hK0 : Keep NoF w (w.alloc (.cells #[.int .i64 13, .int .i64 0, .int .i64 0, .int .i64 (n : Int), .int .i64 (kx : Int), .int .i64 (ky : Int)] 49)) := (Keep.refl _ _).alloc _
  have hqn := Bk.new w 49 #[.int .i64 13, .int .i64 0, .int .i64 0, .int .i64 (n : Int), .int .i64 (kx : Int), .int .i64 (ky : Int)]
  have hlt := h.lt
  have hne : w.heap.size ≠ E.b := by omega
  have HFI := Lib.hid (prfind_any (w.alloc (.cells #[.int .i64 13, .int .i64 0, .int .i64 0, .int .i64 (n : Int), .int .i64 (kx : Int), .int .i64 (ky : Int)] 49)) (hF.keep0 (h.keep hK0).kp) 13)
  rw [show isIn 13 = false from rfl, inf_no (show isIn 13 = false from rfl)] at HFI
  have hsz := joinC_36 hE.chk n
  have hs2 : ((⟨#[67, 91]⟩ : ByteArray) ++ joinC (sel n E.S.A 0)).size ≤ 40 := by
    rw [ByteArray.size_append]
    show 2 + (joinC (sel n E.S.A 0)).size ≤ 40
    omega
  have hrr : ((⟨#[67, 91]⟩ : ByteArray) ++ joinC (sel n E.S.A 0)).data.toList = cnL E.S 13 0 (n : Int) := by
    show (txt [67, 91] ++ joinC (sel n E.S.A 0)).data.toList = [67, 91] ++ (joinC (sel n E.S.A 0)).data.toList
    rw [← txt_data (joinC (sel n E.S.A 0)), txt_app, data_txt, data_txt]
  have HCN := Lib.hid fun w1 o' (h' : WS E w1 o') => prnames_any hE h'.some_.choose_spec.2 n hn
  have HCD := Lib.hid fun w1 o' (h' : WS E w1 o') => prcond_any hE h' ((⟨#[67, 91]⟩ : ByteArray) ++ joinC (sel n E.S.A 0)) (by omega) (op := 13) (i := 0) (e0 := 0) (g := (n : Int)) hx hy HX HY
  rw [hrr] at HCD
  have HS := Lib.hid h
  clear h hF HX HY hx hy hrr
  generalize cdL x (prL E.S x) ++ ([93] ++ parL (lvO (top y)) 5 (prL E.S y)) = py at *
  generalize cnL E.S 13 0 (n : Int) = cn at *
  generalize joinC (sel n E.S.A 0) = r at *
  simp only [ndV] at *
  go_enter Tryz.func53, Tryz.ntmps53
  go_upto_region 16 with (first
    | (go_at_call 52
       (with_reducible refine HFI.out.mono ?_)
       rintro e w1 ⟨rfl, K1⟩
       have hz1 := K1.size
       have hl1 : w.heap.size < w1.heap.size := (by have := hqn.lt; omega)
       have l2 : ¬ w.heap.size = w1.heap.size := (by omega)
       have hb1 := hqn.keep K1 fun h => h
       have hb3 := hb1.alloc (.cells #[.int .i64 0, .string ⟨#[]⟩, .int .i64 0, .int .i64 0, .int .i64 0] 80)
       have q0' : w1.cell? ⟨w.heap.size, 0, none⟩ = some (.int .i64 13) := hb1.cell 0
       have q0 : (w1.alloc (.cells #[.int .i64 0, .string ⟨#[]⟩, .int .i64 0, .int .i64 0, .int .i64 0] 80)).cell? ⟨w.heap.size, 0, none⟩ = some (.int .i64 13) := hb3.cell 0
       have q1' : w1.cell? ⟨w.heap.size, 1, none⟩ = some (.int .i64 0) := hb1.cell 1
       have q1 : (w1.alloc (.cells #[.int .i64 0, .string ⟨#[]⟩, .int .i64 0, .int .i64 0, .int .i64 0] 80)).cell? ⟨w.heap.size, 1, none⟩ = some (.int .i64 0) := hb3.cell 1
       have q2' : w1.cell? ⟨w.heap.size, 2, none⟩ = some (.int .i64 0) := hb1.cell 2
       have q2 : (w1.alloc (.cells #[.int .i64 0, .string ⟨#[]⟩, .int .i64 0, .int .i64 0, .int .i64 0] 80)).cell? ⟨w.heap.size, 2, none⟩ = some (.int .i64 0) := hb3.cell 2
       have q3' : w1.cell? ⟨w.heap.size, 3, none⟩ = some (.int .i64 (n : Int)) := hb1.cell 3
       have q3 : (w1.alloc (.cells #[.int .i64 0, .string ⟨#[]⟩, .int .i64 0, .int .i64 0, .int .i64 0] 80)).cell? ⟨w.heap.size, 3, none⟩ = some (.int .i64 (n : Int)) := hb3.cell 3
       have q4' : w1.cell? ⟨w.heap.size, 4, none⟩ = some (.int .i64 (kx : Int)) := hb1.cell 4
       have q4 : (w1.alloc (.cells #[.int .i64 0, .string ⟨#[]⟩, .int .i64 0, .int .i64 0, .int .i64 0] 80)).cell? ⟨w.heap.size, 4, none⟩ = some (.int .i64 (kx : Int)) := hb3.cell 4
       have q5' : w1.cell? ⟨w.heap.size, 5, none⟩ = some (.int .i64 (ky : Int)) := hb1.cell 5
       have q5 : (w1.alloc (.cells #[.int .i64 0, .string ⟨#[]⟩, .int .i64 0, .int .i64 0, .int .i64 0] 80)).cell? ⟨w.heap.size, 5, none⟩ = some (.int .i64 (ky : Int)) := hb3.cell 5
       have KW : Keep NoF w (w1.alloc (.cells #[.int .i64 0, .string ⟨#[]⟩, .int .i64 0, .int .i64 0, .int .i64 0] 80)) := (hK0.trans K1 fun _ _ h => h).alloc _
       have H2 := Lib.hid fun m => HCN.out ((w1.alloc (.cells #[.int .i64 0, .string ⟨#[]⟩, .int .i64 0, .int .i64 0, .int .i64 0] 80)).drewN m) _ ((HS.out.keep KW).keep ((Keep.refl _ _).drewN m))
       have H2d := Lib.hid (HCN.out (w1.alloc (.cells #[.int .i64 0, .string ⟨#[]⟩, .int .i64 0, .int .i64 0, .int .i64 0] 80)).drew _ ((HS.out.keep KW).keep (Keep.refl _ _).drew)))
    | fail)
  go_region_with (first
    | (go_at_call 82
       (first | (with_reducible refine (H2.out _).mono ?_) | (with_reducible refine H2d.out.mono ?_))
       rintro e w2 ⟨rfl, K2⟩
       have K2' : Keep NoF (w1.alloc (.cells #[.int .i64 0, .string ⟨#[]⟩, .int .i64 0, .int .i64 0, .int .i64 0] 80)) w2 := by first | exact ((Keep.refl NoF _).drewN _).trans K2 fun _ _ h => h | exact ((Keep.refl NoF _).drew).trans K2 fun _ _ h => h
       have hb5 := hb3.keep K2' fun h => h
       have p0 : w2.cell? ⟨w.heap.size, 0, none⟩ = some (.int .i64 13) := hb5.cell 0
       have p1 : w2.cell? ⟨w.heap.size, 1, none⟩ = some (.int .i64 0) := hb5.cell 1
       have p2 : w2.cell? ⟨w.heap.size, 2, none⟩ = some (.int .i64 0) := hb5.cell 2
       have p3 : w2.cell? ⟨w.heap.size, 3, none⟩ = some (.int .i64 (n : Int)) := hb5.cell 3
       have p4 : w2.cell? ⟨w.heap.size, 4, none⟩ = some (.int .i64 (kx : Int)) := hb5.cell 4
       have p5 : w2.cell? ⟨w.heap.size, 5, none⟩ = some (.int .i64 (ky : Int)) := hb5.cell 5
       have H3 := Lib.hid (HCD.out w2 _ (HS.out.keep (KW.trans K2' fun _ _ h => h)))
       clear hb5 K2)
    | (go_at_call 81
       (with_reducible refine H3.out.mono ?_)
       rintro e w4 ⟨rfl, h4, k4⟩
       have HW4 := Lib.hid h4
       have HK4 := Lib.hid k4
       clear h4 k4))
  all_goals
    go_wp2
    refine bodyPost_end (v := .tuple #[]) (by simp [results, Tryz.results53, go_sem]) rfl ?_
    exact ⟨rfl, HW4.out, (WK.of (KW.trans K2' fun _ _ h => h)).trans HK4.out⟩
theorem node_14 (hE : E.Ok) (hF : FTab E.w0) (h : WS E w ob) {x y : Fm.Form} {a : Nat} (ha : a < E.S.A.length) {kx ky : Nat} (hx : Rep x E.o kx) (hy : Rep y E.o ky) (HX : OpC E x) (HY : OpC E y) :
    Calls Tryz.prog 53 #[E.ptr, ndV ⟨14, (a : Int), 0, 0, (kx : Int), (ky : Int)⟩] w fun e w' => e = .returned (.tuple #[]) ∧ WS E w' (putO ob (cnL E.S 14 (a : Int) 0 ++ (cdL x (prL E.S x) ++ ([93] ++ parL (lvO (top y)) 5 (prL E.S y))))) ∧ WK E w w' := by
  have hK0 : Keep NoF w (w.alloc (.cells #[.int .i64 14, .int .i64 (a : Int), .int .i64 0, .int .i64 0, .int .i64 (kx : Int), .int .i64 (ky : Int)] 49)) := (Keep.refl _ _).alloc _
  have hqn := Bk.new w 49 #[.int .i64 14, .int .i64 (a : Int), .int .i64 0, .int .i64 0, .int .i64 (kx : Int), .int .i64 (ky : Int)]
  have hlt := h.lt
  have hne : w.heap.size ≠ E.b := by omega
  have HFI := Lib.hid (prfind_any (w.alloc (.cells #[.int .i64 14, .int .i64 (a : Int), .int .i64 0, .int .i64 0, .int .i64 (kx : Int), .int .i64 (ky : Int)] 49)) (hF.keep0 (h.keep hK0).kp) 14)
  rw [show isIn 14 = false from rfl, inf_no (show isIn 14 = false from rfl)] at HFI
  have hsz := nm_8 hE.chk subA ha
  have hs2 : (((⟨#[66]⟩ : ByteArray) ++ ⟨#[91]⟩) ++ nmB E.S.A a).size ≤ 40 := by
    rw [data_len] at hsz
    rw [ByteArray.size_append, ByteArray.size_append]
    show 1 + 1 + (nmB E.S.A a).size ≤ 40
    omega
  have hrr : (((⟨#[66]⟩ : ByteArray) ++ ⟨#[91]⟩) ++ nmB E.S.A a).data.toList = cnL E.S 14 (a : Int) 0 := by
    show ((txt [66] ++ txt [91]) ++ nmB E.S.A a).data.toList = [66, 91] ++ (nmB E.S.A a).data.toList
    rw [← txt_data (nmB E.S.A a), txt_app, txt_app, data_txt, data_txt]
    rfl
  have HCN := Lib.hid fun w1 o' (h' : WS E w1 o') => pragent_any hE h'.some_.choose_spec.2 ⟨#[66]⟩ rfl ⟨14, (a : Int), 0, 0, (kx : Int), (ky : Int)⟩ rfl ha
  have HCD := Lib.hid fun w1 o' (h' : WS E w1 o') => prcond_any hE h' (((⟨#[66]⟩ : ByteArray) ++ ⟨#[91]⟩) ++ nmB E.S.A a) (by omega) (op := 14) (i := (a : Int)) (e0 := 0) (g := 0) hx hy HX HY
  rw [hrr] at HCD
  have HS := Lib.hid h
  clear h hF HX HY hx hy hrr
  generalize cdL x (prL E.S x) ++ ([93] ++ parL (lvO (top y)) 5 (prL E.S y)) = py at *
  generalize cnL E.S 14 (a : Int) 0 = cn at *
  generalize ((⟨#[66]⟩ : ByteArray) ++ ⟨#[91]⟩) ++ nmB E.S.A a = r at *
  simp only [ndV] at *
  go_enter Tryz.func53, Tryz.ntmps53
  go_upto_region 18 with (first
    | (go_at_call 52
       (with_reducible refine HFI.out.mono ?_)
       rintro e w1 ⟨rfl, K1⟩
       have hz1 := K1.size
       have hl1 : w.heap.size < w1.heap.size := (by have := hqn.lt; omega)
       have l2 : ¬ w.heap.size = w1.heap.size := (by omega)
       have hb1 := hqn.keep K1 fun h => h
       have hb3 := hb1.alloc (.cells #[.int .i64 0, .string ⟨#[]⟩, .int .i64 0, .int .i64 0, .int .i64 0] 80)
       have q0' : w1.cell? ⟨w.heap.size, 0, none⟩ = some (.int .i64 14) := hb1.cell 0
       have q0 : (w1.alloc (.cells #[.int .i64 0, .string ⟨#[]⟩, .int .i64 0, .int .i64 0, .int .i64 0] 80)).cell? ⟨w.heap.size, 0, none⟩ = some (.int .i64 14) := hb3.cell 0
       have q1' : w1.cell? ⟨w.heap.size, 1, none⟩ = some (.int .i64 (a : Int)) := hb1.cell 1
       have q1 : (w1.alloc (.cells #[.int .i64 0, .string ⟨#[]⟩, .int .i64 0, .int .i64 0, .int .i64 0] 80)).cell? ⟨w.heap.size, 1, none⟩ = some (.int .i64 (a : Int)) := hb3.cell 1
       have q2' : w1.cell? ⟨w.heap.size, 2, none⟩ = some (.int .i64 0) := hb1.cell 2
       have q2 : (w1.alloc (.cells #[.int .i64 0, .string ⟨#[]⟩, .int .i64 0, .int .i64 0, .int .i64 0] 80)).cell? ⟨w.heap.size, 2, none⟩ = some (.int .i64 0) := hb3.cell 2
       have q3' : w1.cell? ⟨w.heap.size, 3, none⟩ = some (.int .i64 0) := hb1.cell 3
       have q3 : (w1.alloc (.cells #[.int .i64 0, .string ⟨#[]⟩, .int .i64 0, .int .i64 0, .int .i64 0] 80)).cell? ⟨w.heap.size, 3, none⟩ = some (.int .i64 0) := hb3.cell 3
       have q4' : w1.cell? ⟨w.heap.size, 4, none⟩ = some (.int .i64 (kx : Int)) := hb1.cell 4
       have q4 : (w1.alloc (.cells #[.int .i64 0, .string ⟨#[]⟩, .int .i64 0, .int .i64 0, .int .i64 0] 80)).cell? ⟨w.heap.size, 4, none⟩ = some (.int .i64 (kx : Int)) := hb3.cell 4
       have q5' : w1.cell? ⟨w.heap.size, 5, none⟩ = some (.int .i64 (ky : Int)) := hb1.cell 5
       have q5 : (w1.alloc (.cells #[.int .i64 0, .string ⟨#[]⟩, .int .i64 0, .int .i64 0, .int .i64 0] 80)).cell? ⟨w.heap.size, 5, none⟩ = some (.int .i64 (ky : Int)) := hb3.cell 5
       have KW : Keep NoF w (w1.alloc (.cells #[.int .i64 0, .string ⟨#[]⟩, .int .i64 0, .int .i64 0, .int .i64 0] 80)) := (hK0.trans K1 fun _ _ h => h).alloc _
       have H2 := Lib.hid fun m => HCN.out ((w1.alloc (.cells #[.int .i64 0, .string ⟨#[]⟩, .int .i64 0, .int .i64 0, .int .i64 0] 80)).drewN m) _ ((HS.out.keep KW).keep ((Keep.refl _ _).drewN m))
       have H2d := Lib.hid (HCN.out (w1.alloc (.cells #[.int .i64 0, .string ⟨#[]⟩, .int .i64 0, .int .i64 0, .int .i64 0] 80)).drew _ ((HS.out.keep KW).keep (Keep.refl _ _).drew)))
    | fail)
  go_region_with (first
    | (go_at_call 83
       (first | (with_reducible refine (H2.out _).mono ?_) | (with_reducible refine H2d.out.mono ?_))
       rintro e w2 ⟨rfl, K2⟩
       have K2' : Keep NoF (w1.alloc (.cells #[.int .i64 0, .string ⟨#[]⟩, .int .i64 0, .int .i64 0, .int .i64 0] 80)) w2 := by first | exact ((Keep.refl NoF _).drewN _).trans K2 fun _ _ h => h | exact ((Keep.refl NoF _).drew).trans K2 fun _ _ h => h
       have hb5 := hb3.keep K2' fun h => h
       have p0 : w2.cell? ⟨w.heap.size, 0, none⟩ = some (.int .i64 14) := hb5.cell 0
       have p1 : w2.cell? ⟨w.heap.size, 1, none⟩ = some (.int .i64 (a : Int)) := hb5.cell 1
       have p2 : w2.cell? ⟨w.heap.size, 2, none⟩ = some (.int .i64 0) := hb5.cell 2
       have p3 : w2.cell? ⟨w.heap.size, 3, none⟩ = some (.int .i64 0) := hb5.cell 3
       have p4 : w2.cell? ⟨w.heap.size, 4, none⟩ = some (.int .i64 (kx : Int)) := hb5.cell 4
       have p5 : w2.cell? ⟨w.heap.size, 5, none⟩ = some (.int .i64 (ky : Int)) := hb5.cell 5
       have H3 := Lib.hid (HCD.out w2 _ (HS.out.keep (KW.trans K2' fun _ _ h => h)))
       clear hb5 K2)
    | (go_at_call 81
       (with_reducible refine H3.out.mono ?_)
       rintro e w4 ⟨rfl, h4, k4⟩
       have HW4 := Lib.hid h4
       have HK4 := Lib.hid k4
       clear h4 k4))
  all_goals
    go_wp2
    refine bodyPost_end (v := .tuple #[]) (by simp [results, Tryz.results53, go_sem]) rfl ?_
    exact ⟨rfl, HW4.out, (WK.of (KW.trans K2' fun _ _ h => h)).trans HK4.out⟩
end
end Go.Proofs.YtbidfbojealmlaaGreatDoor
