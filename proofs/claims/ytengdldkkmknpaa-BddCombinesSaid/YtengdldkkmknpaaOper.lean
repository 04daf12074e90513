/- What the function operate does, for any operation. No condition. -/
import Derived.Test.YtengdldkkmknpaaOps
set_option linter.unusedVariables false
set_option linter.unusedSimpArgs false
namespace Go.Proofs.Ytengdldkkmknpaa
open Go.RowKit
open Dd (Rn rat ofN toN checkErr MemoOk den canon)

/-- A diagram that comes in. -/
structure Dg where
  V : Int
  R : List Rn
  root : Int
  sl : Value
def Dg.cells (d : Dg) : List Value := [.int .i64 d.V, d.sl, .int .i64 d.root]
def Dg.err (d : Dg) : Int := checkErr d.V d.R d.root
def Dg.fn (d : Dg) : BF := den (toN d.R) d.root.toNat
def Dg.In (d : Dg) (w : World) : Prop := Rd w d.sl 3 d.R.length (rnsC d.R) ∧ d.R.length ≤ 1000000000000
def dgErr : List Dg → Int
  | [] => 0
  | d :: l => if d.err ≠ 0 then d.err else dgErr l
def opErr (V : Int) (l : List Dg) : Int := if dgErr l ≠ 0 then dgErr l else if l.all (fun d => decide (d.V = V)) then 0 else 3

theorem dgErr_stop {d : Dg} (h : d.err ≠ 0) : ∀ (k : Nat) (l : List Dg), l[k]? = some d → dgErr (l.take k) = 0 → dgErr l = d.err := by
  intro k
  induction k with
  | zero => intro l hl _; cases l with
    | nil => simp at hl
    | cons a l => simp at hl; subst hl; simp [dgErr, h]
  | succ k ih => intro l hl h0; cases l with
    | nil => simp at hl
    | cons a l =>
      simp only [List.getElem?_cons_succ] at hl
      simp only [List.take_succ_cons, dgErr] at h0 ⊢
      by_cases ha : a.err ≠ 0
      · rw [if_pos ha] at h0; exact (ha h0).elim
      · rw [if_neg ha] at h0 ⊢; exact ih l hl h0
theorem dgErr_go {d : Dg} (h : d.err = 0) : ∀ (k : Nat) (l : List Dg), l[k]? = some d → dgErr (l.take k) = 0 → dgErr (l.take (k + 1)) = 0 := by
  intro k
  induction k with
  | zero => intro l hl _; cases l with
    | nil => simp at hl
    | cons a l => simp at hl; subst hl; simp [dgErr, h]
  | succ k ih => intro l hl h0; cases l with
    | nil => simp at hl
    | cons a l =>
      simp only [List.getElem?_cons_succ] at hl
      rw [List.take_succ_cons] at h0 ⊢
      simp only [dgErr] at h0 ⊢
      by_cases ha : a.err ≠ 0
      · rw [if_pos ha] at h0; exact (ha h0).elim
      · rw [if_neg ha] at h0 ⊢; exact ih l hl h0
theorem dgErr_zero {l : List Dg} (h : dgErr l = 0) {k : Nat} {d : Dg} (hk : l[k]? = some d) : d.err = 0 := by
  induction l generalizing k with
  | nil => simp at hk
  | cons a l ih =>
    simp only [dgErr] at h
    by_cases ha : a.err ≠ 0
    · rw [if_pos ha] at h; exact (ha h).elim
    · rw [if_neg ha] at h
      cases k with
      | zero => simp at hk; subst hk; simpa using ha
      | succ k => exact ih h (by simpa using hk)
theorem dgs_at (l : List Dg) (i : Nat) (d : Dg) (h : l[i]? = some d) : (l.flatMap Dg.cells)[i * 3]? = some (.int .i64 d.V) ∧ (l.flatMap Dg.cells)[i * 3 + 1]? = some d.sl ∧ (l.flatMap Dg.cells)[i * 3 + 2]? = some (.int .i64 d.root) := by
  induction l generalizing i with
  | nil => simp at h
  | cons m l ih =>
    cases i with
    | zero =>
      simp at h
      subst h
      simp [Dg.cells]
    | succ i =>
      have := ih i (by simpa using h)
      have e : ∀ j, ((m :: l).flatMap Dg.cells)[(i + 1) * 3 + j]? = (l.flatMap Dg.cells)[i * 3 + j]? := fun j => by
        simp only [List.flatMap_cons]
        rw [List.getElem?_append_right (by simp [Dg.cells]; omega)]
        congr 1
        simp [Dg.cells]; omega
      have e0 := e 0
      simp only [Nat.add_zero] at e0
      rw [e0, e, e]
      exact this

/-- What an operation on diagrams hands back. -/
def OpPost (w : World) (V : Int) (ds : List Dg) (σ : List BF → BF) (e : Ending) (w' : World) : Prop :=
  (opErr V ds ≠ 0 → e = .returned (.tuple #[dgZero, .int .i64 (opErr V ds)])) ∧
  (opErr V ds = 0 → ∃ N t, Dd.Good N ∧ t < N.length + 2 ∧ (∀ ρ, den N t ρ = σ (ds.map Dg.fn) ρ) ∧ DgRes w.heap.size V (canon N t) e w') ∧ Keep NoF w w'

/-- The same as DgRes, in one piece. -/
def DgOut (H : Nat) (V : Int) (c : Nat × List Nd) (V' r' err : Int) (A : Option Addr) (n cc : Nat) (w' : World) : Prop :=
  DgRes H V c (.returned (.tuple #[.agg #[.int .i64 V', .slice A n cc, .int .i64 r'], .int .i64 err])) w'
theorem DgRes.out {H : Nat} {V : Int} {c : Nat × List Nd} {e : Ending} {w' : World} (h : DgRes H V c e w') : ∃ V' r' err A n cc, e = .returned (.tuple #[.agg #[.int .i64 V', .slice A n cc, .int .i64 r'], .int .i64 err]) ∧ DgOut H V c V' r' err A n cc w' := by
  rcases h with ⟨h1, rfl⟩ | ⟨h1, sl, rfl, h2, h3⟩
  · exact ⟨_, _, _, _, _, _, rfl, .inl ⟨h1, rfl⟩⟩
  · obtain ⟨hx, A, cc, rfl, hc, hh⟩ := h2
    exact ⟨_, _, _, _, _, _, rfl, .inr ⟨h1, _, rfl, ⟨hx, A, cc, rfl, hc, hh⟩, h3⟩⟩
theorem DgRes.move {H H' : Nat} {V : Int} {c : Nat × List Nd} {e : Ending} {w1 w' : World} (h : DgRes H V c e w1) (hH : H' ≤ H) (hk : ∀ k, H ≤ k → w'.heap[k]? = w1.heap[k]?) : DgRes H' V c e w' := by
  rcases h with ⟨h1, rfl⟩ | ⟨h1, sl, rfl, h2, h3⟩
  · exact .inl ⟨h1, rfl⟩
  · exact .inr ⟨h1, sl, rfl, h2.keep fun k hs _ => hk k (h3 k hs), fun k hs => Nat.le_trans hH (h3 k hs)⟩

/-- The head of operate's second loop. -/
def OpLoop (b rc : Nat) (V : Int) (ds : List Dg) (W0 : World) (k : Nat) (xv : Value) (wr : World) : Prop :=
  k ≤ ds.length ∧ ∃ (N : List Nd) (F' : Nat → Prop) (ts : List Nat), ts.length = k ∧ Sto wr b N (fun _ => none) F' ∧ Dd.Good N ∧ N.length ≤ k * 4096 ∧ wr.ownsRow W0.heap.size 3 1 xv k (ts.map inV) ∧ Keep NoF W0 wr ∧
    (∀ x, F' x → W0.heap.size ≤ x) ∧ (∀ t ∈ ts, t < N.length + 2) ∧ ts.map (den N) = (ds.take k).map Dg.fn ∧ ((ds.take k).all (fun d => decide (d.V = V)) = true) ∧ (∀ x, xv.ownBlock = some x → ¬ F' x)

set_option maxRecDepth 100000 in
set_option maxHeartbeats 2000000 in
theorem operate_any (f : Nat) (cap : Array Value) (σ : List BF → BF) (w : World) (V : Int) (ds : List Dg) (lv : Value) (hcf : ∀ args w', (callFunc f args).run Try.prog w' = .ok (.enter f args) w') (hop : OpSem w f cap ds.length σ) (hV : ∃ d0, ds[0]? = some d0 ∧ d0.V = V) (hn : ds.length ≤ 3)
    (hrd : Rd w lv 3 ds.length (ds.flatMap Dg.cells)) (hin : ∀ (i : Nat) d, ds[i]? = some d → d.In w) :
    Calls Try.prog 62 #[.func (.func f) #[] cap, lv] w (OpPost w V ds σ) := by
  have HOP := Lib.hid hop
  have HIN := Lib.hid hin
  have HRD := Lib.hid hrd
  clear hop hin
  obtain ⟨d0, h0, hV0⟩ := hV
  have hpos : 0 < ds.length := by cases ds with | nil => simp at h0 | cons _ _ => simp
  obtain ⟨_, A, c, rfl, hc, hy⟩ := hrd
  obtain ⟨lb, lo, rfl, hcell⟩ := hy hpos
  have hlb : lb < w.heap.size := HRD.out.blk_lt hpos (by omega) lb rfl
  have v0 : w.cell? ⟨lb, lo, none⟩ = some (.int .i64 V) := by
    have := hcell _ _ (dgs_at ds 0 d0 h0).1
    rw [hV0] at this
    simpa using this
  clear h0 hV0 hcell hy
  go_enter Try.func62, Try.ntmps62
  go_upto_block 0 with (fail)
  have hz0 := Bk.new w 24 #[.int .i64 0, .slice none 0 0, .int .i64 0]
  have hk0 : Keep NoF w (w.alloc (.cells #[.int .i64 0, .slice none 0 0, .int .i64 0] 24)) := (Keep.refl _ _).alloc _
  have hzs : (w.alloc (.cells #[.int .i64 0, .slice none 0 0, .int .i64 0] 24)).heap.size = w.heap.size + 1 := by simp
  have HRD0 : Hid (Rd (w.alloc (.cells #[.int .i64 0, .slice none 0 0, .int .i64 0] 24)) (.slice (some ⟨lb, lo, none⟩) ds.length c) 3 ds.length (ds.flatMap Dg.cells)) := Lib.hid (HRD.out.kept hk0 fun _ _ h => h)
  have HIN0 : Hid (∀ (i : Nat) d, ds[i]? = some d → d.In (w.alloc (.cells #[.int .i64 0, .slice none 0 0, .int .i64 0] 24))) := Lib.hid fun i d h => ⟨(HIN.out i d h).1.kept hk0 fun _ _ h => h, (HIN.out i d h).2⟩
  generalize w.alloc (.cells #[.int .i64 0, .slice none 0 0, .int .i64 0] 24) = W0 at *
  go_cut [] (fun wc => dgErr ds = 0 ∧ Keep NoF W0 wc)
  case first =>
    go_wp2
    go_loopw [15] (fun i wr => ∃ k : Nat, i = .int .i64 k ∧ k ≤ ds.length ∧ dgErr (ds.take k) = 0 ∧ Keep NoF W0 wr) (fun i _ => ds.length - (intOf i).toNat)
    case atStart => exact ⟨0, rfl, by omega, rfl, Keep.refl _ _⟩
    case round =>
      obtain ⟨k, rfl, hk, hz, hkr⟩ := hrel
      have HZ := Lib.hid hz
      clear hz
      by_cases hlt : k < ds.length
      · have hdk : ds[k]? = some ds[k] := List.getElem?_eq_getElem hlt
        obtain ⟨hdr, hdl⟩ := HIN0.out k _ hdk
        obtain ⟨_, _, bl, off, hA, hcell⟩ := (HRD0.out.kept hkr fun _ _ h => h).at_ hpos
        obtain ⟨rfl, rfl⟩ : lb = bl ∧ lo = off := by simpa using hA
        obtain ⟨c1, c2, c3⟩ := dgs_at ds k _ hdk
        have d1 := hcell _ _ c1
        have d2 := hcell _ _ c2
        have d3 := hcell _ _ c3
        simp only [← Nat.add_assoc] at d2 d3
        have HDK := Lib.hid hdk
        clear hdk c1 c2 c3 hcell hA
        generalize ds[k] = d at *
        obtain ⟨dV, dR, droot, dsl⟩ := d
        simp only at d1 d2 d3 hdr hdl
        have hdr2 := hdr
        obtain ⟨_, A2, cc2, rfl, _, _⟩ := hdr2
        have hs := check_any dV dR droot (.slice A2 dR.length cc2) (wr.alloc (.cells #[.int .i64 dV, .slice A2 dR.length cc2, .int .i64 droot] 24)) hdl ((hdr.kept hkr fun _ _ h => h).alloc _)
        have HS := Lib.hid hs
        clear hs hdr hdl
        have z0 : wr.cell? ⟨w.heap.size, 0, none⟩ = some (.int .i64 0) := (hz0.keep hkr (fun h => h)).cell 0
        have z1 : wr.cell? ⟨w.heap.size, 1, none⟩ = some (.slice none 0 0) := (hz0.keep hkr (fun h => h)).cell 1
        have z2 : wr.cell? ⟨w.heap.size, 2, none⟩ = some (.int .i64 0) := (hz0.keep hkr (fun h => h)).cell 2
        generalize hne : checkErr dV dR droot = ne at *
        have HNE := Lib.hid hne
        clear hne
        by_cases h0 : ne = 0
        · subst h0
          go_wp2_with (go_at_call 15; (with_reducible refine HS.out.mono ?_); rintro e w1 ⟨rfl, hk1⟩)
          go_roundw
          case rel => exact ⟨k + 1, by go_num, by omega, dgErr_go (d := ⟨dV, dR, droot, _⟩) HNE.out k ds HDK.out HZ.out, (hkr.alloc _).trans hk1 fun _ _ h => h⟩
          case measure => simp [intOf]; omega
        · have hne0 : (ne != 0) = true := by simpa using h0
          have hbk := hz0.keep hkr (fun h => h)
          go_wp2_with (go_at_call 15
                       (with_reducible refine HS.out.mono ?_)
                       rintro e w1 ⟨rfl, hk1⟩
                       have hb1 := (hbk.alloc (.cells #[.int .i64 dV, .slice A2 dR.length cc2, .int .i64 droot] 24)).keep hk1 (fun h => h)
                       have y0 : w1.cell? ⟨w.heap.size, 0, none⟩ = some (.int .i64 0) := hb1.cell 0
                       have y1 : w1.cell? ⟨w.heap.size, 1, none⟩ = some (.slice none 0 0) := hb1.cell 1
                       have y2 : w1.cell? ⟨w.heap.size, 2, none⟩ = some (.int .i64 0) := hb1.cell 2
                       have f0 := hb1.frozen 0
                       have f1 := hb1.frozen 1
                       have f2 := hb1.frozen 2)
          have hds := dgErr_stop (d := ⟨dV, dR, droot, .slice A2 dR.length cc2⟩) (by show checkErr dV dR droot ≠ 0; rw [HNE.out]; exact h0) k ds HDK.out HZ.out
          have hoe : opErr V ds = ne := by
            unfold opErr
            rw [hds]
            show (if checkErr dV dR droot ≠ 0 then checkErr dV dR droot else _) = ne
            rw [HNE.out, if_pos h0]
          refine bodyPost_ret (v := .tuple #[dgZero, .int .i64 ne]) (by simp [results, Try.results62, go_sem, dgZero, y0, y1, y2]) rfl ⟨fun _ => by rw [hoe], fun h => absurd (hoe.symm.trans h) h0, ?_⟩
          exact (((((hk0.trans hkr fun _ _ h => h).alloc _).trans hk1 fun _ _ h => h).setCell (.inr (by simp)) _).setCell (.inr (by simp)) _).setCell (.inr (by simp)) _
      · go_wp2
        go_meet
        case rel =>
          have e : k = ds.length := by omega
          have := HZ.out
          rw [e, List.take_length] at this
          exact ⟨this, hkr⟩
  case rest =>
    obtain ⟨hf, hkc⟩ := hcut
    obtain ⟨wa, rfl⟩ : ∃ wa : World, wa = wc := ⟨_, rfl⟩
    have HF := Lib.hid hf
    clear hf
    go_wp2_with (go_at_call 55; refine (newStore_any _).mono ?_; rintro e w2 ⟨b, F, rfl, hs2, hk2, hF2⟩)
    have hkw : Keep NoF W0 w2 := hkc.trans hk2 fun _ _ h => h
    have hFW : ∀ x, F x → W0.heap.size ≤ x := fun x hx => Nat.le_trans hkc.size (hF2 x hx)
    clear hk2 hF2 hkc
    go_loopw [10, 29] (fun xv i wr => ∃ k : Nat, i = .int .i64 k ∧ OpLoop b w.heap.size V ds W0 k xv wr) (fun _ i _ => ds.length - (intOf i).toNat)
    case atStart => exact ⟨0, rfl, by omega, [], F, [], rfl, hs2, Dd.Good.nil, by simp, World.ownsRow_nil _ _ _ _, hkw, hFW, by simp, by simp, by simp, by simp [Value.ownBlock]⟩
    case round =>
      obtain ⟨k, rfl, hk, N, F', ts, hlen, hsk, hg, hNl, hown, hkk, hFF, htl, hden, hVs, hxF⟩ := hrel
      by_cases hlt : k < ds.length
      · have hdk : ds[k]? = some ds[k] := List.getElem?_eq_getElem hlt
        obtain ⟨hdr, hdl⟩ := HIN0.out k _ hdk
        have hdr1 := HIN.out k _ hdk
        obtain ⟨_, _, bl, off, hA, hcell⟩ := (HRD0.out.kept hkk fun _ _ h => h).at_ hpos
        obtain ⟨rfl, rfl⟩ : lb = bl ∧ lo = off := by simpa using hA
        obtain ⟨c1, c2, c3⟩ := dgs_at ds k _ hdk
        have d1 := hcell _ _ c1
        have d2 := hcell _ _ c2
        have d3 := hcell _ _ c3
        simp only [← Nat.add_assoc] at d2 d3
        have htk : ds.take (k + 1) = ds.take k ++ [ds[k]] := by rw [List.take_add_one, hdk]; rfl
        have HTK := Lib.hid htk
        have hz := dgErr_zero HF.out hdk
        have hmem : ds[k] ∈ ds := List.getElem_mem hlt
        clear hdk c1 c2 c3 hcell hA htk
        generalize ds[k] = d at *
        obtain ⟨dV, dR, droot, dsl⟩ := d
        obtain ⟨v, M, r, e1, e2, e3, hval⟩ := Dd.valid_of (show checkErr dV dR droot = 0 from hz)
        simp only at d1 d2 d3 hdr hdl hdr1 e1 e2 e3
        subst e1 e2 e3
        have hdr2 := hdr
        obtain ⟨_, A2, cc2, hA2, _, _⟩ := hdr2
        subst hA2
        have hb1 : ∀ x, 0 < M.length → (Value.slice A2 (ofN M).length cc2).ownBlock = some x → x < w.heap.size := fun x h0 hx => hdr1.1.blk_lt (by rw [Dd.ofN_len]; exact h0) (by omega) x hx
        rw [Dd.ofN_len] at d2 hdr hb1
        rw [rnsC_ofN] at hdr
        have v1 : wr.cell? ⟨lb, lo, none⟩ = some (.int .i64 V) := hkk.cellv (hk0.cellv v0 (fun h => h)) (fun h => h)
        have z0 : wr.cell? ⟨w.heap.size, 0, none⟩ = some (.int .i64 0) := (hz0.keep hkk (fun h => h)).cell 0
        have z1 : wr.cell? ⟨w.heap.size, 1, none⟩ = some (.slice none 0 0) := (hz0.keep hkk (fun h => h)).cell 1
        have z2 : wr.cell? ⟨w.heap.size, 2, none⟩ = some (.int .i64 0) := (hz0.keep hkk (fun h => h)).cell 2
        have f0 := (hz0.keep hkk (fun h => h)).frozen 0
        have f1 := (hz0.keep hkk (fun h => h)).frozen 1
        have f2 := (hz0.keep hkk (fun h => h)).frozen 2
        have b0 : (0 : Int) < (ds.length : Int) := by omega
        have l1 : lb < wr.heap.size := by have := hkk.size; omega
        have l2 : w.heap.size < wr.heap.size := by have := hkk.size; omega
        by_cases hvv : (v : Int) = V
        · subst hvv
          have e1 : ((v : Int) != (v : Int)) = false := by simp
          have hM : M.length ≤ 4096 := hval.len
          have HL : Hid (∀ n, Calls Try.prog 57 #[.pointer (some ⟨b, 0, none⟩), .agg #[.int .i64 v, .slice A2 M.length cc2, .int .i64 r]] ((wr.alloc (.cells #[.int .i64 v, .slice A2 M.length cc2, .int .i64 r] 24)).drewN n) fun e w' => ∃ F' N' t, e = .returned (.int .i64 (t : Nat)) ∧ Sto w' b N' (fun _ => none) F' ∧ LdRel N M r t N' ∧ Keep NoF W0 w' ∧ (∀ x, F' x → W0.heap.size ≤ x) ∧ w'.ownsRow W0.heap.size 3 1 u10 k (ts.map inV) ∧ W0.heap.size ≤ w'.heap.size ∧ (∀ x, u10.ownBlock = some x → ¬ F' x) ∧ ∀ x, F' x → x < w'.heap.size) := Lib.hid fun n => by
            have hk1 : Keep NoF wr ((wr.alloc (.cells #[.int .i64 v, .slice A2 M.length cc2, .int .i64 r] 24)).drewN n) := ((Keep.refl _ _).alloc _).drewN n
            have hs1 := hsk.kept hk1 fun _ _ h => h
            have hown1 : ((wr.alloc (.cells #[.int .i64 v, .slice A2 M.length cc2, .int .i64 r] 24)).drewN n).ownsRow W0.heap.size 3 1 u10 k (ts.map inV) := own_keep hown fun x hx => hk1.block x (hown.lt x hx).2 (fun h => h)
            refine (load_rel (b := b) (N := N) (G := fun _ => none) (F := F') hs1 hg M hval.good v _ r hval.root hM (by omega) ((hdr.kept hkk fun _ _ h => h).kept hk1 fun _ _ h => h) (fun h0 x hx h => by
              have := hb1 x h0 hx
              have := hFF x h
              omega)).mono fun e w' ⟨F2, N2, t, he, hs2, hL, hk2, hF2⟩ => ?_
            have hF2' : ∀ x, F2 x → W0.heap.size ≤ x := fun x hx => by
              rcases hF2 x hx with h | h
              · exact hFF x h
              · exact Nat.le_trans (hkk.trans hk1 fun _ _ h => h).size h
            have hkw' : Keep NoF W0 w' := (hkk.trans hk1 fun _ _ h => h).trans hk2 fun x hx h => absurd (hFF x h) (by omega)
            refine ⟨F2, N2, t, he, hs2, hL, hkw', hF2', own_keep hown1 fun x hx => hk2.block x (hown1.lt x hx).2 (hxF x hx), hkw'.size, fun x hx h => ?_, hs2.lt⟩
            rcases hF2 x h with h | h
            · exact hxF x hx h
            · have := (hown1.lt x hx).2; omega
          have HD := Lib.hid (And.intro hden htl)
          clear hdr hdr1 hown hb1 hmem hsk hden htl hz
          go_wp2
          go_quiet (fail)
          go_wp2_with (first
            | (go_at_call 57
               (with_reducible refine (HL.out nq).mono ?_)
               rintro e w3 ⟨F3, N3, t3, rfl, hs3, hL3, hk3, hF3, hown3, hsz3, hxF3, hlt3⟩)
            | (at_builtin
               refine wpList_app (by rfl) eInts (.tmp 41) (.tmp 45) (by rfl) (by rfl) (hown3.alloc _) ⟨w3.heap.size, 0, none⟩ 1 1 [.int .i64 (t3 : Nat)] (by rfl) (by rfl)
                 (World.news_of_block (cs := #[.int .i64 (t3 : Nat)]) (t := 3) (fr := (0, 0)) (heap_alloc_new w3 _)) (by simp [Value.oneCell']) (by omega) (by omega) (by omega) (by simp; omega) ?_
               intro g4 cap4 w4 hown4 hA4))
          go_roundw
          case rel =>
            have h63 : Keep NoF W0 w4 := (hk3.alloc _).grown hA4.grown fun x hx => .inr (hown3.lt x hx).1
            refine ⟨k + 1, by go_num, by omega, N3, F3, ts ++ [t3], by simp [hlen], ?_, hL3.good, by have := hL3.len; omega, by simpa [inV] using hown4, h63, hF3, ?_, ?_, ?_, ?_⟩
            · exact (hs3.alloc _).block fun x hx => hA4.grown.block x (by have := hlt3 x hx; simp; omega) (fun e => hxF3 x e.symm hx)
            · intro t ht
              rcases List.mem_append.1 ht with h | h
              · have := HD.out.2 t h
                have := Dd.len_pre hL3.pre
                omega
              · have e : t = t3 := by simpa using h
                subst e; exact hL3.lt
            · rw [List.map_append, HTK.out, List.map_append, ← HD.out.1]
              congr 1
              · exact List.map_congr_left fun t ht => funext fun ρ => Dd.den_pre hg hL3.good hL3.pre (HD.out.2 t ht) ρ
              · simp only [List.map_cons, List.map_nil, Dg.fn, Dd.toN_ofN, Int.toNat_natCast, List.cons.injEq, and_true]
                exact funext hL3.den
            · rw [HTK.out, List.all_append, hVs]; simp
            · intro x hx h
              have e : g4 = x := by simpa [Value.ownBlock] using hx
              subst e
              rcases hA4.at_ with h1 | h1
              · exact hxF3 _ h1 h
              · have := hlt3 _ h; simp at h1; omega
          case measure => simp [intOf]; omega
        · have e1 : ((v : Int) != V) = true := by simp; omega
          have hoe : Hid (opErr V ds = 3) := Lib.hid (by
            unfold opErr
            rw [HF.out, if_neg (by simp), if_neg]
            intro h
            have := List.all_eq_true.1 h _ hmem
            simp at this
            exact hvv this)
          clear hdr hdr1 hsk hown htl hden hb1 hmem
          go_wp2
          go_quiet (fail)
          go_wp2
          have hbk := (((hz0.keep hkk (fun h => h)).alloc (.cells #[.int .i64 v, .slice A2 M.length cc2, .int .i64 r] 24)).drewN nq)
          have hkq : Keep NoF w ((wr.alloc (.cells #[.int .i64 v, .slice A2 M.length cc2, .int .i64 r] 24)).drewN nq) := ((hk0.trans hkk fun _ _ h => h).alloc _).drewN nq
          generalize (wr.alloc (.cells #[.int .i64 v, .slice A2 M.length cc2, .int .i64 r] 24)).drewN nq = W5 at *
          have y0 : W5.cell? ⟨w.heap.size, 0, none⟩ = some (.int .i64 0) := hbk.cell 0
          have y1 : W5.cell? ⟨w.heap.size, 1, none⟩ = some (.slice none 0 0) := hbk.cell 1
          have y2 : W5.cell? ⟨w.heap.size, 2, none⟩ = some (.int .i64 0) := hbk.cell 2
          refine bodyPost_ret (v := .tuple #[dgZero, .int .i64 3]) (by simp [results, Try.results62, go_sem, dgZero, y0, y1, y2]) rfl ⟨fun _ => by rw [hoe.out], fun h => absurd (hoe.out.symm.trans h) (by omega), ?_⟩
          exact ((hkq.setCell (.inr (by simp)) _).setCell (.inr (by simp)) _).setCell (.inr (by simp)) _
      · have ek : k = ds.length := by omega
        subst ek
        have htake : ds.take ds.length = ds := List.take_length
        rw [htake] at hden hVs
        have hoe : Hid (opErr V ds = 0) := Lib.hid (by unfold opErr; rw [HF.out, if_neg (by simp), if_pos hVs])
        clear hVs htake
        have hNb : N.length ≤ 100000 := by omega
        have HC : Hid (Calls Try.prog f (#[.pointer (some ⟨b, 0, none⟩), u10] ++ cap) wr.drew fun e w' => ∃ F' N' G' r, e = .returned (.int .i64 (r : Nat)) ∧ Sto w' b N' G' F' ∧ OpRel N (σ (ds.map Dg.fn)) r N' G' ∧ Keep NoF W0 w') := Lib.hid (by
          have h := HOP.out wr.drew b N (fun _ => none) F' u10 ts (hk0.trans hkk fun _ _ h => h).drew.below hsk.drew hg (MemoOk.none N) hlen ((Rd.of_own hown).drew) (fun x hx => by have := hFF x hx; omega) htl hNb hxF
          refine h.mono fun e w' ⟨F2, N2, G2, r, he, hs2, hR, hk2, hF2⟩ => ⟨F2, N2, G2, r, he, hs2, by rw [← hden]; exact hR, ?_⟩
          exact hkk.trans hk2.undrew fun x hx h => absurd (hFF x h) (by omega))
        have v1 : wr.drew.cell? ⟨lb, lo, none⟩ = some (.int .i64 V) := hkk.cellv (hk0.cellv v0 (fun h => h)) (fun h => h)
        have b0 : (0 : Int) < (ds.length : Int) := by omega
        clear hsk hown htl hden hxF hNl
        go_wp2
        go_region_held3 (fun w' => w'.cell? ⟨lb, lo, none⟩ = some (.int .i64 V))
          (first | with_reducible exact v1 | with_reducible exact v3 | with_reducible exact v4 | (refine Keep.cellv ((((Keep.refl (fun x => x ≠ lb) _).setCell (.inl (by simp; omega)) _).setCell (.inl (by simp; omega)) _).setCell (.inl (by simp; omega)) _) v4 (by simp)))
          (first
            | (with_reducible refine HC.out.mono ?_
               rintro e w3 ⟨F3, N3, G3, r3, rfl, hs3, hR3, hk3⟩
               have v3 : w3.cell? ⟨lb, lo, none⟩ = some (.int .i64 V) := hk3.cellv (hk0.cellv v0 (fun h => h)) (fun h => h))
            | (go_at_call 56
               (with_reducible refine ((export_any (b := b) hs3 hR3.good (Nat.le_trans hR3.len (by omega)) V _ hR3.lt).mono fun e w' h => And.intro h.1.out h.2).mono ?_)
               rintro e w4 ⟨⟨V', r', err, A', n', cc', rfl, hout⟩, hk4⟩
               have k4 : Keep NoF W0 w4 := hk3.trans hk4 fun _ _ h => h
               have hb4 := hz0.keep k4 (fun h => h)
               have v4 : w4.cell? ⟨lb, lo, none⟩ = some (.int .i64 V) := hk4.cellv v3 (fun h => h)
               have y0 : w4.cell? ⟨w.heap.size, 0, none⟩ = some (.int .i64 0) := hb4.cell 0
               have y1 : w4.cell? ⟨w.heap.size, 1, none⟩ = some (.slice none 0 0) := hb4.cell 1
               have y2 : w4.cell? ⟨w.heap.size, 2, none⟩ = some (.int .i64 0) := hb4.cell 2
               have f0 := hb4.frozen 0
               have f1 := hb4.frozen 1
               have f2 := hb4.frozen 2))
        have hsz : w.heap.size < w3.heap.size := by have := hk3.size; omega
        have hx0 : ((((w4.setCell ⟨w.heap.size, 0, none⟩ (.int .i64 V')).setCell ⟨w.heap.size, 1, none⟩ (.slice A' n' cc')).setCell ⟨w.heap.size, 2, none⟩ (.int .i64 r'))).cell? ⟨w.heap.size, 0, none⟩ = some (.int .i64 V') := (((hb4.put 0 _).put 1 _).put 2 _).cell 0
        have hx1 : ((((w4.setCell ⟨w.heap.size, 0, none⟩ (.int .i64 V')).setCell ⟨w.heap.size, 1, none⟩ (.slice A' n' cc')).setCell ⟨w.heap.size, 2, none⟩ (.int .i64 r'))).cell? ⟨w.heap.size, 1, none⟩ = some (.slice A' n' cc') := (((hb4.put 0 _).put 1 _).put 2 _).cell 1
        have hx2 : ((((w4.setCell ⟨w.heap.size, 0, none⟩ (.int .i64 V')).setCell ⟨w.heap.size, 1, none⟩ (.slice A' n' cc')).setCell ⟨w.heap.size, 2, none⟩ (.int .i64 r'))).cell? ⟨w.heap.size, 2, none⟩ = some (.int .i64 r') := (((hb4.put 0 _).put 1 _).put 2 _).cell 2
        have hset : ∀ k, w3.heap.size ≤ k → ((((w4.setCell ⟨w.heap.size, 0, none⟩ (.int .i64 V')).setCell ⟨w.heap.size, 1, none⟩ (.slice A' n' cc')).setCell ⟨w.heap.size, 2, none⟩ (.int .i64 r'))).heap[k]? = w4.heap[k]? := fun k hk =>
          have hne : k ≠ w.heap.size := by omega
          ((Below.heap_setCell _ _ _ k hne).trans (Below.heap_setCell _ _ _ k hne)).trans (Below.heap_setCell _ _ _ k hne)
        have hkf : Keep NoF w (((w4.setCell ⟨w.heap.size, 0, none⟩ (.int .i64 V')).setCell ⟨w.heap.size, 1, none⟩ (.slice A' n' cc')).setCell ⟨w.heap.size, 2, none⟩ (.int .i64 r')) := (((hk0.trans k4 fun _ _ h => h).setCell (.inr (by simp)) _).setCell (.inr (by simp)) _).setCell (.inr (by simp)) _
        generalize ((w4.setCell ⟨w.heap.size, 0, none⟩ (.int .i64 V')).setCell ⟨w.heap.size, 1, none⟩ (.slice A' n' cc')).setCell ⟨w.heap.size, 2, none⟩ (.int .i64 r') = W6 at *
        go_wp2
        refine bodyPost_ret (v := .tuple #[.agg #[.int .i64 V', .slice A' n' cc', .int .i64 r'], .int .i64 err]) (by simp [results, Try.results62, go_sem, hx0, hx1, hx2]) rfl ⟨fun h => (h hoe.out).elim, fun _ => ⟨N3, r3, hR3.good, hR3.lt, hR3.den, ?_⟩, hkf⟩
        exact DgRes.move hout (by omega) hset
end Go.Proofs.Ytengdldkkmknpaa
