/- Package formula: what the function finish of compact does. No condition. -/
import Derived.Test.YtmjdbbfoihadoaaFmE
import Derived.Deep.DeepCutAuto
import Derived.Deep.RegionHeld3
import Derived.Deep.RegionLaw
import Derived.Outline
set_option linter.unusedVariables false
set_option linter.unusedSimpArgs false
namespace Go.Proofs.Ytmjdbbfoihadoaa
open Go.RowKit
open Fm (Nd okI okN numb Inv tree ins put Rep usesX usesY checkE Form)

theorem zeroInt : ∀ w, (zeroValue 3).run Try.prog w = .ok (.int .i64 0) w := by intro w; kernel_rfl
def finArgs (i db fb vb nb ob : Nat) : Array Value := #[.int .i64 i, .pointer (some ⟨db, 0, none⟩), .pointer (some ⟨fb, 0, none⟩), .pointer (some ⟨vb, 0, none⟩), .pointer (some ⟨nb, 0, none⟩), .pointer (some ⟨ob, 0, none⟩)]
def FPost (f : List Nd) (ob m1 m2 : Nat) (K : Nat → Prop) (w : World) (ds : List Nat) (i : Nat) (r : Nat × List Nd) (e : Ending) (w' : World) : Prop :=
  ∃ K' g' ds', e = .returned (.int .i64 (r.1 : Nat)) ∧ FS w' ob m1 m2 r.2 g' K' ∧ Inv f r.2 g' ds' ∧ (∀ x ∈ ds', x ∈ ds ∨ x ≤ i) ∧ Keep K w w' ∧ ∀ k, K' k → K k ∨ w.heap.size ≤ k
def FIH (i : Nat) : Prop := ∀ (f : List Nd) (db fb vb nb ob m1 m2 : Nat) (A : Option Addr) (c : Nat) (K : Nat → Prop) (w : World) (out : List Nd) (g : Nat → Option Nat) (ds : List Nat), Fm.Okf f → i < f.length → Inv f out g ds → Rd w (.slice A f.length c) 6 f.length (fmC f) →
  FV w db fb vb nb ob m1 m2 A f.length c → FS w ob m1 m2 out g K → (∀ k, (Value.slice A f.length c).ownBlock = some k → ¬ K k) → ¬ K db → ¬ K fb → ¬ K vb → ¬ K nb →
  Calls Try.prog 44 (finArgs i db fb vb nb ob) w (FPost f ob m1 m2 K w ds i (ins (tree f i) out))
section
set_option maxRecDepth 100000
set_option maxHeartbeats 2000000
variable {f : List Nd} {db fb vb nb ob m1 m2 : Nat} {A : Option Addr} {c : Nat} {K : Nat → Prop} {w : World} {out : List Nd} {g : Nat → Option Nat} {ds : List Nat}
theorem fin_known {i k : Nat} (hi : i < f.length) (hc : Fm.Okf f) (hI : Inv f out g ds) (hv : FV w db fb vb nb ob m1 m2 A f.length c) (hs : FS w ob m1 m2 out g K) (hk : g i = some k) :
    Calls Try.prog 44 (finArgs i db fb vb nb ob) w (FPost f ob m1 m2 K w ds i (ins (tree f i) out)) := by
  rw [Fm.ins_rep hI.nodup (hI.sound i k hk)]
  have hpost : ∀ e w', e = .returned (.int .i64 (k : Nat)) ∧ w = w' → FPost f ob m1 m2 K w ds i (k, out) e w' := by
    rintro e w' ⟨rfl, rfl⟩
    exact ⟨K, g, ds, rfl, hs, hI, fun x h => .inl h, Keep.refl _ _, fun k hk => .inl hk⟩
  refine Calls.mono ?_ hpost
  clear hpost
  obtain ⟨ov, hd, ho, hm1, hm2, hne, hK⟩ := hs
  have h200 := hc.len
  have hl : (Instr.lookup 94 (.map (some m2)) (.int .i64 i) true).run Try.prog w = .ok (.tuple #[.int .i64 k, .bool true]) w := by
    have := hm2.look encInt Try.underlying94 (zeroInt _) (x := i) (by unfold tiny; omega) true
    simpa [hk, inV] using this
  have c1 : w.cell? ⟨db, 0, none⟩ = some (.map (some m2)) := by rw [hv.dv.cell]; rfl
  clear hm1 hm2 hv hk
  unfold finArgs
  go_enter Try.func44, Try.ntmps44
  go_wp2
  go_ret
  exact ⟨rfl, rfl⟩
theorem fin_leaf_found {i : Nat} (hi : i < f.length) (hc : Fm.Okf f) (hI : Inv f out g ds) (hrd : Rd w (.slice A f.length c) 6 f.length (fmC f)) (hv : FV w db fb vb nb ob m1 m2 A f.length c) (hs : FS w ob m1 m2 out g K) (hA : ∀ k, (Value.slice A f.length c).ownBlock = some k → ¬ K k) (k1 : ¬ K db) (k2 : ¬ K fb) (k3 : ¬ K vb) (k4 : ¬ K nb) (hnone : g i = none)
    {n : Nd} (hn : f[i]? = some n) (hux : usesX n.op = false) (huy : usesY n.op = false) (hmem : n ∈ out) :
    Calls Try.prog 44 (finArgs i db fb vb nb ob) w (FPost f ob m1 m2 K w ds i (ins (tree f i) out)) := by
  have h200 := hc.len
  have hown := hc.own i n hn
  have hord := hc.ord i n hn
  have hnd : i ∉ ds := fun h => by
    obtain ⟨k, hk⟩ := (hI.dom i).2 h
    rw [hnone] at hk
    cases hk
  have HU : Hid (∀ w, Calls Try.prog 38 #[.int .i64 n.op] w fun e w' => e = .returned (.tuple #[.agg #[.bool false, .bool false, .bool (Fm.usesFact n.op), .bool (Fm.usesAgent n.op), .bool (Fm.usesGroup n.op), .bool (Fm.usesEvent n.op), .int .i64 (fragN n.op)], .bool (Fm.isOp n.op)]) ∧ Keep NoF w w') := Lib.hid fun w => by
    have := uses_any w n.op
    rw [show useV n.op = .agg #[.bool (usesX n.op), .bool (usesY n.op), .bool (Fm.usesFact n.op), .bool (Fm.usesAgent n.op), .bool (Fm.usesGroup n.op), .bool (Fm.usesEvent n.op), .int .i64 (fragN n.op)] from rfl, hux, huy] at this
    exact this
  obtain ⟨op, ni, ne, ng, nx, ny⟩ := n
  simp only at hux huy hord hown HU
  obtain rfl : nx = 0 := hord.2.1 hux
  obtain rfl : ny = 0 := hord.2.2.2 huy
  have HORD := Lib.hid hord
  clear hord
  have hl0 : (Instr.lookup 94 (.map (some m2)) (.int .i64 i) true).run Try.prog w = .ok (.tuple #[.int .i64 0, .bool false]) w := by
    obtain ⟨ov, hd, ho, hm1, hm2, hne, hK⟩ := hs
    have := hm2.look encInt Try.underlying94 (zeroInt _) (x := i) (by unfold tiny; omega) true
    simpa [hnone, inV] using this
  obtain ⟨bl, off, rfl, _, hcap, q0, q1, q2, q3, q4, q5⟩ := hrd.nd hn
  have hfl := hrd.blk_lt (by omega) (by omega) bl rfl
  have hAb := hA bl rfl
  have d1 : w.cell? ⟨db, 0, none⟩ = some (.map (some m2)) := hv.dv.cell 0
  have d2 : w.cell? ⟨fb, 0, none⟩ = some (.slice (some ⟨bl, off, none⟩) f.length c) := hv.fv.cell 0
  have Bx := Bk.new w 53 #[.int .i64 op, .int .i64 ni, .int .i64 ne, .int .i64 ng, .int .i64 0, .int .i64 0]
  have Kx : Keep NoF w (w.alloc (.cells #[.int .i64 op, .int .i64 ni, .int .i64 ne, .int .i64 ng, .int .i64 0, .int .i64 0] 53)) := (Keep.refl _ _).alloc _
  have hx0 := Bx.cell 0
  have hi2 : (i : Int) < (f.length : Int) := by omega
  have hi0 : (0 : Int) ≤ (i : Int) := by omega
  have HI := Lib.hid hI
  have HHRD := Lib.hid hrd
  have HCK := Lib.hid hc
  have HNONE := Lib.hid hnone
  have HN := Lib.hid hn
  have HOWN := Lib.hid hown
  clear hI hrd hc hnone hn hown
  generalize hfi : Fm.usesFact op = uf at *
  generalize hfa : Fm.usesAgent op = ua at *
  generalize hfg : Fm.usesGroup op = ug at *
  generalize hfe : Fm.usesEvent op = ue at *
  generalize hfo : Fm.isOp op = uo at *
  generalize hff : fragN op = fr at *
  clear hfi hfa hfg hfe hfo hff
  unfold finArgs
  go_enter Try.func44, Try.ntmps44
  go_upto_region 6 with (go_at_call 38
                         (with_reducible refine (HU.out _).mono ?_)
                         rintro e w2 ⟨rfl, K2⟩)
  have Bx2 := Bk.keep (F := NoF) Bx K2 (fun h => h)
  have W2x : w.heap.size < w2.heap.size := Bx2.lt
  have UV : List Value := []
  clear UV
  have Bu := Bk.new w2 81 #[.bool false, .bool false, .bool uf, .bool ua, .bool ug, .bool ue, .int .i64 fr]
  have Bx3 := Bx2.alloc (.cells #[.bool false, .bool false, .bool uf, .bool ua, .bool ug, .bool ue, .int .i64 fr] 81)
  have K3 : Keep NoF w (w2.alloc (.cells #[.bool false, .bool false, .bool uf, .bool ua, .bool ug, .bool ue, .int .i64 fr] 81)) := (Kx.trans K2 fun _ _ h => h).alloc _
  have HK3 := Lib.hid K3
  have hv3 := hv.keep K3 (fun h => h) (fun h => h) (fun h => h) (fun h => h)
  have hs3 := hs.keep0 K3
  have hbx : ¬ K w.heap.size := fun h => by have := hs.lt _ h; omega
  have hbu : ¬ K w2.heap.size := fun h => by have := hs.lt _ h; omega
  have L3 : w2.heap.size < (w2.alloc (.cells #[.bool false, .bool false, .bool uf, .bool ua, .bool ug, .bool ue, .int .i64 fr] 81)).heap.size := Bu.lt
  clear Bx Kx hx0 K2 Bx2 d1 d2 hl0 q0 q1 q2 q3 q4 q5 K3
  generalize (w2.alloc (.cells #[.bool false, .bool false, .bool uf, .bool ua, .bool ug, .bool ue, .int .i64 fr] 81)) = W3 at *
  have u0 : W3.cell? ⟨w2.heap.size, 0, none⟩ = some (.bool false) := Bu.cell 0
  have u1 : W3.cell? ⟨w2.heap.size, 1, none⟩ = some (.bool false) := Bu.cell 1
  have HOK : Hid (okN ⟨op, ni, ne, ng, 0, 0⟩) := Lib.hid (Fm.ok_own HOWN.out (by unfold okI; omega) (by unfold okI; omega))
  have HINS : Hid (ins (tree f i) out = put ⟨op, ni, ne, ng, 0, 0⟩ out) := Lib.hid (by rw [Fm.tree_leaf HN.out hux]; rfl)
  have nk1 := k1
  have nk2 := k2
  have nk3 := k3
  have nk4 := k4
  have nkx := hbx
  have HF : Hid (Keep K w W3 ∧ ∀ k, K k → K k ∨ w.heap.size ≤ k) := Lib.hid ⟨HK3.out.mono fun _ _ h => h.elim, fun k h => .inl h⟩
  have hsl := hs3.lt
  obtain ⟨ov, hd, ho, hm1, hm2, hne, hK⟩ := hs3
  have hsm := HI.out.small
  have hdb : W3.cell? ⟨db, 0, none⟩ = some (.map (some m2)) := hv3.dv.cell 0
  have hnb : W3.cell? ⟨nb, 0, none⟩ = some (.map (some m1)) := hv3.nv.cell 0
  have x0 : W3.cell? ⟨w.heap.size, 0, none⟩ = some (.int .i64 op) := Bx3.cell 0
  have x1 : W3.cell? ⟨w.heap.size, 1, none⟩ = some (.int .i64 ni) := Bx3.cell 1
  have x2 : W3.cell? ⟨w.heap.size, 2, none⟩ = some (.int .i64 ne) := Bx3.cell 2
  have x3 : W3.cell? ⟨w.heap.size, 3, none⟩ = some (.int .i64 ng) := Bx3.cell 3
  have x4 : W3.cell? ⟨w.heap.size, 4, none⟩ = some (.int .i64 0) := Bx3.cell 4
  have x5 : W3.cell? ⟨w.heap.size, 5, none⟩ = some (.int .i64 0) := Bx3.cell 5
  have hnum : numb out ⟨op, ni, ne, ng, 0, 0⟩ = some (out.idxOf (⟨op, ni, ne, ng, 0, 0⟩ : Nd)) := by unfold numb; rw [if_pos hmem]
  have hput : put (⟨op, ni, ne, ng, 0, 0⟩ : Nd) out = (out.idxOf (⟨op, ni, ne, ng, 0, 0⟩ : Nd), out) := by unfold put; rw [if_pos hmem]
  have hInv := Inv.put HI.out hi hnd HOK.out (by rw [← HINS.out]; exact Fm.rep_ins _ _)
  rw [hput] at hInv
  have HINV := Lib.hid hInv
  clear hInv
  have HINS2 := Lib.hid (HINS.out.trans hput)
  generalize out.idxOf (⟨op, ni, ne, ng, 0, 0⟩ : Nd) = kk at *
  have hl1 : (Instr.lookup 93 (.map (some m1)) (.agg #[.int .i64 op, .int .i64 ni, .int .i64 ne, .int .i64 ng, .int .i64 0, .int .i64 0]) true).run Try.prog W3 = .ok (.tuple #[.int .i64 kk, .bool true]) W3 := by
    have := hm1.look encNode Try.underlying93 (zeroInt _) (x := ⟨op, ni, ne, ng, 0, 0⟩) HOK.out true
    simpa [hnum, inV] using this
  go_wp2_with (first
    | (at_mapUpdate
       refine wpList_mapT (by rfl) hm2 encInt Try.underlying94 (x := i) (by unfold tiny; omega) kk (.tmp 64) (.tmp 65) (.tmp 66) (by rfl) (by rfl) (by rfl) (by rfl) ?_
       intro w6 hm6 hg6 hsz6))
  go_ret
  rw [HINS2.out]
  have hstep : Keep K W3 w6 ∧ ∀ k, K k → K k ∨ W3.heap.size ≤ k := ⟨(Keep.refl _ _).grown hg6 fun k hk => .inl ((hK k).2 (.inr (.inr (.inl (by simpa using hk.symm))))), fun k hk => .inl hk⟩
  have hall := grow_trans HF.out hstep
  refine ⟨K, _, _, rfl, ⟨ov, hd.grown hg6 ?_, own_keep ho fun k hk => hg6.block k (ho.lt k hk).2 ?_, hm1.block (hg6.block _ hm1.lt ?_), hm6, hne, hK⟩, HINV.out.congr fun y => (by by_cases hyi : y = i <;> simp [hyi]), fun x hx => ?_, hall.1, hall.2⟩
  · have := hm2.ne_bk hd
    simpa using this.symm
  · have := own_ne_map ho hm2
    rw [hk] at this
    simpa using this
  · simpa using hne
  · rcases List.mem_cons.1 hx with rfl | hx
    · exact .inr (Nat.le_refl _)
    · exact .inl hx
theorem fin_leaf_new {i : Nat} (hi : i < f.length) (hc : Fm.Okf f) (hI : Inv f out g ds) (hrd : Rd w (.slice A f.length c) 6 f.length (fmC f)) (hv : FV w db fb vb nb ob m1 m2 A f.length c) (hs : FS w ob m1 m2 out g K) (hA : ∀ k, (Value.slice A f.length c).ownBlock = some k → ¬ K k) (k1 : ¬ K db) (k2 : ¬ K fb) (k3 : ¬ K vb) (k4 : ¬ K nb) (hnone : g i = none)
    {n : Nd} (hn : f[i]? = some n) (hux : usesX n.op = false) (huy : usesY n.op = false) (hmem : n ∉ out) :
    Calls Try.prog 44 (finArgs i db fb vb nb ob) w (FPost f ob m1 m2 K w ds i (ins (tree f i) out)) := by
  have h200 := hc.len
  have hown := hc.own i n hn
  have hord := hc.ord i n hn
  have hnd : i ∉ ds := fun h => by
    obtain ⟨k, hk⟩ := (hI.dom i).2 h
    rw [hnone] at hk
    cases hk
  have HU : Hid (∀ w, Calls Try.prog 38 #[.int .i64 n.op] w fun e w' => e = .returned (.tuple #[.agg #[.bool false, .bool false, .bool (Fm.usesFact n.op), .bool (Fm.usesAgent n.op), .bool (Fm.usesGroup n.op), .bool (Fm.usesEvent n.op), .int .i64 (fragN n.op)], .bool (Fm.isOp n.op)]) ∧ Keep NoF w w') := Lib.hid fun w => by
    have := uses_any w n.op
    rw [show useV n.op = .agg #[.bool (usesX n.op), .bool (usesY n.op), .bool (Fm.usesFact n.op), .bool (Fm.usesAgent n.op), .bool (Fm.usesGroup n.op), .bool (Fm.usesEvent n.op), .int .i64 (fragN n.op)] from rfl, hux, huy] at this
    exact this
  obtain ⟨op, ni, ne, ng, nx, ny⟩ := n
  simp only at hux huy hord hown HU
  obtain rfl : nx = 0 := hord.2.1 hux
  obtain rfl : ny = 0 := hord.2.2.2 huy
  have HORD := Lib.hid hord
  clear hord
  have hl0 : (Instr.lookup 94 (.map (some m2)) (.int .i64 i) true).run Try.prog w = .ok (.tuple #[.int .i64 0, .bool false]) w := by
    obtain ⟨ov, hd, ho, hm1, hm2, hne, hK⟩ := hs
    have := hm2.look encInt Try.underlying94 (zeroInt _) (x := i) (by unfold tiny; omega) true
    simpa [hnone, inV] using this
  obtain ⟨bl, off, rfl, _, hcap, q0, q1, q2, q3, q4, q5⟩ := hrd.nd hn
  have hfl := hrd.blk_lt (by omega) (by omega) bl rfl
  have hAb := hA bl rfl
  have d1 : w.cell? ⟨db, 0, none⟩ = some (.map (some m2)) := hv.dv.cell 0
  have d2 : w.cell? ⟨fb, 0, none⟩ = some (.slice (some ⟨bl, off, none⟩) f.length c) := hv.fv.cell 0
  have Bx := Bk.new w 53 #[.int .i64 op, .int .i64 ni, .int .i64 ne, .int .i64 ng, .int .i64 0, .int .i64 0]
  have Kx : Keep NoF w (w.alloc (.cells #[.int .i64 op, .int .i64 ni, .int .i64 ne, .int .i64 ng, .int .i64 0, .int .i64 0] 53)) := (Keep.refl _ _).alloc _
  have hx0 := Bx.cell 0
  have hi2 : (i : Int) < (f.length : Int) := by omega
  have hi0 : (0 : Int) ≤ (i : Int) := by omega
  have HI := Lib.hid hI
  have HHRD := Lib.hid hrd
  have HCK := Lib.hid hc
  have HNONE := Lib.hid hnone
  have HN := Lib.hid hn
  have HOWN := Lib.hid hown
  clear hI hrd hc hnone hn hown
  generalize hfi : Fm.usesFact op = uf at *
  generalize hfa : Fm.usesAgent op = ua at *
  generalize hfg : Fm.usesGroup op = ug at *
  generalize hfe : Fm.usesEvent op = ue at *
  generalize hfo : Fm.isOp op = uo at *
  generalize hff : fragN op = fr at *
  clear hfi hfa hfg hfe hfo hff
  unfold finArgs
  go_enter Try.func44, Try.ntmps44
  go_upto_region 6 with (go_at_call 38
                         (with_reducible refine (HU.out _).mono ?_)
                         rintro e w2 ⟨rfl, K2⟩)
  have Bx2 := Bk.keep (F := NoF) Bx K2 (fun h => h)
  have W2x : w.heap.size < w2.heap.size := Bx2.lt
  have UV : List Value := []
  clear UV
  have Bu := Bk.new w2 81 #[.bool false, .bool false, .bool uf, .bool ua, .bool ug, .bool ue, .int .i64 fr]
  have Bx3 := Bx2.alloc (.cells #[.bool false, .bool false, .bool uf, .bool ua, .bool ug, .bool ue, .int .i64 fr] 81)
  have K3 : Keep NoF w (w2.alloc (.cells #[.bool false, .bool false, .bool uf, .bool ua, .bool ug, .bool ue, .int .i64 fr] 81)) := (Kx.trans K2 fun _ _ h => h).alloc _
  have HK3 := Lib.hid K3
  have hv3 := hv.keep K3 (fun h => h) (fun h => h) (fun h => h) (fun h => h)
  have hs3 := hs.keep0 K3
  have hbx : ¬ K w.heap.size := fun h => by have := hs.lt _ h; omega
  have hbu : ¬ K w2.heap.size := fun h => by have := hs.lt _ h; omega
  have L3 : w2.heap.size < (w2.alloc (.cells #[.bool false, .bool false, .bool uf, .bool ua, .bool ug, .bool ue, .int .i64 fr] 81)).heap.size := Bu.lt
  clear Bx Kx hx0 K2 Bx2 d1 d2 hl0 q0 q1 q2 q3 q4 q5 K3
  generalize (w2.alloc (.cells #[.bool false, .bool false, .bool uf, .bool ua, .bool ug, .bool ue, .int .i64 fr] 81)) = W3 at *
  have u0 : W3.cell? ⟨w2.heap.size, 0, none⟩ = some (.bool false) := Bu.cell 0
  have u1 : W3.cell? ⟨w2.heap.size, 1, none⟩ = some (.bool false) := Bu.cell 1
  have HOK : Hid (okN ⟨op, ni, ne, ng, 0, 0⟩) := Lib.hid (Fm.ok_own HOWN.out (by unfold okI; omega) (by unfold okI; omega))
  have HINS : Hid (ins (tree f i) out = put ⟨op, ni, ne, ng, 0, 0⟩ out) := Lib.hid (by rw [Fm.tree_leaf HN.out hux]; rfl)
  have nk1 := k1
  have nk2 := k2
  have nk3 := k3
  have nk4 := k4
  have nkx := hbx
  have HF : Hid (Keep K w W3 ∧ ∀ k, K k → K k ∨ w.heap.size ≤ k) := Lib.hid ⟨HK3.out.mono fun _ _ h => h.elim, fun k h => .inl h⟩
  have hsl := hs3.lt
  obtain ⟨ov, hd, ho, hm1, hm2, hne, hK⟩ := hs3
  have hsm := HI.out.small
  have hdb : W3.cell? ⟨db, 0, none⟩ = some (.map (some m2)) := hv3.dv.cell 0
  have hnb : W3.cell? ⟨nb, 0, none⟩ = some (.map (some m1)) := hv3.nv.cell 0
  have x0 : W3.cell? ⟨w.heap.size, 0, none⟩ = some (.int .i64 op) := Bx3.cell 0
  have x1 : W3.cell? ⟨w.heap.size, 1, none⟩ = some (.int .i64 ni) := Bx3.cell 1
  have x2 : W3.cell? ⟨w.heap.size, 2, none⟩ = some (.int .i64 ne) := Bx3.cell 2
  have x3 : W3.cell? ⟨w.heap.size, 3, none⟩ = some (.int .i64 ng) := Bx3.cell 3
  have x4 : W3.cell? ⟨w.heap.size, 4, none⟩ = some (.int .i64 0) := Bx3.cell 4
  have x5 : W3.cell? ⟨w.heap.size, 5, none⟩ = some (.int .i64 0) := Bx3.cell 5
  have hnum : numb out ⟨op, ni, ne, ng, 0, 0⟩ = none := by unfold numb; rw [if_neg hmem]
  have hput : put (⟨op, ni, ne, ng, 0, 0⟩ : Nd) out = (out.length, out ++ [⟨op, ni, ne, ng, 0, 0⟩]) := by unfold put; rw [if_neg hmem]
  have hInv := Inv.put HI.out hi hnd HOK.out (by rw [← HINS.out]; exact Fm.rep_ins _ _)
  rw [hput] at hInv
  have HINV := Lib.hid hInv
  clear hInv
  have HINS2 := Lib.hid (HINS.out.trans hput)
  have HNS := Lib.hid (Fm.numb_snoc hmem)
  have hl1 : (Instr.lookup 93 (.map (some m1)) (.agg #[.int .i64 op, .int .i64 ni, .int .i64 ne, .int .i64 ng, .int .i64 0, .int .i64 0]) true).run Try.prog W3 = .ok (.tuple #[.int .i64 0, .bool false]) W3 := by
    have := hm1.look encNode Try.underlying93 (zeroInt _) (x := ⟨op, ni, ne, ng, 0, 0⟩) HOK.out true
    simpa [hnum, inV] using this
  obtain ⟨OA, oc, rfl⟩ := own_form ho
  have hovc : W3.cell? ⟨ob, 0, none⟩ = some (.slice OA out.length oc) := hd.cell 0
  have hdne := own_ne_bk ho hd (by decide)
  have ldb := hd.lt
  have HFC : Hid (fmC (out ++ [⟨op, ni, ne, ng, 0, 0⟩]) = fmC out ++ [.int .i64 op, .int .i64 ni, .int .i64 ne, .int .i64 ng, .int .i64 0, .int .i64 0]) := Lib.hid (by simp [fmC, ndC])
  have HLN : Hid ((out ++ [(⟨op, ni, ne, ng, 0, 0⟩ : Nd)]).length = out.length + 1) := Lib.hid (by simp)
  generalize out ++ [(⟨op, ni, ne, ng, 0, 0⟩ : Nd)] = O2 at *
  have hxlt := Bx3.lt
  generalize out.length = OL at *
  go_upto_region 14 with (at_builtin
                          refine wpList_app (by rfl) eNodes (.tmp 57) (.tmp 59) (by rfl) (by rfl) (ho.alloc _) ⟨W3.heap.size, 0, none⟩ 1 1 [.int .i64 op, .int .i64 ni, .int .i64 ne, .int .i64 ng, .int .i64 0, .int .i64 0] (by rfl) (by rfl)
                            (World.news_of_block (cs := #[.int .i64 op, .int .i64 ni, .int .i64 ne, .int .i64 ng, .int .i64 0, .int .i64 0]) (t := 53) (fr := (0, 0)) (heap_alloc_new W3 _)) (by simp [Value.oneCell']) (by omega) (by omega) (by omega) (by omega) ?_
                          intro g2 cap2 w4 hown4 hA4
                          have hd4 : Bk w4 ob 26 #[.slice OA OL oc] := (hd.alloc _).grown hA4.grown (Ne.symm hdne)
                          have p3 : w4.cell? ⟨ob, 0, none⟩ = some (.slice OA OL oc) := hd4.cell 0
                          have p4 : w4.frozen? ⟨ob, 0, none⟩ = false := hd4.frozen 0)
  have hg2ob : g2 ≠ ob := fun e => own_ne_bk hown4 hd4 (by decide) (by rw [e]; rfl)
  have hobK : K ob := (hK _).2 (.inl rfl)
  have k5 : Keep K W3 (w4.setCell ⟨ob, 0, none⟩ (.slice (some ⟨g2, 0, none⟩) (OL + 1) cap2)) :=
    (((Keep.refl K W3).alloc _).grown hA4.grown fun k hk => .inl ((hK k).2 (.inr (.inr (.inr hk.symm.symm))))).setCell (.inl hobK) _
  have hv5 := hv3.keep k5 nk1 nk2 nk3 nk4
  have Bx5 := Bx3.keep k5 nkx
  have hd5 : Bk (w4.setCell ⟨ob, 0, none⟩ (.slice (some ⟨g2, 0, none⟩) (OL + 1) cap2)) ob 26 #[.slice (some ⟨g2, 0, none⟩) (OL + 1) cap2] := hd4.put 0 _
  have hown5 : (w4.setCell ⟨ob, 0, none⟩ (.slice (some ⟨g2, 0, none⟩) (OL + 1) cap2)).ownsRow 0 53 6 (.slice (some ⟨g2, 0, none⟩) (OL + 1) cap2) (OL + 1) (fmC out ++ [.int .i64 op, .int .i64 ni, .int .i64 ne, .int .i64 ng, .int .i64 0, .int .i64 0]) :=
    own_keep hown4 fun k hk => Below.heap_setCell _ _ _ _ (fun e => hg2ob (by injection hk with hk; exact (show g2 = k from hk).trans e))
  have hmk : ∀ m, m < W3.heap.size → m ≠ ob → (Value.slice OA OL oc).ownBlock ≠ some m → (w4.setCell ⟨ob, 0, none⟩ (.slice (some ⟨g2, 0, none⟩) (OL + 1) cap2)).heap[m]? = W3.heap[m]? := fun m hm hmo hmv =>
    (Below.heap_setCell _ _ _ _ hmo).trans ((hA4.grown.block m (by simp; omega) (Ne.symm hmv)).trans (Below.heap_alloc _ _ _ hm))
  have hm15 := hm1.block (hmk m1 hm1.lt (hm1.ne_bk hd) (own_ne_map ho hm1))
  have hm25 := hm2.block (hmk m2 hm2.lt (hm2.ne_bk hd) (own_ne_map ho hm2))
  have hat2 := hA4.at_
  have hszW : (W3.alloc (.cells #[.int .i64 op, .int .i64 ni, .int .i64 ne, .int .i64 ng, .int .i64 0, .int .i64 0] 53)).heap.size = W3.heap.size + 1 := by simp
  clear hd4 hown4 p3 p4 hovc hdb hnb x0 x1 x2 x3 x4 x5 hl1 hmk
  generalize w4.setCell ⟨ob, 0, none⟩ (.slice (some ⟨g2, 0, none⟩) (OL + 1) cap2) = w5 at *
  have hdb : w5.cell? ⟨db, 0, none⟩ = some (.map (some m2)) := hv5.dv.cell 0
  have hnb : w5.cell? ⟨nb, 0, none⟩ = some (.map (some m1)) := hv5.nv.cell 0
  have x0 : w5.cell? ⟨w.heap.size, 0, none⟩ = some (.int .i64 op) := Bx5.cell 0
  have x1 : w5.cell? ⟨w.heap.size, 1, none⟩ = some (.int .i64 ni) := Bx5.cell 1
  have x2 : w5.cell? ⟨w.heap.size, 2, none⟩ = some (.int .i64 ne) := Bx5.cell 2
  have x3 : w5.cell? ⟨w.heap.size, 3, none⟩ = some (.int .i64 ng) := Bx5.cell 3
  have x4 : w5.cell? ⟨w.heap.size, 4, none⟩ = some (.int .i64 0) := Bx5.cell 4
  have x5 : w5.cell? ⟨w.heap.size, 5, none⟩ = some (.int .i64 0) := Bx5.cell 5
  go_wp2_with (first
    | (at_mapUpdate
       refine wpList_mapT (by rfl) hm15 encNode Try.underlying93 (x := ⟨op, ni, ne, ng, 0, 0⟩) HOK.out OL (.tmp 61) (.tmp 62) (.tmp 63) (by rfl) (by rfl) (by rfl) (by rfl) ?_
       intro w6 hm16 hg6 hsz6
       have hdb6 : w6.cell? ⟨db, 0, none⟩ = some (.map (some m2)) := hg6.cell (a := ⟨db, 0, none⟩) hdb (by simpa using (hm15.ne_bk hv5.dv).symm)
       have hm26 := hm25.block (hg6.block _ hm25.lt (by simpa using hne.symm)))
    | (at_mapUpdate
       refine wpList_mapT (by rfl) hm26 encInt Try.underlying94 (x := i) (by unfold tiny; omega) OL (.tmp 64) (.tmp 65) (.tmp 66) (by rfl) (by rfl) (by rfl) (by rfl) ?_
       intro w7 hm27 hg7 hsz7))
  go_ret
  rw [HINS2.out]
  have hstep : Keep K W3 w7 ∧ ∀ k, (k = ob ∨ k = m1 ∨ k = m2 ∨ some g2 = some k) → K k ∨ W3.heap.size ≤ k := by
    refine ⟨(k5.grown hg6 fun k hk => .inl ((hK k).2 (.inr (.inl (by simpa using hk.symm))))).grown hg7 fun k hk => .inl ((hK k).2 (.inr (.inr (.inl (by simpa using hk.symm))))), fun k hk => ?_⟩
    rcases hk with rfl | rfl | rfl | hk
    · exact .inl hobK
    · exact .inl ((hK _).2 (.inr (.inl rfl)))
    · exact .inl ((hK _).2 (.inr (.inr (.inl rfl))))
    · rcases hat2 with h | h
      · exact .inl ((hK k).2 (.inr (.inr (.inr (h.trans hk)))))
      · have : g2 = k := by simpa using hk
        exact .inr (by omega)
  have hall := grow_trans HF.out hstep
  have hown7 : w7.ownsRow 0 53 6 (.slice (some ⟨g2, 0, none⟩) (OL + 1) cap2) (OL + 1) (fmC out ++ [.int .i64 op, .int .i64 ni, .int .i64 ne, .int .i64 ng, .int .i64 0, .int .i64 0]) :=
    own_keep (own_keep hown5 fun k hk => hg6.block k (hown5.lt k hk).2 fun e => own_ne_map hown5 hm15 (by rw [hk, e])) fun k hk => by
      have hlt5 := (hown5.lt k hk).2
      exact hg7.block k (by omega) fun e => own_ne_map hown5 hm25 (by rw [hk, e])
  refine ⟨fun k => k = ob ∨ k = m1 ∨ k = m2 ∨ some g2 = some k, _, _, rfl, ⟨_, (hd5.grown hg6 ?_).grown hg7 ?_, ?_, (hm16.block (hg7.block _ hm16.lt ?_)).congr ?_, hm27, hne, fun k => Iff.rfl⟩, HINV.out.congr fun y => (by by_cases hyi : y = i <;> simp [hyi]), fun x hx => ?_, hall.1, hall.2⟩
  · have := hm15.ne_bk hd5
    simpa using this.symm
  · have := hm25.ne_bk hd5
    simpa using this.symm
  · rw [HLN.out, HFC.out]
    exact hown7
  · simpa using hne
  · intro y
    rw [HNS.out y]
    by_cases hy : y = ⟨op, ni, ne, ng, 0, 0⟩
    · rw [if_pos hy, if_pos hy]
    · rw [if_neg hy, if_neg hy]
  · rcases List.mem_cons.1 hx with rfl | hx
    · exact .inr (Nat.le_refl _)
    · exact .inl hx
theorem fin_un_found {i : Nat} (IH : Hid (∀ a, a < i → FIH a)) (hi : i < f.length) (hc : Fm.Okf f) (hI : Inv f out g ds) (hrd : Rd w (.slice A f.length c) 6 f.length (fmC f)) (hv : FV w db fb vb nb ob m1 m2 A f.length c) (hs : FS w ob m1 m2 out g K) (hA : ∀ k, (Value.slice A f.length c).ownBlock = some k → ¬ K k) (k1 : ¬ K db) (k2 : ¬ K fb) (k3 : ¬ K vb) (k4 : ¬ K nb) (hnone : g i = none)
    {n : Nd} (hn : f[i]? = some n) (hux : usesX n.op = true) (huy : usesY n.op = false) (hmem : (⟨n.op, n.i, n.e, n.g, ((ins (tree f n.x.toNat) out).1 : Nat), 0⟩ : Nd) ∈ (ins (tree f n.x.toNat) out).2) :
    Calls Try.prog 44 (finArgs i db fb vb nb ob) w (FPost f ob m1 m2 K w ds i (ins (tree f i) out)) := by
  have h200 := hc.len
  have hown := hc.own i n hn
  have hord := hc.ord i n hn
  have hnd : i ∉ ds := fun h => by
    obtain ⟨k, hk⟩ := (hI.dom i).2 h
    rw [hnone] at hk
    cases hk
  have HU : Hid (∀ w, Calls Try.prog 38 #[.int .i64 n.op] w fun e w' => e = .returned (.tuple #[.agg #[.bool true, .bool false, .bool (Fm.usesFact n.op), .bool (Fm.usesAgent n.op), .bool (Fm.usesGroup n.op), .bool (Fm.usesEvent n.op), .int .i64 (fragN n.op)], .bool (Fm.isOp n.op)]) ∧ Keep NoF w w') := Lib.hid fun w => by
    have := uses_any w n.op
    rw [show useV n.op = .agg #[.bool (usesX n.op), .bool (usesY n.op), .bool (Fm.usesFact n.op), .bool (Fm.usesAgent n.op), .bool (Fm.usesGroup n.op), .bool (Fm.usesEvent n.op), .int .i64 (fragN n.op)] from rfl, hux, huy] at this
    exact this
  obtain ⟨op, ni, ne, ng, nx, ny⟩ := n
  simp only at hux huy hord hown HU
  have hxx := hord.1 hux
  obtain ⟨a, rfl⟩ : ∃ a : Nat, nx = a := ⟨nx.toNat, by omega⟩
  have ha : a < i := by omega
  clear hxx
  obtain rfl : ny = 0 := hord.2.2.2 huy
  simp only [Int.toNat_natCast] at hmem
  have HORD := Lib.hid hord
  clear hord
  have hl0 : (Instr.lookup 94 (.map (some m2)) (.int .i64 i) true).run Try.prog w = .ok (.tuple #[.int .i64 0, .bool false]) w := by
    obtain ⟨ov, hd, ho, hm1, hm2, hne, hK⟩ := hs
    have := hm2.look encInt Try.underlying94 (zeroInt _) (x := i) (by unfold tiny; omega) true
    simpa [hnone, inV] using this
  obtain ⟨bl, off, rfl, _, hcap, q0, q1, q2, q3, q4, q5⟩ := hrd.nd hn
  have hfl := hrd.blk_lt (by omega) (by omega) bl rfl
  have hAb := hA bl rfl
  have d1 : w.cell? ⟨db, 0, none⟩ = some (.map (some m2)) := hv.dv.cell 0
  have d2 : w.cell? ⟨fb, 0, none⟩ = some (.slice (some ⟨bl, off, none⟩) f.length c) := hv.fv.cell 0
  have Bx := Bk.new w 53 #[.int .i64 op, .int .i64 ni, .int .i64 ne, .int .i64 ng, .int .i64 (a : Nat), .int .i64 0]
  have Kx : Keep NoF w (w.alloc (.cells #[.int .i64 op, .int .i64 ni, .int .i64 ne, .int .i64 ng, .int .i64 (a : Nat), .int .i64 0] 53)) := (Keep.refl _ _).alloc _
  have hx0 := Bx.cell 0
  have hi2 : (i : Int) < (f.length : Int) := by omega
  have hi0 : (0 : Int) ≤ (i : Int) := by omega
  have HI := Lib.hid hI
  have HHRD := Lib.hid hrd
  have HCK := Lib.hid hc
  have HNONE := Lib.hid hnone
  have HN := Lib.hid hn
  have HOWN := Lib.hid hown
  clear hI hrd hc hnone hn hown
  generalize hfi : Fm.usesFact op = uf at *
  generalize hfa : Fm.usesAgent op = ua at *
  generalize hfg : Fm.usesGroup op = ug at *
  generalize hfe : Fm.usesEvent op = ue at *
  generalize hfo : Fm.isOp op = uo at *
  generalize hff : fragN op = fr at *
  clear hfi hfa hfg hfe hfo hff
  unfold finArgs
  go_enter Try.func44, Try.ntmps44
  go_upto_region 6 with (go_at_call 38
                         (with_reducible refine (HU.out _).mono ?_)
                         rintro e w2 ⟨rfl, K2⟩)
  have Bx2 := Bk.keep (F := NoF) Bx K2 (fun h => h)
  have W2x : w.heap.size < w2.heap.size := Bx2.lt
  have UV : List Value := []
  clear UV
  have Bu := Bk.new w2 81 #[.bool true, .bool false, .bool uf, .bool ua, .bool ug, .bool ue, .int .i64 fr]
  have Bx3 := Bx2.alloc (.cells #[.bool true, .bool false, .bool uf, .bool ua, .bool ug, .bool ue, .int .i64 fr] 81)
  have K3 : Keep NoF w (w2.alloc (.cells #[.bool true, .bool false, .bool uf, .bool ua, .bool ug, .bool ue, .int .i64 fr] 81)) := (Kx.trans K2 fun _ _ h => h).alloc _
  have HK3 := Lib.hid K3
  have hv3 := hv.keep K3 (fun h => h) (fun h => h) (fun h => h) (fun h => h)
  have hs3 := hs.keep0 K3
  have hbx : ¬ K w.heap.size := fun h => by have := hs.lt _ h; omega
  have hbu : ¬ K w2.heap.size := fun h => by have := hs.lt _ h; omega
  have L3 : w2.heap.size < (w2.alloc (.cells #[.bool true, .bool false, .bool uf, .bool ua, .bool ug, .bool ue, .int .i64 fr] 81)).heap.size := Bu.lt
  clear Bx Kx hx0 K2 Bx2 d1 d2 hl0 q0 q1 q2 q3 q4 q5 K3
  generalize (w2.alloc (.cells #[.bool true, .bool false, .bool uf, .bool ua, .bool ug, .bool ue, .int .i64 fr] 81)) = W3 at *
  have u0 : W3.cell? ⟨w2.heap.size, 0, none⟩ = some (.bool true) := Bu.cell 0
  have u1 : W3.cell? ⟨w2.heap.size, 1, none⟩ = some (.bool false) := Bu.cell 1
  have nk1 := k1
  have nk2 := k2
  have nk3 := k3
  have nk4 := k4
  have nkx := hbx
  have nku := hbu
  have nkA := hAb
  have hAK : ∀ k, (Value.slice (some ⟨bl, off, none⟩) f.length c).ownBlock = some k → ¬ K k := hA
  have W3le : w.heap.size ≤ W3.heap.size := HK3.out.size
  have HF : Hid (Keep K w W3 ∧ ∀ k, K k → K k ∨ w.heap.size ≤ k) := Lib.hid ⟨HK3.out.mono fun _ _ h => h.elim, fun k h => .inl h⟩
  have z3 : W3.cell? ⟨vb, 0, none⟩ = some (.func (.func 44) #[] #[.pointer (some ⟨db, 0, none⟩), .pointer (some ⟨fb, 0, none⟩), .pointer (some ⟨vb, 0, none⟩), .pointer (some ⟨nb, 0, none⟩), .pointer (some ⟨ob, 0, none⟩)]) := hv3.vv.cell 0
  have x0 : W3.cell? ⟨w.heap.size, 0, none⟩ = some (.int .i64 op) := Bx3.cell 0
  have x1 : W3.cell? ⟨w.heap.size, 1, none⟩ = some (.int .i64 ni) := Bx3.cell 1
  have x2 : W3.cell? ⟨w.heap.size, 2, none⟩ = some (.int .i64 ne) := Bx3.cell 2
  have x3 : W3.cell? ⟨w.heap.size, 3, none⟩ = some (.int .i64 ng) := Bx3.cell 3
  have x4 : W3.cell? ⟨w.heap.size, 4, none⟩ = some (.int .i64 (a : Nat)) := Bx3.cell 4
  have x5 : W3.cell? ⟨w.heap.size, 5, none⟩ = some (.int .i64 0) := Bx3.cell 5
  go_wp2_with fail
  clear z3 x0 x1 x2 x3 x4 x5
  have hrd4 := HHRD.out.kept (HF.out.1) hAK
  have hA4 : ∀ k, (Value.slice (some ⟨bl, off, none⟩) f.length c).ownBlock = some k → ¬ K k := fun k hk => by
    obtain rfl : bl = k := by simpa [Value.ownBlock] using hk
    exact nkA
  refine (IH.out a (by omega) f db fb vb nb ob m1 m2 _ c K W3 out g ds HCK.out (by omega) HI.out hrd4 hv3 hs3 hA4 nk1 nk2 nk3 nk4).mono ?_
  rintro e w4 ⟨K4, g4, d4, rfl, hs4, hI4, d4s, hk4, hK4⟩
  have hrl4 := (Fm.rep_ins (tree f a) out).lt
  have HR4 : Hid (ins (tree f a) out = ((ins (tree f a) out).1, (ins (tree f a) out).2)) := Lib.hid rfl
  have hsmall4 := hI4.small
  generalize (ins (tree f a) out).1 = r4 at *
  generalize (ins (tree f a) out).2 = o4 at *
  have HI4 := Lib.hid hI4
  clear hI4
  have hf4 := Lib.hid (grow_trans HF.out ⟨hk4, hK4⟩)
  have hold4 : ∀ x, x < W3.heap.size → ¬ K x → ¬ K4 x := fun x hx hn h => by
    rcases hK4 x h with h | h
    · exact hn h
    · omega
  have zA := hold4 _ (hv3.dv.lt) nk1
  have zB := hold4 _ (hv3.fv.lt) nk2
  have zC := hold4 _ (hv3.vv.lt) nk3
  have zD := hold4 _ (hv3.nv.lt) nk4
  have zE := hold4 _ (Bx3.lt) nkx
  have zF := hold4 _ (Bu.lt) nku
  have zG := hold4 bl (by have := W3le; omega) nkA
  have Bxa := Bx3.keep hk4 nkx
  have Bua := Bu.keep hk4 nku
  have hva := hv3.keep hk4 nk1 nk2 nk3 nk4
  have wle4 := hk4.size
  clear nk1 nk2 nk3 nk4 nkx nku nkA
  have nk1 := zA
  have nk2 := zB
  have nk3 := zC
  have nk4 := zD
  have nkx := zE
  have nku := zF
  have nkA := zG
  clear zA zB zC zD zE zF zG
  have y0 := Bxa.cell 4
  have y1 := Bxa.frozen 4
  have y2 := Bua.cell 1
  go_upto_region 8 with (fail)
  clear y0 y1 y2
  have Bx4 : Bk (w4.setCell ⟨w.heap.size, 4, none⟩ (.int .i64 (r4 : Nat))) w.heap.size 53 #[.int .i64 op, .int .i64 ni, .int .i64 ne, .int .i64 ng, .int .i64 (r4 : Nat), .int .i64 0] := Bxa.put 4 _
  have KS4 : Keep (fun k => k = w.heap.size) w4 (w4.setCell ⟨w.heap.size, 4, none⟩ (.int .i64 (r4 : Nat))) := (Keep.refl (fun k => k = w.heap.size) w4).setCell (.inl rfl) _
  have ldb := hv.dv.lt
  have lfb := hv.fv.lt
  have lvb := hv.vv.lt
  have lnb := hv.nv.lt
  have hv4 := hva.keep KS4 (by omega) (by omega) (by omega) (by omega)
  have Bu4 := Bua.keep KS4 (by omega)
  have hsv4 := hs4.block fun k hk => KS4.block k (hs4.lt k hk) fun e => nkx (e ▸ hk)
  have HF4 : Hid (Keep K w (w4.setCell ⟨w.heap.size, 4, none⟩ (.int .i64 (r4 : Nat))) ∧ ∀ k, K4 k → K k ∨ w.heap.size ≤ k) := Lib.hid ⟨hf4.out.1.trans KS4 fun i hi e => by omega, hf4.out.2⟩
  have V4le : w.heap.size ≤ (w4.setCell ⟨w.heap.size, 4, none⟩ (.int .i64 (r4 : Nat))).heap.size := by have := W3le; simp; omega
  clear Bxa Bua hva KS4 ldb lfb lvb lnb
  generalize w4.setCell ⟨w.heap.size, 4, none⟩ (.int .i64 (r4 : Nat)) = V4 at *
  have u1 : V4.cell? ⟨w2.heap.size, 1, none⟩ = some (.bool false) := Bu4.cell 1
  have HOK : Hid (okN ⟨op, ni, ne, ng, (r4 : Nat), 0⟩) := Lib.hid (Fm.ok_own HOWN.out (by unfold okI; omega) (by unfold okI; omega))
  have HINS : Hid (ins (tree f i) out = put ⟨op, ni, ne, ng, (r4 : Nat), 0⟩ o4) := Lib.hid (by
    rw [Fm.tree_un HN.out huy hux (by simpa using ha)]
    simp only [Int.toNat_natCast]
    unfold ins
    rw [HR4.out])
  have hnd4 : i ∉ d4 := fun h => by
    rcases d4s i h with h | h
    · exact hnd h
    · omega
  have hsl := hsv4.lt
  obtain ⟨ov, hd, ho, hm1, hm2, hne, hK⟩ := hsv4
  have hsm := HI4.out.small
  have hdb : V4.cell? ⟨db, 0, none⟩ = some (.map (some m2)) := hv4.dv.cell 0
  have hnb : V4.cell? ⟨nb, 0, none⟩ = some (.map (some m1)) := hv4.nv.cell 0
  have x0 : V4.cell? ⟨w.heap.size, 0, none⟩ = some (.int .i64 op) := Bx4.cell 0
  have x1 : V4.cell? ⟨w.heap.size, 1, none⟩ = some (.int .i64 ni) := Bx4.cell 1
  have x2 : V4.cell? ⟨w.heap.size, 2, none⟩ = some (.int .i64 ne) := Bx4.cell 2
  have x3 : V4.cell? ⟨w.heap.size, 3, none⟩ = some (.int .i64 ng) := Bx4.cell 3
  have x4 : V4.cell? ⟨w.heap.size, 4, none⟩ = some (.int .i64 (r4 : Nat)) := Bx4.cell 4
  have x5 : V4.cell? ⟨w.heap.size, 5, none⟩ = some (.int .i64 0) := Bx4.cell 5
  have hnum : numb o4 ⟨op, ni, ne, ng, (r4 : Nat), 0⟩ = some (o4.idxOf (⟨op, ni, ne, ng, (r4 : Nat), 0⟩ : Nd)) := by unfold numb; rw [if_pos hmem]
  have hput : put (⟨op, ni, ne, ng, (r4 : Nat), 0⟩ : Nd) o4 = (o4.idxOf (⟨op, ni, ne, ng, (r4 : Nat), 0⟩ : Nd), o4) := by unfold put; rw [if_pos hmem]
  have hInv := Inv.put HI4.out hi hnd4 HOK.out (by rw [← HINS.out]; exact Fm.rep_ins _ _)
  rw [hput] at hInv
  have HINV := Lib.hid hInv
  clear hInv
  have HINS2 := Lib.hid (HINS.out.trans hput)
  generalize o4.idxOf (⟨op, ni, ne, ng, (r4 : Nat), 0⟩ : Nd) = kk at *
  have hl1 : (Instr.lookup 93 (.map (some m1)) (.agg #[.int .i64 op, .int .i64 ni, .int .i64 ne, .int .i64 ng, .int .i64 (r4 : Nat), .int .i64 0]) true).run Try.prog V4 = .ok (.tuple #[.int .i64 kk, .bool true]) V4 := by
    have := hm1.look encNode Try.underlying93 (zeroInt _) (x := ⟨op, ni, ne, ng, (r4 : Nat), 0⟩) HOK.out true
    simpa [hnum, inV] using this
  go_wp2_with (first
    | (at_mapUpdate
       refine wpList_mapT (by rfl) hm2 encInt Try.underlying94 (x := i) (by unfold tiny; omega) kk (.tmp 64) (.tmp 65) (.tmp 66) (by rfl) (by rfl) (by rfl) (by rfl) ?_
       intro w6 hm6 hg6 hsz6))
  go_ret
  rw [HINS2.out]
  have hstep : Keep K4 V4 w6 ∧ ∀ k, K4 k → K4 k ∨ V4.heap.size ≤ k := ⟨(Keep.refl _ _).grown hg6 fun k hk => .inl ((hK k).2 (.inr (.inr (.inl (by simpa using hk.symm))))), fun k hk => .inl hk⟩
  have hall := grow_trans HF4.out hstep
  refine ⟨K4, _, _, rfl, ⟨ov, hd.grown hg6 ?_, own_keep ho fun k hk => hg6.block k (ho.lt k hk).2 ?_, hm1.block (hg6.block _ hm1.lt ?_), hm6, hne, hK⟩, HINV.out.congr fun y => (by by_cases hyi : y = i <;> simp [hyi]), fun x hx => ?_, hall.1, hall.2⟩
  · have := hm2.ne_bk hd
    simpa using this.symm
  · have := own_ne_map ho hm2
    rw [hk] at this
    simpa using this
  · simpa using hne
  · rcases List.mem_cons.1 hx with rfl | hx
    · exact .inr (Nat.le_refl _)
    · exact (d4s x hx).imp id (fun h => by omega)
theorem fin_un_new {i : Nat} (IH : Hid (∀ a, a < i → FIH a)) (hi : i < f.length) (hc : Fm.Okf f) (hI : Inv f out g ds) (hrd : Rd w (.slice A f.length c) 6 f.length (fmC f)) (hv : FV w db fb vb nb ob m1 m2 A f.length c) (hs : FS w ob m1 m2 out g K) (hA : ∀ k, (Value.slice A f.length c).ownBlock = some k → ¬ K k) (k1 : ¬ K db) (k2 : ¬ K fb) (k3 : ¬ K vb) (k4 : ¬ K nb) (hnone : g i = none)
    {n : Nd} (hn : f[i]? = some n) (hux : usesX n.op = true) (huy : usesY n.op = false) (hmem : (⟨n.op, n.i, n.e, n.g, ((ins (tree f n.x.toNat) out).1 : Nat), 0⟩ : Nd) ∉ (ins (tree f n.x.toNat) out).2) :
    Calls Try.prog 44 (finArgs i db fb vb nb ob) w (FPost f ob m1 m2 K w ds i (ins (tree f i) out)) := by
  have h200 := hc.len
  have hown := hc.own i n hn
  have hord := hc.ord i n hn
  have hnd : i ∉ ds := fun h => by
    obtain ⟨k, hk⟩ := (hI.dom i).2 h
    rw [hnone] at hk
    cases hk
  have HU : Hid (∀ w, Calls Try.prog 38 #[.int .i64 n.op] w fun e w' => e = .returned (.tuple #[.agg #[.bool true, .bool false, .bool (Fm.usesFact n.op), .bool (Fm.usesAgent n.op), .bool (Fm.usesGroup n.op), .bool (Fm.usesEvent n.op), .int .i64 (fragN n.op)], .bool (Fm.isOp n.op)]) ∧ Keep NoF w w') := Lib.hid fun w => by
    have := uses_any w n.op
    rw [show useV n.op = .agg #[.bool (usesX n.op), .bool (usesY n.op), .bool (Fm.usesFact n.op), .bool (Fm.usesAgent n.op), .bool (Fm.usesGroup n.op), .bool (Fm.usesEvent n.op), .int .i64 (fragN n.op)] from rfl, hux, huy] at this
    exact this
  obtain ⟨op, ni, ne, ng, nx, ny⟩ := n
  simp only at hux huy hord hown HU
  have hxx := hord.1 hux
  obtain ⟨a, rfl⟩ : ∃ a : Nat, nx = a := ⟨nx.toNat, by omega⟩
  have ha : a < i := by omega
  clear hxx
  obtain rfl : ny = 0 := hord.2.2.2 huy
  simp only [Int.toNat_natCast] at hmem
  have HORD := Lib.hid hord
  clear hord
  have hl0 : (Instr.lookup 94 (.map (some m2)) (.int .i64 i) true).run Try.prog w = .ok (.tuple #[.int .i64 0, .bool false]) w := by
    obtain ⟨ov, hd, ho, hm1, hm2, hne, hK⟩ := hs
    have := hm2.look encInt Try.underlying94 (zeroInt _) (x := i) (by unfold tiny; omega) true
    simpa [hnone, inV] using this
  obtain ⟨bl, off, rfl, _, hcap, q0, q1, q2, q3, q4, q5⟩ := hrd.nd hn
  have hfl := hrd.blk_lt (by omega) (by omega) bl rfl
  have hAb := hA bl rfl
  have d1 : w.cell? ⟨db, 0, none⟩ = some (.map (some m2)) := hv.dv.cell 0
  have d2 : w.cell? ⟨fb, 0, none⟩ = some (.slice (some ⟨bl, off, none⟩) f.length c) := hv.fv.cell 0
  have Bx := Bk.new w 53 #[.int .i64 op, .int .i64 ni, .int .i64 ne, .int .i64 ng, .int .i64 (a : Nat), .int .i64 0]
  have Kx : Keep NoF w (w.alloc (.cells #[.int .i64 op, .int .i64 ni, .int .i64 ne, .int .i64 ng, .int .i64 (a : Nat), .int .i64 0] 53)) := (Keep.refl _ _).alloc _
  have hx0 := Bx.cell 0
  have hi2 : (i : Int) < (f.length : Int) := by omega
  have hi0 : (0 : Int) ≤ (i : Int) := by omega
  have HI := Lib.hid hI
  have HHRD := Lib.hid hrd
  have HCK := Lib.hid hc
  have HNONE := Lib.hid hnone
  have HN := Lib.hid hn
  have HOWN := Lib.hid hown
  clear hI hrd hc hnone hn hown
  generalize hfi : Fm.usesFact op = uf at *
  generalize hfa : Fm.usesAgent op = ua at *
  generalize hfg : Fm.usesGroup op = ug at *
  generalize hfe : Fm.usesEvent op = ue at *
  generalize hfo : Fm.isOp op = uo at *
  generalize hff : fragN op = fr at *
  clear hfi hfa hfg hfe hfo hff
  unfold finArgs
  go_enter Try.func44, Try.ntmps44
  go_upto_region 6 with (go_at_call 38
                         (with_reducible refine (HU.out _).mono ?_)
                         rintro e w2 ⟨rfl, K2⟩)
  have Bx2 := Bk.keep (F := NoF) Bx K2 (fun h => h)
  have W2x : w.heap.size < w2.heap.size := Bx2.lt
  have UV : List Value := []
  clear UV
  have Bu := Bk.new w2 81 #[.bool true, .bool false, .bool uf, .bool ua, .bool ug, .bool ue, .int .i64 fr]
  have Bx3 := Bx2.alloc (.cells #[.bool true, .bool false, .bool uf, .bool ua, .bool ug, .bool ue, .int .i64 fr] 81)
  have K3 : Keep NoF w (w2.alloc (.cells #[.bool true, .bool false, .bool uf, .bool ua, .bool ug, .bool ue, .int .i64 fr] 81)) := (Kx.trans K2 fun _ _ h => h).alloc _
  have HK3 := Lib.hid K3
  have hv3 := hv.keep K3 (fun h => h) (fun h => h) (fun h => h) (fun h => h)
  have hs3 := hs.keep0 K3
  have hbx : ¬ K w.heap.size := fun h => by have := hs.lt _ h; omega
  have hbu : ¬ K w2.heap.size := fun h => by have := hs.lt _ h; omega
  have L3 : w2.heap.size < (w2.alloc (.cells #[.bool true, .bool false, .bool uf, .bool ua, .bool ug, .bool ue, .int .i64 fr] 81)).heap.size := Bu.lt
  clear Bx Kx hx0 K2 Bx2 d1 d2 hl0 q0 q1 q2 q3 q4 q5 K3
  generalize (w2.alloc (.cells #[.bool true, .bool false, .bool uf, .bool ua, .bool ug, .bool ue, .int .i64 fr] 81)) = W3 at *
  have u0 : W3.cell? ⟨w2.heap.size, 0, none⟩ = some (.bool true) := Bu.cell 0
  have u1 : W3.cell? ⟨w2.heap.size, 1, none⟩ = some (.bool false) := Bu.cell 1
  have nk1 := k1
  have nk2 := k2
  have nk3 := k3
  have nk4 := k4
  have nkx := hbx
  have nku := hbu
  have nkA := hAb
  have hAK : ∀ k, (Value.slice (some ⟨bl, off, none⟩) f.length c).ownBlock = some k → ¬ K k := hA
  have W3le : w.heap.size ≤ W3.heap.size := HK3.out.size
  have HF : Hid (Keep K w W3 ∧ ∀ k, K k → K k ∨ w.heap.size ≤ k) := Lib.hid ⟨HK3.out.mono fun _ _ h => h.elim, fun k h => .inl h⟩
  have z3 : W3.cell? ⟨vb, 0, none⟩ = some (.func (.func 44) #[] #[.pointer (some ⟨db, 0, none⟩), .pointer (some ⟨fb, 0, none⟩), .pointer (some ⟨vb, 0, none⟩), .pointer (some ⟨nb, 0, none⟩), .pointer (some ⟨ob, 0, none⟩)]) := hv3.vv.cell 0
  have x0 : W3.cell? ⟨w.heap.size, 0, none⟩ = some (.int .i64 op) := Bx3.cell 0
  have x1 : W3.cell? ⟨w.heap.size, 1, none⟩ = some (.int .i64 ni) := Bx3.cell 1
  have x2 : W3.cell? ⟨w.heap.size, 2, none⟩ = some (.int .i64 ne) := Bx3.cell 2
  have x3 : W3.cell? ⟨w.heap.size, 3, none⟩ = some (.int .i64 ng) := Bx3.cell 3
  have x4 : W3.cell? ⟨w.heap.size, 4, none⟩ = some (.int .i64 (a : Nat)) := Bx3.cell 4
  have x5 : W3.cell? ⟨w.heap.size, 5, none⟩ = some (.int .i64 0) := Bx3.cell 5
  go_wp2_with fail
  clear z3 x0 x1 x2 x3 x4 x5
  have hrd4 := HHRD.out.kept (HF.out.1) hAK
  have hA4 : ∀ k, (Value.slice (some ⟨bl, off, none⟩) f.length c).ownBlock = some k → ¬ K k := fun k hk => by
    obtain rfl : bl = k := by simpa [Value.ownBlock] using hk
    exact nkA
  refine (IH.out a (by omega) f db fb vb nb ob m1 m2 _ c K W3 out g ds HCK.out (by omega) HI.out hrd4 hv3 hs3 hA4 nk1 nk2 nk3 nk4).mono ?_
  rintro e w4 ⟨K4, g4, d4, rfl, hs4, hI4, d4s, hk4, hK4⟩
  have hrl4 := (Fm.rep_ins (tree f a) out).lt
  have HR4 : Hid (ins (tree f a) out = ((ins (tree f a) out).1, (ins (tree f a) out).2)) := Lib.hid rfl
  have hsmall4 := hI4.small
  generalize (ins (tree f a) out).1 = r4 at *
  generalize (ins (tree f a) out).2 = o4 at *
  have HI4 := Lib.hid hI4
  clear hI4
  have hf4 := Lib.hid (grow_trans HF.out ⟨hk4, hK4⟩)
  have hold4 : ∀ x, x < W3.heap.size → ¬ K x → ¬ K4 x := fun x hx hn h => by
    rcases hK4 x h with h | h
    · exact hn h
    · omega
  have zA := hold4 _ (hv3.dv.lt) nk1
  have zB := hold4 _ (hv3.fv.lt) nk2
  have zC := hold4 _ (hv3.vv.lt) nk3
  have zD := hold4 _ (hv3.nv.lt) nk4
  have zE := hold4 _ (Bx3.lt) nkx
  have zF := hold4 _ (Bu.lt) nku
  have zG := hold4 bl (by have := W3le; omega) nkA
  have Bxa := Bx3.keep hk4 nkx
  have Bua := Bu.keep hk4 nku
  have hva := hv3.keep hk4 nk1 nk2 nk3 nk4
  have wle4 := hk4.size
  clear nk1 nk2 nk3 nk4 nkx nku nkA
  have nk1 := zA
  have nk2 := zB
  have nk3 := zC
  have nk4 := zD
  have nkx := zE
  have nku := zF
  have nkA := zG
  clear zA zB zC zD zE zF zG
  have y0 := Bxa.cell 4
  have y1 := Bxa.frozen 4
  have y2 := Bua.cell 1
  go_upto_region 8 with (fail)
  clear y0 y1 y2
  have Bx4 : Bk (w4.setCell ⟨w.heap.size, 4, none⟩ (.int .i64 (r4 : Nat))) w.heap.size 53 #[.int .i64 op, .int .i64 ni, .int .i64 ne, .int .i64 ng, .int .i64 (r4 : Nat), .int .i64 0] := Bxa.put 4 _
  have KS4 : Keep (fun k => k = w.heap.size) w4 (w4.setCell ⟨w.heap.size, 4, none⟩ (.int .i64 (r4 : Nat))) := (Keep.refl (fun k => k = w.heap.size) w4).setCell (.inl rfl) _
  have ldb := hv.dv.lt
  have lfb := hv.fv.lt
  have lvb := hv.vv.lt
  have lnb := hv.nv.lt
  have hv4 := hva.keep KS4 (by omega) (by omega) (by omega) (by omega)
  have Bu4 := Bua.keep KS4 (by omega)
  have hsv4 := hs4.block fun k hk => KS4.block k (hs4.lt k hk) fun e => nkx (e ▸ hk)
  have HF4 : Hid (Keep K w (w4.setCell ⟨w.heap.size, 4, none⟩ (.int .i64 (r4 : Nat))) ∧ ∀ k, K4 k → K k ∨ w.heap.size ≤ k) := Lib.hid ⟨hf4.out.1.trans KS4 fun i hi e => by omega, hf4.out.2⟩
  have V4le : w.heap.size ≤ (w4.setCell ⟨w.heap.size, 4, none⟩ (.int .i64 (r4 : Nat))).heap.size := by have := W3le; simp; omega
  clear Bxa Bua hva KS4 ldb lfb lvb lnb
  generalize w4.setCell ⟨w.heap.size, 4, none⟩ (.int .i64 (r4 : Nat)) = V4 at *
  have u1 : V4.cell? ⟨w2.heap.size, 1, none⟩ = some (.bool false) := Bu4.cell 1
  have HOK : Hid (okN ⟨op, ni, ne, ng, (r4 : Nat), 0⟩) := Lib.hid (Fm.ok_own HOWN.out (by unfold okI; omega) (by unfold okI; omega))
  have HINS : Hid (ins (tree f i) out = put ⟨op, ni, ne, ng, (r4 : Nat), 0⟩ o4) := Lib.hid (by
    rw [Fm.tree_un HN.out huy hux (by simpa using ha)]
    simp only [Int.toNat_natCast]
    unfold ins
    rw [HR4.out])
  have hnd4 : i ∉ d4 := fun h => by
    rcases d4s i h with h | h
    · exact hnd h
    · omega
  have hsl := hsv4.lt
  obtain ⟨ov, hd, ho, hm1, hm2, hne, hK⟩ := hsv4
  have hsm := HI4.out.small
  have hdb : V4.cell? ⟨db, 0, none⟩ = some (.map (some m2)) := hv4.dv.cell 0
  have hnb : V4.cell? ⟨nb, 0, none⟩ = some (.map (some m1)) := hv4.nv.cell 0
  have x0 : V4.cell? ⟨w.heap.size, 0, none⟩ = some (.int .i64 op) := Bx4.cell 0
  have x1 : V4.cell? ⟨w.heap.size, 1, none⟩ = some (.int .i64 ni) := Bx4.cell 1
  have x2 : V4.cell? ⟨w.heap.size, 2, none⟩ = some (.int .i64 ne) := Bx4.cell 2
  have x3 : V4.cell? ⟨w.heap.size, 3, none⟩ = some (.int .i64 ng) := Bx4.cell 3
  have x4 : V4.cell? ⟨w.heap.size, 4, none⟩ = some (.int .i64 (r4 : Nat)) := Bx4.cell 4
  have x5 : V4.cell? ⟨w.heap.size, 5, none⟩ = some (.int .i64 0) := Bx4.cell 5
  have hnum : numb o4 ⟨op, ni, ne, ng, (r4 : Nat), 0⟩ = none := by unfold numb; rw [if_neg hmem]
  have hput : put (⟨op, ni, ne, ng, (r4 : Nat), 0⟩ : Nd) o4 = (o4.length, o4 ++ [⟨op, ni, ne, ng, (r4 : Nat), 0⟩]) := by unfold put; rw [if_neg hmem]
  have hInv := Inv.put HI4.out hi hnd4 HOK.out (by rw [← HINS.out]; exact Fm.rep_ins _ _)
  rw [hput] at hInv
  have HINV := Lib.hid hInv
  clear hInv
  have HINS2 := Lib.hid (HINS.out.trans hput)
  have HNS := Lib.hid (Fm.numb_snoc hmem)
  have hl1 : (Instr.lookup 93 (.map (some m1)) (.agg #[.int .i64 op, .int .i64 ni, .int .i64 ne, .int .i64 ng, .int .i64 (r4 : Nat), .int .i64 0]) true).run Try.prog V4 = .ok (.tuple #[.int .i64 0, .bool false]) V4 := by
    have := hm1.look encNode Try.underlying93 (zeroInt _) (x := ⟨op, ni, ne, ng, (r4 : Nat), 0⟩) HOK.out true
    simpa [hnum, inV] using this
  obtain ⟨OA, oc, rfl⟩ := own_form ho
  have hovc : V4.cell? ⟨ob, 0, none⟩ = some (.slice OA o4.length oc) := hd.cell 0
  have hdne := own_ne_bk ho hd (by decide)
  have ldb := hd.lt
  have HFC : Hid (fmC (o4 ++ [⟨op, ni, ne, ng, (r4 : Nat), 0⟩]) = fmC o4 ++ [.int .i64 op, .int .i64 ni, .int .i64 ne, .int .i64 ng, .int .i64 (r4 : Nat), .int .i64 0]) := Lib.hid (by simp [fmC, ndC])
  have HLN : Hid ((o4 ++ [(⟨op, ni, ne, ng, (r4 : Nat), 0⟩ : Nd)]).length = o4.length + 1) := Lib.hid (by simp)
  generalize o4 ++ [(⟨op, ni, ne, ng, (r4 : Nat), 0⟩ : Nd)] = O2 at *
  have hxlt := Bx4.lt
  generalize o4.length = OL at *
  go_upto_region 14 with (at_builtin
                          refine wpList_app (by rfl) eNodes (.tmp 57) (.tmp 59) (by rfl) (by rfl) (ho.alloc _) ⟨V4.heap.size, 0, none⟩ 1 1 [.int .i64 op, .int .i64 ni, .int .i64 ne, .int .i64 ng, .int .i64 (r4 : Nat), .int .i64 0] (by rfl) (by rfl)
                            (World.news_of_block (cs := #[.int .i64 op, .int .i64 ni, .int .i64 ne, .int .i64 ng, .int .i64 (r4 : Nat), .int .i64 0]) (t := 53) (fr := (0, 0)) (heap_alloc_new V4 _)) (by simp [Value.oneCell']) (by omega) (by omega) (by omega) (by omega) ?_
                          intro g2 cap2 w4 hown4 hA4
                          have hd4 : Bk w4 ob 26 #[.slice OA OL oc] := (hd.alloc _).grown hA4.grown (Ne.symm hdne)
                          have p3 : w4.cell? ⟨ob, 0, none⟩ = some (.slice OA OL oc) := hd4.cell 0
                          have p4 : w4.frozen? ⟨ob, 0, none⟩ = false := hd4.frozen 0)
  have hg2ob : g2 ≠ ob := fun e => own_ne_bk hown4 hd4 (by decide) (by rw [e]; rfl)
  have hobK : K4 ob := (hK _).2 (.inl rfl)
  have k5 : Keep K4 V4 (w4.setCell ⟨ob, 0, none⟩ (.slice (some ⟨g2, 0, none⟩) (OL + 1) cap2)) :=
    (((Keep.refl K4 V4).alloc _).grown hA4.grown fun k hk => .inl ((hK k).2 (.inr (.inr (.inr hk.symm.symm))))).setCell (.inl hobK) _
  have hv5 := hv4.keep k5 nk1 nk2 nk3 nk4
  have Bx5 := Bx4.keep k5 nkx
  have hd5 : Bk (w4.setCell ⟨ob, 0, none⟩ (.slice (some ⟨g2, 0, none⟩) (OL + 1) cap2)) ob 26 #[.slice (some ⟨g2, 0, none⟩) (OL + 1) cap2] := hd4.put 0 _
  have hown5 : (w4.setCell ⟨ob, 0, none⟩ (.slice (some ⟨g2, 0, none⟩) (OL + 1) cap2)).ownsRow 0 53 6 (.slice (some ⟨g2, 0, none⟩) (OL + 1) cap2) (OL + 1) (fmC o4 ++ [.int .i64 op, .int .i64 ni, .int .i64 ne, .int .i64 ng, .int .i64 (r4 : Nat), .int .i64 0]) :=
    own_keep hown4 fun k hk => Below.heap_setCell _ _ _ _ (fun e => hg2ob (by injection hk with hk; exact (show g2 = k from hk).trans e))
  have hmk : ∀ m, m < V4.heap.size → m ≠ ob → (Value.slice OA OL oc).ownBlock ≠ some m → (w4.setCell ⟨ob, 0, none⟩ (.slice (some ⟨g2, 0, none⟩) (OL + 1) cap2)).heap[m]? = V4.heap[m]? := fun m hm hmo hmv =>
    (Below.heap_setCell _ _ _ _ hmo).trans ((hA4.grown.block m (by simp; omega) (Ne.symm hmv)).trans (Below.heap_alloc _ _ _ hm))
  have hm15 := hm1.block (hmk m1 hm1.lt (hm1.ne_bk hd) (own_ne_map ho hm1))
  have hm25 := hm2.block (hmk m2 hm2.lt (hm2.ne_bk hd) (own_ne_map ho hm2))
  have hat2 := hA4.at_
  have hszW : (V4.alloc (.cells #[.int .i64 op, .int .i64 ni, .int .i64 ne, .int .i64 ng, .int .i64 (r4 : Nat), .int .i64 0] 53)).heap.size = V4.heap.size + 1 := by simp
  clear hd4 hown4 p3 p4 hovc hdb hnb x0 x1 x2 x3 x4 x5 hl1 hmk
  generalize w4.setCell ⟨ob, 0, none⟩ (.slice (some ⟨g2, 0, none⟩) (OL + 1) cap2) = w5 at *
  have hdb : w5.cell? ⟨db, 0, none⟩ = some (.map (some m2)) := hv5.dv.cell 0
  have hnb : w5.cell? ⟨nb, 0, none⟩ = some (.map (some m1)) := hv5.nv.cell 0
  have x0 : w5.cell? ⟨w.heap.size, 0, none⟩ = some (.int .i64 op) := Bx5.cell 0
  have x1 : w5.cell? ⟨w.heap.size, 1, none⟩ = some (.int .i64 ni) := Bx5.cell 1
  have x2 : w5.cell? ⟨w.heap.size, 2, none⟩ = some (.int .i64 ne) := Bx5.cell 2
  have x3 : w5.cell? ⟨w.heap.size, 3, none⟩ = some (.int .i64 ng) := Bx5.cell 3
  have x4 : w5.cell? ⟨w.heap.size, 4, none⟩ = some (.int .i64 (r4 : Nat)) := Bx5.cell 4
  have x5 : w5.cell? ⟨w.heap.size, 5, none⟩ = some (.int .i64 0) := Bx5.cell 5
  go_wp2_with (first
    | (at_mapUpdate
       refine wpList_mapT (by rfl) hm15 encNode Try.underlying93 (x := ⟨op, ni, ne, ng, (r4 : Nat), 0⟩) HOK.out OL (.tmp 61) (.tmp 62) (.tmp 63) (by rfl) (by rfl) (by rfl) (by rfl) ?_
       intro w6 hm16 hg6 hsz6
       have hdb6 : w6.cell? ⟨db, 0, none⟩ = some (.map (some m2)) := hg6.cell (a := ⟨db, 0, none⟩) hdb (by simpa using (hm15.ne_bk hv5.dv).symm)
       have hm26 := hm25.block (hg6.block _ hm25.lt (by simpa using hne.symm)))
    | (at_mapUpdate
       refine wpList_mapT (by rfl) hm26 encInt Try.underlying94 (x := i) (by unfold tiny; omega) OL (.tmp 64) (.tmp 65) (.tmp 66) (by rfl) (by rfl) (by rfl) (by rfl) ?_
       intro w7 hm27 hg7 hsz7))
  go_ret
  rw [HINS2.out]
  have hstep : Keep K4 V4 w7 ∧ ∀ k, (k = ob ∨ k = m1 ∨ k = m2 ∨ some g2 = some k) → K4 k ∨ V4.heap.size ≤ k := by
    refine ⟨(k5.grown hg6 fun k hk => .inl ((hK k).2 (.inr (.inl (by simpa using hk.symm))))).grown hg7 fun k hk => .inl ((hK k).2 (.inr (.inr (.inl (by simpa using hk.symm))))), fun k hk => ?_⟩
    rcases hk with rfl | rfl | rfl | hk
    · exact .inl hobK
    · exact .inl ((hK _).2 (.inr (.inl rfl)))
    · exact .inl ((hK _).2 (.inr (.inr (.inl rfl))))
    · rcases hat2 with h | h
      · exact .inl ((hK k).2 (.inr (.inr (.inr (h.trans hk)))))
      · have : g2 = k := by simpa using hk
        exact .inr (by omega)
  have hall := grow_trans HF4.out hstep
  have hown7 : w7.ownsRow 0 53 6 (.slice (some ⟨g2, 0, none⟩) (OL + 1) cap2) (OL + 1) (fmC o4 ++ [.int .i64 op, .int .i64 ni, .int .i64 ne, .int .i64 ng, .int .i64 (r4 : Nat), .int .i64 0]) :=
    own_keep (own_keep hown5 fun k hk => hg6.block k (hown5.lt k hk).2 fun e => own_ne_map hown5 hm15 (by rw [hk, e])) fun k hk => by
      have hlt5 := (hown5.lt k hk).2
      exact hg7.block k (by omega) fun e => own_ne_map hown5 hm25 (by rw [hk, e])
  refine ⟨fun k => k = ob ∨ k = m1 ∨ k = m2 ∨ some g2 = some k, _, _, rfl, ⟨_, (hd5.grown hg6 ?_).grown hg7 ?_, ?_, (hm16.block (hg7.block _ hm16.lt ?_)).congr ?_, hm27, hne, fun k => Iff.rfl⟩, HINV.out.congr fun y => (by by_cases hyi : y = i <;> simp [hyi]), fun x hx => ?_, hall.1, hall.2⟩
  · have := hm15.ne_bk hd5
    simpa using this.symm
  · have := hm25.ne_bk hd5
    simpa using this.symm
  · rw [HLN.out, HFC.out]
    exact hown7
  · simpa using hne
  · intro y
    rw [HNS.out y]
    by_cases hy : y = ⟨op, ni, ne, ng, (r4 : Nat), 0⟩
    · rw [if_pos hy, if_pos hy]
    · rw [if_neg hy, if_neg hy]
  · rcases List.mem_cons.1 hx with rfl | hx
    · exact .inr (Nat.le_refl _)
    · exact (d4s x hx).imp id (fun h => by omega)
theorem fin_bin_found {i : Nat} (IH : Hid (∀ a, a < i → FIH a)) (hi : i < f.length) (hc : Fm.Okf f) (hI : Inv f out g ds) (hrd : Rd w (.slice A f.length c) 6 f.length (fmC f)) (hv : FV w db fb vb nb ob m1 m2 A f.length c) (hs : FS w ob m1 m2 out g K) (hA : ∀ k, (Value.slice A f.length c).ownBlock = some k → ¬ K k) (k1 : ¬ K db) (k2 : ¬ K fb) (k3 : ¬ K vb) (k4 : ¬ K nb) (hnone : g i = none)
    {n : Nd} (hn : f[i]? = some n) (hux : usesX n.op = true) (huy : usesY n.op = true) (hmem : (⟨n.op, n.i, n.e, n.g, ((ins (tree f n.x.toNat) out).1 : Nat), ((ins (tree f n.y.toNat) (ins (tree f n.x.toNat) out).2).1 : Nat)⟩ : Nd) ∈ (ins (tree f n.y.toNat) (ins (tree f n.x.toNat) out).2).2) :
    Calls Try.prog 44 (finArgs i db fb vb nb ob) w (FPost f ob m1 m2 K w ds i (ins (tree f i) out)) := by
  have h200 := hc.len
  have hown := hc.own i n hn
  have hord := hc.ord i n hn
  have hnd : i ∉ ds := fun h => by
    obtain ⟨k, hk⟩ := (hI.dom i).2 h
    rw [hnone] at hk
    cases hk
  have HU : Hid (∀ w, Calls Try.prog 38 #[.int .i64 n.op] w fun e w' => e = .returned (.tuple #[.agg #[.bool true, .bool true, .bool (Fm.usesFact n.op), .bool (Fm.usesAgent n.op), .bool (Fm.usesGroup n.op), .bool (Fm.usesEvent n.op), .int .i64 (fragN n.op)], .bool (Fm.isOp n.op)]) ∧ Keep NoF w w') := Lib.hid fun w => by
    have := uses_any w n.op
    rw [show useV n.op = .agg #[.bool (usesX n.op), .bool (usesY n.op), .bool (Fm.usesFact n.op), .bool (Fm.usesAgent n.op), .bool (Fm.usesGroup n.op), .bool (Fm.usesEvent n.op), .int .i64 (fragN n.op)] from rfl, hux, huy] at this
    exact this
  obtain ⟨op, ni, ne, ng, nx, ny⟩ := n
  simp only at hux huy hord hown HU
  have hxx := hord.1 hux
  have hyy := hord.2.2.1 huy
  obtain ⟨a, rfl⟩ : ∃ a : Nat, nx = a := ⟨nx.toNat, by omega⟩
  obtain ⟨b, rfl⟩ : ∃ b : Nat, ny = b := ⟨ny.toNat, by omega⟩
  have ha : a < i := by omega
  have hb : b < i := by omega
  clear hxx hyy
  simp only [Int.toNat_natCast] at hmem
  have HORD := Lib.hid hord
  clear hord
  have hl0 : (Instr.lookup 94 (.map (some m2)) (.int .i64 i) true).run Try.prog w = .ok (.tuple #[.int .i64 0, .bool false]) w := by
    obtain ⟨ov, hd, ho, hm1, hm2, hne, hK⟩ := hs
    have := hm2.look encInt Try.underlying94 (zeroInt _) (x := i) (by unfold tiny; omega) true
    simpa [hnone, inV] using this
  obtain ⟨bl, off, rfl, _, hcap, q0, q1, q2, q3, q4, q5⟩ := hrd.nd hn
  have hfl := hrd.blk_lt (by omega) (by omega) bl rfl
  have hAb := hA bl rfl
  have d1 : w.cell? ⟨db, 0, none⟩ = some (.map (some m2)) := hv.dv.cell 0
  have d2 : w.cell? ⟨fb, 0, none⟩ = some (.slice (some ⟨bl, off, none⟩) f.length c) := hv.fv.cell 0
  have Bx := Bk.new w 53 #[.int .i64 op, .int .i64 ni, .int .i64 ne, .int .i64 ng, .int .i64 (a : Nat), .int .i64 (b : Nat)]
  have Kx : Keep NoF w (w.alloc (.cells #[.int .i64 op, .int .i64 ni, .int .i64 ne, .int .i64 ng, .int .i64 (a : Nat), .int .i64 (b : Nat)] 53)) := (Keep.refl _ _).alloc _
  have hx0 := Bx.cell 0
  have hi2 : (i : Int) < (f.length : Int) := by omega
  have hi0 : (0 : Int) ≤ (i : Int) := by omega
  have HI := Lib.hid hI
  have HHRD := Lib.hid hrd
  have HCK := Lib.hid hc
  have HNONE := Lib.hid hnone
  have HN := Lib.hid hn
  have HOWN := Lib.hid hown
  clear hI hrd hc hnone hn hown
  generalize hfi : Fm.usesFact op = uf at *
  generalize hfa : Fm.usesAgent op = ua at *
  generalize hfg : Fm.usesGroup op = ug at *
  generalize hfe : Fm.usesEvent op = ue at *
  generalize hfo : Fm.isOp op = uo at *
  generalize hff : fragN op = fr at *
  clear hfi hfa hfg hfe hfo hff
  unfold finArgs
  go_enter Try.func44, Try.ntmps44
  go_upto_region 6 with (go_at_call 38
                         (with_reducible refine (HU.out _).mono ?_)
                         rintro e w2 ⟨rfl, K2⟩)
  have Bx2 := Bk.keep (F := NoF) Bx K2 (fun h => h)
  have W2x : w.heap.size < w2.heap.size := Bx2.lt
  have UV : List Value := []
  clear UV
  have Bu := Bk.new w2 81 #[.bool true, .bool true, .bool uf, .bool ua, .bool ug, .bool ue, .int .i64 fr]
  have Bx3 := Bx2.alloc (.cells #[.bool true, .bool true, .bool uf, .bool ua, .bool ug, .bool ue, .int .i64 fr] 81)
  have K3 : Keep NoF w (w2.alloc (.cells #[.bool true, .bool true, .bool uf, .bool ua, .bool ug, .bool ue, .int .i64 fr] 81)) := (Kx.trans K2 fun _ _ h => h).alloc _
  have HK3 := Lib.hid K3
  have hv3 := hv.keep K3 (fun h => h) (fun h => h) (fun h => h) (fun h => h)
  have hs3 := hs.keep0 K3
  have hbx : ¬ K w.heap.size := fun h => by have := hs.lt _ h; omega
  have hbu : ¬ K w2.heap.size := fun h => by have := hs.lt _ h; omega
  have L3 : w2.heap.size < (w2.alloc (.cells #[.bool true, .bool true, .bool uf, .bool ua, .bool ug, .bool ue, .int .i64 fr] 81)).heap.size := Bu.lt
  clear Bx Kx hx0 K2 Bx2 d1 d2 hl0 q0 q1 q2 q3 q4 q5 K3
  generalize (w2.alloc (.cells #[.bool true, .bool true, .bool uf, .bool ua, .bool ug, .bool ue, .int .i64 fr] 81)) = W3 at *
  have u0 : W3.cell? ⟨w2.heap.size, 0, none⟩ = some (.bool true) := Bu.cell 0
  have u1 : W3.cell? ⟨w2.heap.size, 1, none⟩ = some (.bool true) := Bu.cell 1
  have nk1 := k1
  have nk2 := k2
  have nk3 := k3
  have nk4 := k4
  have nkx := hbx
  have nku := hbu
  have nkA := hAb
  have hAK : ∀ k, (Value.slice (some ⟨bl, off, none⟩) f.length c).ownBlock = some k → ¬ K k := hA
  have W3le : w.heap.size ≤ W3.heap.size := HK3.out.size
  have HF : Hid (Keep K w W3 ∧ ∀ k, K k → K k ∨ w.heap.size ≤ k) := Lib.hid ⟨HK3.out.mono fun _ _ h => h.elim, fun k h => .inl h⟩
  have z3 : W3.cell? ⟨vb, 0, none⟩ = some (.func (.func 44) #[] #[.pointer (some ⟨db, 0, none⟩), .pointer (some ⟨fb, 0, none⟩), .pointer (some ⟨vb, 0, none⟩), .pointer (some ⟨nb, 0, none⟩), .pointer (some ⟨ob, 0, none⟩)]) := hv3.vv.cell 0
  have x0 : W3.cell? ⟨w.heap.size, 0, none⟩ = some (.int .i64 op) := Bx3.cell 0
  have x1 : W3.cell? ⟨w.heap.size, 1, none⟩ = some (.int .i64 ni) := Bx3.cell 1
  have x2 : W3.cell? ⟨w.heap.size, 2, none⟩ = some (.int .i64 ne) := Bx3.cell 2
  have x3 : W3.cell? ⟨w.heap.size, 3, none⟩ = some (.int .i64 ng) := Bx3.cell 3
  have x4 : W3.cell? ⟨w.heap.size, 4, none⟩ = some (.int .i64 (a : Nat)) := Bx3.cell 4
  have x5 : W3.cell? ⟨w.heap.size, 5, none⟩ = some (.int .i64 (b : Nat)) := Bx3.cell 5
  go_wp2_with fail
  clear z3 x0 x1 x2 x3 x4 x5
  have hrd4 := HHRD.out.kept (HF.out.1) hAK
  have hA4 : ∀ k, (Value.slice (some ⟨bl, off, none⟩) f.length c).ownBlock = some k → ¬ K k := fun k hk => by
    obtain rfl : bl = k := by simpa [Value.ownBlock] using hk
    exact nkA
  refine (IH.out a (by omega) f db fb vb nb ob m1 m2 _ c K W3 out g ds HCK.out (by omega) HI.out hrd4 hv3 hs3 hA4 nk1 nk2 nk3 nk4).mono ?_
  rintro e w4 ⟨K4, g4, d4, rfl, hs4, hI4, d4s, hk4, hK4⟩
  have hrl4 := (Fm.rep_ins (tree f a) out).lt
  have HR4 : Hid (ins (tree f a) out = ((ins (tree f a) out).1, (ins (tree f a) out).2)) := Lib.hid rfl
  have hsmall4 := hI4.small
  generalize (ins (tree f a) out).1 = r4 at *
  generalize (ins (tree f a) out).2 = o4 at *
  have HI4 := Lib.hid hI4
  clear hI4
  have hf4 := Lib.hid (grow_trans HF.out ⟨hk4, hK4⟩)
  have hold4 : ∀ x, x < W3.heap.size → ¬ K x → ¬ K4 x := fun x hx hn h => by
    rcases hK4 x h with h | h
    · exact hn h
    · omega
  have zA := hold4 _ (hv3.dv.lt) nk1
  have zB := hold4 _ (hv3.fv.lt) nk2
  have zC := hold4 _ (hv3.vv.lt) nk3
  have zD := hold4 _ (hv3.nv.lt) nk4
  have zE := hold4 _ (Bx3.lt) nkx
  have zF := hold4 _ (Bu.lt) nku
  have zG := hold4 bl (by have := W3le; omega) nkA
  have Bxa := Bx3.keep hk4 nkx
  have Bua := Bu.keep hk4 nku
  have hva := hv3.keep hk4 nk1 nk2 nk3 nk4
  have wle4 := hk4.size
  clear nk1 nk2 nk3 nk4 nkx nku nkA
  have nk1 := zA
  have nk2 := zB
  have nk3 := zC
  have nk4 := zD
  have nkx := zE
  have nku := zF
  have nkA := zG
  clear zA zB zC zD zE zF zG
  have y0 := Bxa.cell 4
  have y1 := Bxa.frozen 4
  have y2 := Bua.cell 1
  go_upto_region 8 with (fail)
  clear y0 y1 y2
  have Bx4 : Bk (w4.setCell ⟨w.heap.size, 4, none⟩ (.int .i64 (r4 : Nat))) w.heap.size 53 #[.int .i64 op, .int .i64 ni, .int .i64 ne, .int .i64 ng, .int .i64 (r4 : Nat), .int .i64 (b : Nat)] := Bxa.put 4 _
  have KS4 : Keep (fun k => k = w.heap.size) w4 (w4.setCell ⟨w.heap.size, 4, none⟩ (.int .i64 (r4 : Nat))) := (Keep.refl (fun k => k = w.heap.size) w4).setCell (.inl rfl) _
  have ldb := hv.dv.lt
  have lfb := hv.fv.lt
  have lvb := hv.vv.lt
  have lnb := hv.nv.lt
  have hv4 := hva.keep KS4 (by omega) (by omega) (by omega) (by omega)
  have Bu4 := Bua.keep KS4 (by omega)
  have hsv4 := hs4.block fun k hk => KS4.block k (hs4.lt k hk) fun e => nkx (e ▸ hk)
  have HF4 : Hid (Keep K w (w4.setCell ⟨w.heap.size, 4, none⟩ (.int .i64 (r4 : Nat))) ∧ ∀ k, K4 k → K k ∨ w.heap.size ≤ k) := Lib.hid ⟨hf4.out.1.trans KS4 fun i hi e => by omega, hf4.out.2⟩
  have V4le : w.heap.size ≤ (w4.setCell ⟨w.heap.size, 4, none⟩ (.int .i64 (r4 : Nat))).heap.size := by have := W3le; simp; omega
  clear Bxa Bua hva KS4 ldb lfb lvb lnb
  generalize w4.setCell ⟨w.heap.size, 4, none⟩ (.int .i64 (r4 : Nat)) = V4 at *
  have u1 : V4.cell? ⟨w2.heap.size, 1, none⟩ = some (.bool true) := Bu4.cell 1
  have z3 : V4.cell? ⟨vb, 0, none⟩ = some (.func (.func 44) #[] #[.pointer (some ⟨db, 0, none⟩), .pointer (some ⟨fb, 0, none⟩), .pointer (some ⟨vb, 0, none⟩), .pointer (some ⟨nb, 0, none⟩), .pointer (some ⟨ob, 0, none⟩)]) := hv4.vv.cell 0
  have x0 : V4.cell? ⟨w.heap.size, 0, none⟩ = some (.int .i64 op) := Bx4.cell 0
  have x1 : V4.cell? ⟨w.heap.size, 1, none⟩ = some (.int .i64 ni) := Bx4.cell 1
  have x2 : V4.cell? ⟨w.heap.size, 2, none⟩ = some (.int .i64 ne) := Bx4.cell 2
  have x3 : V4.cell? ⟨w.heap.size, 3, none⟩ = some (.int .i64 ng) := Bx4.cell 3
  have x4 : V4.cell? ⟨w.heap.size, 4, none⟩ = some (.int .i64 (r4 : Nat)) := Bx4.cell 4
  have x5 : V4.cell? ⟨w.heap.size, 5, none⟩ = some (.int .i64 (b : Nat)) := Bx4.cell 5
  go_wp2_with fail
  clear z3 x0 x1 x2 x3 x4 x5
  have hrd6 := HHRD.out.kept (HF4.out.1) hAK
  have hA6 : ∀ k, (Value.slice (some ⟨bl, off, none⟩) f.length c).ownBlock = some k → ¬ K4 k := fun k hk => by
    obtain rfl : bl = k := by simpa [Value.ownBlock] using hk
    exact nkA
  refine (IH.out b (by omega) f db fb vb nb ob m1 m2 _ c K4 V4 o4 g4 d4 HCK.out (by omega) HI4.out hrd6 hv4 hsv4 hA6 nk1 nk2 nk3 nk4).mono ?_
  rintro e w6 ⟨K6, g6, d6, rfl, hs6, hI6, d6s, hk6, hK6⟩
  have hrl6 := (Fm.rep_ins (tree f b) o4).lt
  have HR6 : Hid (ins (tree f b) o4 = ((ins (tree f b) o4).1, (ins (tree f b) o4).2)) := Lib.hid rfl
  have hsmall6 := hI6.small
  generalize (ins (tree f b) o4).1 = r6 at *
  generalize (ins (tree f b) o4).2 = o6 at *
  have HI6 := Lib.hid hI6
  clear hI6
  have hf6 := Lib.hid (grow_trans HF4.out ⟨hk6, hK6⟩)
  have hold6 : ∀ x, x < V4.heap.size → ¬ K4 x → ¬ K6 x := fun x hx hn h => by
    rcases hK6 x h with h | h
    · exact hn h
    · omega
  have zA := hold6 _ (hv4.dv.lt) nk1
  have zB := hold6 _ (hv4.fv.lt) nk2
  have zC := hold6 _ (hv4.vv.lt) nk3
  have zD := hold6 _ (hv4.nv.lt) nk4
  have zE := hold6 _ (Bx4.lt) nkx
  have zF := hold6 _ (Bu4.lt) nku
  have zG := hold6 bl (by have := V4le; omega) nkA
  have Bxa := Bx4.keep hk6 nkx
  have Bua := Bu4.keep hk6 nku
  have hva := hv4.keep hk6 nk1 nk2 nk3 nk4
  have wle6 := hk6.size
  clear nk1 nk2 nk3 nk4 nkx nku nkA
  have nk1 := zA
  have nk2 := zB
  have nk3 := zC
  have nk4 := zD
  have nkx := zE
  have nku := zF
  have nkA := zG
  clear zA zB zC zD zE zF zG
  have y0 := Bxa.cell 5
  have y1 := Bxa.frozen 5
  have y2 := Bua.cell 1
  go_upto_region 10 with (fail)
  clear y0 y1 y2
  have Bx6 : Bk (w6.setCell ⟨w.heap.size, 5, none⟩ (.int .i64 (r6 : Nat))) w.heap.size 53 #[.int .i64 op, .int .i64 ni, .int .i64 ne, .int .i64 ng, .int .i64 (r4 : Nat), .int .i64 (r6 : Nat)] := Bxa.put 5 _
  have KS6 : Keep (fun k => k = w.heap.size) w6 (w6.setCell ⟨w.heap.size, 5, none⟩ (.int .i64 (r6 : Nat))) := (Keep.refl (fun k => k = w.heap.size) w6).setCell (.inl rfl) _
  have ldb := hv.dv.lt
  have lfb := hv.fv.lt
  have lvb := hv.vv.lt
  have lnb := hv.nv.lt
  have hv6 := hva.keep KS6 (by omega) (by omega) (by omega) (by omega)
  have Bu6 := Bua.keep KS6 (by omega)
  have hsv6 := hs6.block fun k hk => KS6.block k (hs6.lt k hk) fun e => nkx (e ▸ hk)
  have HF6 : Hid (Keep K w (w6.setCell ⟨w.heap.size, 5, none⟩ (.int .i64 (r6 : Nat))) ∧ ∀ k, K6 k → K k ∨ w.heap.size ≤ k) := Lib.hid ⟨hf6.out.1.trans KS6 fun i hi e => by omega, hf6.out.2⟩
  have V6le : w.heap.size ≤ (w6.setCell ⟨w.heap.size, 5, none⟩ (.int .i64 (r6 : Nat))).heap.size := by have := V4le; simp; omega
  clear Bxa Bua hva KS6 ldb lfb lvb lnb
  generalize w6.setCell ⟨w.heap.size, 5, none⟩ (.int .i64 (r6 : Nat)) = V6 at *
  have HOK : Hid (okN ⟨op, ni, ne, ng, (r4 : Nat), (r6 : Nat)⟩) := Lib.hid (Fm.ok_own HOWN.out (by unfold okI; omega) (by unfold okI; omega))
  have HINS : Hid (ins (tree f i) out = put ⟨op, ni, ne, ng, (r4 : Nat), (r6 : Nat)⟩ o6) := Lib.hid (by
    rw [Fm.tree_bin HN.out huy (by simpa using ha) (by simpa using hb)]
    simp only [Int.toNat_natCast]
    unfold ins
    rw [HR4.out]
    simp only
    rw [HR6.out])
  have hnd6 : i ∉ d6 := fun h => by
    rcases d6s i h with h | h
    · rcases d4s i h with h | h
      · exact hnd h
      · omega
    · omega
  have hsl := hsv6.lt
  obtain ⟨ov, hd, ho, hm1, hm2, hne, hK⟩ := hsv6
  have hsm := HI6.out.small
  have hdb : V6.cell? ⟨db, 0, none⟩ = some (.map (some m2)) := hv6.dv.cell 0
  have hnb : V6.cell? ⟨nb, 0, none⟩ = some (.map (some m1)) := hv6.nv.cell 0
  have x0 : V6.cell? ⟨w.heap.size, 0, none⟩ = some (.int .i64 op) := Bx6.cell 0
  have x1 : V6.cell? ⟨w.heap.size, 1, none⟩ = some (.int .i64 ni) := Bx6.cell 1
  have x2 : V6.cell? ⟨w.heap.size, 2, none⟩ = some (.int .i64 ne) := Bx6.cell 2
  have x3 : V6.cell? ⟨w.heap.size, 3, none⟩ = some (.int .i64 ng) := Bx6.cell 3
  have x4 : V6.cell? ⟨w.heap.size, 4, none⟩ = some (.int .i64 (r4 : Nat)) := Bx6.cell 4
  have x5 : V6.cell? ⟨w.heap.size, 5, none⟩ = some (.int .i64 (r6 : Nat)) := Bx6.cell 5
  have hnum : numb o6 ⟨op, ni, ne, ng, (r4 : Nat), (r6 : Nat)⟩ = some (o6.idxOf (⟨op, ni, ne, ng, (r4 : Nat), (r6 : Nat)⟩ : Nd)) := by unfold numb; rw [if_pos hmem]
  have hput : put (⟨op, ni, ne, ng, (r4 : Nat), (r6 : Nat)⟩ : Nd) o6 = (o6.idxOf (⟨op, ni, ne, ng, (r4 : Nat), (r6 : Nat)⟩ : Nd), o6) := by unfold put; rw [if_pos hmem]
  have hInv := Inv.put HI6.out hi hnd6 HOK.out (by rw [← HINS.out]; exact Fm.rep_ins _ _)
  rw [hput] at hInv
  have HINV := Lib.hid hInv
  clear hInv
  have HINS2 := Lib.hid (HINS.out.trans hput)
  generalize o6.idxOf (⟨op, ni, ne, ng, (r4 : Nat), (r6 : Nat)⟩ : Nd) = kk at *
  have hl1 : (Instr.lookup 93 (.map (some m1)) (.agg #[.int .i64 op, .int .i64 ni, .int .i64 ne, .int .i64 ng, .int .i64 (r4 : Nat), .int .i64 (r6 : Nat)]) true).run Try.prog V6 = .ok (.tuple #[.int .i64 kk, .bool true]) V6 := by
    have := hm1.look encNode Try.underlying93 (zeroInt _) (x := ⟨op, ni, ne, ng, (r4 : Nat), (r6 : Nat)⟩) HOK.out true
    simpa [hnum, inV] using this
  go_wp2_with (first
    | (at_mapUpdate
       refine wpList_mapT (by rfl) hm2 encInt Try.underlying94 (x := i) (by unfold tiny; omega) kk (.tmp 64) (.tmp 65) (.tmp 66) (by rfl) (by rfl) (by rfl) (by rfl) ?_
       intro w6 hm6 hg6 hsz6))
  go_ret
  rw [HINS2.out]
  have hstep : Keep K6 V6 w6 ∧ ∀ k, K6 k → K6 k ∨ V6.heap.size ≤ k := ⟨(Keep.refl _ _).grown hg6 fun k hk => .inl ((hK k).2 (.inr (.inr (.inl (by simpa using hk.symm))))), fun k hk => .inl hk⟩
  have hall := grow_trans HF6.out hstep
  refine ⟨K6, _, _, rfl, ⟨ov, hd.grown hg6 ?_, own_keep ho fun k hk => hg6.block k (ho.lt k hk).2 ?_, hm1.block (hg6.block _ hm1.lt ?_), hm6, hne, hK⟩, HINV.out.congr fun y => (by by_cases hyi : y = i <;> simp [hyi]), fun x hx => ?_, hall.1, hall.2⟩
  · have := hm2.ne_bk hd
    simpa using this.symm
  · have := own_ne_map ho hm2
    rw [hk] at this
    simpa using this
  · simpa using hne
  · rcases List.mem_cons.1 hx with rfl | hx
    · exact .inr (Nat.le_refl _)
    · exact (d6s x hx).elim (fun h => (d4s x h).imp id (fun h => by omega)) (fun h => .inr (by omega))
theorem fin_bin_new {i : Nat} (IH : Hid (∀ a, a < i → FIH a)) (hi : i < f.length) (hc : Fm.Okf f) (hI : Inv f out g ds) (hrd : Rd w (.slice A f.length c) 6 f.length (fmC f)) (hv : FV w db fb vb nb ob m1 m2 A f.length c) (hs : FS w ob m1 m2 out g K) (hA : ∀ k, (Value.slice A f.length c).ownBlock = some k → ¬ K k) (k1 : ¬ K db) (k2 : ¬ K fb) (k3 : ¬ K vb) (k4 : ¬ K nb) (hnone : g i = none)
    {n : Nd} (hn : f[i]? = some n) (hux : usesX n.op = true) (huy : usesY n.op = true) (hmem : (⟨n.op, n.i, n.e, n.g, ((ins (tree f n.x.toNat) out).1 : Nat), ((ins (tree f n.y.toNat) (ins (tree f n.x.toNat) out).2).1 : Nat)⟩ : Nd) ∉ (ins (tree f n.y.toNat) (ins (tree f n.x.toNat) out).2).2) :
    Calls Try.prog 44 (finArgs i db fb vb nb ob) w (FPost f ob m1 m2 K w ds i (ins (tree f i) out)) := by
  have h200 := hc.len
  have hown := hc.own i n hn
  have hord := hc.ord i n hn
  have hnd : i ∉ ds := fun h => by
    obtain ⟨k, hk⟩ := (hI.dom i).2 h
    rw [hnone] at hk
    cases hk
  have HU : Hid (∀ w, Calls Try.prog 38 #[.int .i64 n.op] w fun e w' => e = .returned (.tuple #[.agg #[.bool true, .bool true, .bool (Fm.usesFact n.op), .bool (Fm.usesAgent n.op), .bool (Fm.usesGroup n.op), .bool (Fm.usesEvent n.op), .int .i64 (fragN n.op)], .bool (Fm.isOp n.op)]) ∧ Keep NoF w w') := Lib.hid fun w => by
    have := uses_any w n.op
    rw [show useV n.op = .agg #[.bool (usesX n.op), .bool (usesY n.op), .bool (Fm.usesFact n.op), .bool (Fm.usesAgent n.op), .bool (Fm.usesGroup n.op), .bool (Fm.usesEvent n.op), .int .i64 (fragN n.op)] from rfl, hux, huy] at this
    exact this
  obtain ⟨op, ni, ne, ng, nx, ny⟩ := n
  simp only at hux huy hord hown HU
  have hxx := hord.1 hux
  have hyy := hord.2.2.1 huy
  obtain ⟨a, rfl⟩ : ∃ a : Nat, nx = a := ⟨nx.toNat, by omega⟩
  obtain ⟨b, rfl⟩ : ∃ b : Nat, ny = b := ⟨ny.toNat, by omega⟩
  have ha : a < i := by omega
  have hb : b < i := by omega
  clear hxx hyy
  simp only [Int.toNat_natCast] at hmem
  have HORD := Lib.hid hord
  clear hord
  have hl0 : (Instr.lookup 94 (.map (some m2)) (.int .i64 i) true).run Try.prog w = .ok (.tuple #[.int .i64 0, .bool false]) w := by
    obtain ⟨ov, hd, ho, hm1, hm2, hne, hK⟩ := hs
    have := hm2.look encInt Try.underlying94 (zeroInt _) (x := i) (by unfold tiny; omega) true
    simpa [hnone, inV] using this
  obtain ⟨bl, off, rfl, _, hcap, q0, q1, q2, q3, q4, q5⟩ := hrd.nd hn
  have hfl := hrd.blk_lt (by omega) (by omega) bl rfl
  have hAb := hA bl rfl
  have d1 : w.cell? ⟨db, 0, none⟩ = some (.map (some m2)) := hv.dv.cell 0
  have d2 : w.cell? ⟨fb, 0, none⟩ = some (.slice (some ⟨bl, off, none⟩) f.length c) := hv.fv.cell 0
  have Bx := Bk.new w 53 #[.int .i64 op, .int .i64 ni, .int .i64 ne, .int .i64 ng, .int .i64 (a : Nat), .int .i64 (b : Nat)]
  have Kx : Keep NoF w (w.alloc (.cells #[.int .i64 op, .int .i64 ni, .int .i64 ne, .int .i64 ng, .int .i64 (a : Nat), .int .i64 (b : Nat)] 53)) := (Keep.refl _ _).alloc _
  have hx0 := Bx.cell 0
  have hi2 : (i : Int) < (f.length : Int) := by omega
  have hi0 : (0 : Int) ≤ (i : Int) := by omega
  have HI := Lib.hid hI
  have HHRD := Lib.hid hrd
  have HCK := Lib.hid hc
  have HNONE := Lib.hid hnone
  have HN := Lib.hid hn
  have HOWN := Lib.hid hown
  clear hI hrd hc hnone hn hown
  generalize hfi : Fm.usesFact op = uf at *
  generalize hfa : Fm.usesAgent op = ua at *
  generalize hfg : Fm.usesGroup op = ug at *
  generalize hfe : Fm.usesEvent op = ue at *
  generalize hfo : Fm.isOp op = uo at *
  generalize hff : fragN op = fr at *
  clear hfi hfa hfg hfe hfo hff
  unfold finArgs
  go_enter Try.func44, Try.ntmps44
  go_upto_region 6 with (go_at_call 38
                         (with_reducible refine (HU.out _).mono ?_)
                         rintro e w2 ⟨rfl, K2⟩)
  have Bx2 := Bk.keep (F := NoF) Bx K2 (fun h => h)
  have W2x : w.heap.size < w2.heap.size := Bx2.lt
  have UV : List Value := []
  clear UV
  have Bu := Bk.new w2 81 #[.bool true, .bool true, .bool uf, .bool ua, .bool ug, .bool ue, .int .i64 fr]
  have Bx3 := Bx2.alloc (.cells #[.bool true, .bool true, .bool uf, .bool ua, .bool ug, .bool ue, .int .i64 fr] 81)
  have K3 : Keep NoF w (w2.alloc (.cells #[.bool true, .bool true, .bool uf, .bool ua, .bool ug, .bool ue, .int .i64 fr] 81)) := (Kx.trans K2 fun _ _ h => h).alloc _
  have HK3 := Lib.hid K3
  have hv3 := hv.keep K3 (fun h => h) (fun h => h) (fun h => h) (fun h => h)
  have hs3 := hs.keep0 K3
  have hbx : ¬ K w.heap.size := fun h => by have := hs.lt _ h; omega
  have hbu : ¬ K w2.heap.size := fun h => by have := hs.lt _ h; omega
  have L3 : w2.heap.size < (w2.alloc (.cells #[.bool true, .bool true, .bool uf, .bool ua, .bool ug, .bool ue, .int .i64 fr] 81)).heap.size := Bu.lt
  clear Bx Kx hx0 K2 Bx2 d1 d2 hl0 q0 q1 q2 q3 q4 q5 K3
  generalize (w2.alloc (.cells #[.bool true, .bool true, .bool uf, .bool ua, .bool ug, .bool ue, .int .i64 fr] 81)) = W3 at *
  have u0 : W3.cell? ⟨w2.heap.size, 0, none⟩ = some (.bool true) := Bu.cell 0
  have u1 : W3.cell? ⟨w2.heap.size, 1, none⟩ = some (.bool true) := Bu.cell 1
  have nk1 := k1
  have nk2 := k2
  have nk3 := k3
  have nk4 := k4
  have nkx := hbx
  have nku := hbu
  have nkA := hAb
  have hAK : ∀ k, (Value.slice (some ⟨bl, off, none⟩) f.length c).ownBlock = some k → ¬ K k := hA
  have W3le : w.heap.size ≤ W3.heap.size := HK3.out.size
  have HF : Hid (Keep K w W3 ∧ ∀ k, K k → K k ∨ w.heap.size ≤ k) := Lib.hid ⟨HK3.out.mono fun _ _ h => h.elim, fun k h => .inl h⟩
  have z3 : W3.cell? ⟨vb, 0, none⟩ = some (.func (.func 44) #[] #[.pointer (some ⟨db, 0, none⟩), .pointer (some ⟨fb, 0, none⟩), .pointer (some ⟨vb, 0, none⟩), .pointer (some ⟨nb, 0, none⟩), .pointer (some ⟨ob, 0, none⟩)]) := hv3.vv.cell 0
  have x0 : W3.cell? ⟨w.heap.size, 0, none⟩ = some (.int .i64 op) := Bx3.cell 0
  have x1 : W3.cell? ⟨w.heap.size, 1, none⟩ = some (.int .i64 ni) := Bx3.cell 1
  have x2 : W3.cell? ⟨w.heap.size, 2, none⟩ = some (.int .i64 ne) := Bx3.cell 2
  have x3 : W3.cell? ⟨w.heap.size, 3, none⟩ = some (.int .i64 ng) := Bx3.cell 3
  have x4 : W3.cell? ⟨w.heap.size, 4, none⟩ = some (.int .i64 (a : Nat)) := Bx3.cell 4
  have x5 : W3.cell? ⟨w.heap.size, 5, none⟩ = some (.int .i64 (b : Nat)) := Bx3.cell 5
  go_wp2_with fail
  clear z3 x0 x1 x2 x3 x4 x5
  have hrd4 := HHRD.out.kept (HF.out.1) hAK
  have hA4 : ∀ k, (Value.slice (some ⟨bl, off, none⟩) f.length c).ownBlock = some k → ¬ K k := fun k hk => by
    obtain rfl : bl = k := by simpa [Value.ownBlock] using hk
    exact nkA
  refine (IH.out a (by omega) f db fb vb nb ob m1 m2 _ c K W3 out g ds HCK.out (by omega) HI.out hrd4 hv3 hs3 hA4 nk1 nk2 nk3 nk4).mono ?_
  rintro e w4 ⟨K4, g4, d4, rfl, hs4, hI4, d4s, hk4, hK4⟩
  have hrl4 := (Fm.rep_ins (tree f a) out).lt
  have HR4 : Hid (ins (tree f a) out = ((ins (tree f a) out).1, (ins (tree f a) out).2)) := Lib.hid rfl
  have hsmall4 := hI4.small
  generalize (ins (tree f a) out).1 = r4 at *
  generalize (ins (tree f a) out).2 = o4 at *
  have HI4 := Lib.hid hI4
  clear hI4
  have hf4 := Lib.hid (grow_trans HF.out ⟨hk4, hK4⟩)
  have hold4 : ∀ x, x < W3.heap.size → ¬ K x → ¬ K4 x := fun x hx hn h => by
    rcases hK4 x h with h | h
    · exact hn h
    · omega
  have zA := hold4 _ (hv3.dv.lt) nk1
  have zB := hold4 _ (hv3.fv.lt) nk2
  have zC := hold4 _ (hv3.vv.lt) nk3
  have zD := hold4 _ (hv3.nv.lt) nk4
  have zE := hold4 _ (Bx3.lt) nkx
  have zF := hold4 _ (Bu.lt) nku
  have zG := hold4 bl (by have := W3le; omega) nkA
  have Bxa := Bx3.keep hk4 nkx
  have Bua := Bu.keep hk4 nku
  have hva := hv3.keep hk4 nk1 nk2 nk3 nk4
  have wle4 := hk4.size
  clear nk1 nk2 nk3 nk4 nkx nku nkA
  have nk1 := zA
  have nk2 := zB
  have nk3 := zC
  have nk4 := zD
  have nkx := zE
  have nku := zF
  have nkA := zG
  clear zA zB zC zD zE zF zG
  have y0 := Bxa.cell 4
  have y1 := Bxa.frozen 4
  have y2 := Bua.cell 1
  go_upto_region 8 with (fail)
  clear y0 y1 y2
  have Bx4 : Bk (w4.setCell ⟨w.heap.size, 4, none⟩ (.int .i64 (r4 : Nat))) w.heap.size 53 #[.int .i64 op, .int .i64 ni, .int .i64 ne, .int .i64 ng, .int .i64 (r4 : Nat), .int .i64 (b : Nat)] := Bxa.put 4 _
  have KS4 : Keep (fun k => k = w.heap.size) w4 (w4.setCell ⟨w.heap.size, 4, none⟩ (.int .i64 (r4 : Nat))) := (Keep.refl (fun k => k = w.heap.size) w4).setCell (.inl rfl) _
  have ldb := hv.dv.lt
  have lfb := hv.fv.lt
  have lvb := hv.vv.lt
  have lnb := hv.nv.lt
  have hv4 := hva.keep KS4 (by omega) (by omega) (by omega) (by omega)
  have Bu4 := Bua.keep KS4 (by omega)
  have hsv4 := hs4.block fun k hk => KS4.block k (hs4.lt k hk) fun e => nkx (e ▸ hk)
  have HF4 : Hid (Keep K w (w4.setCell ⟨w.heap.size, 4, none⟩ (.int .i64 (r4 : Nat))) ∧ ∀ k, K4 k → K k ∨ w.heap.size ≤ k) := Lib.hid ⟨hf4.out.1.trans KS4 fun i hi e => by omega, hf4.out.2⟩
  have V4le : w.heap.size ≤ (w4.setCell ⟨w.heap.size, 4, none⟩ (.int .i64 (r4 : Nat))).heap.size := by have := W3le; simp; omega
  clear Bxa Bua hva KS4 ldb lfb lvb lnb
  generalize w4.setCell ⟨w.heap.size, 4, none⟩ (.int .i64 (r4 : Nat)) = V4 at *
  have u1 : V4.cell? ⟨w2.heap.size, 1, none⟩ = some (.bool true) := Bu4.cell 1
  have z3 : V4.cell? ⟨vb, 0, none⟩ = some (.func (.func 44) #[] #[.pointer (some ⟨db, 0, none⟩), .pointer (some ⟨fb, 0, none⟩), .pointer (some ⟨vb, 0, none⟩), .pointer (some ⟨nb, 0, none⟩), .pointer (some ⟨ob, 0, none⟩)]) := hv4.vv.cell 0
  have x0 : V4.cell? ⟨w.heap.size, 0, none⟩ = some (.int .i64 op) := Bx4.cell 0
  have x1 : V4.cell? ⟨w.heap.size, 1, none⟩ = some (.int .i64 ni) := Bx4.cell 1
  have x2 : V4.cell? ⟨w.heap.size, 2, none⟩ = some (.int .i64 ne) := Bx4.cell 2
  have x3 : V4.cell? ⟨w.heap.size, 3, none⟩ = some (.int .i64 ng) := Bx4.cell 3
  have x4 : V4.cell? ⟨w.heap.size, 4, none⟩ = some (.int .i64 (r4 : Nat)) := Bx4.cell 4
  have x5 : V4.cell? ⟨w.heap.size, 5, none⟩ = some (.int .i64 (b : Nat)) := Bx4.cell 5
  go_wp2_with fail
  clear z3 x0 x1 x2 x3 x4 x5
  have hrd6 := HHRD.out.kept (HF4.out.1) hAK
  have hA6 : ∀ k, (Value.slice (some ⟨bl, off, none⟩) f.length c).ownBlock = some k → ¬ K4 k := fun k hk => by
    obtain rfl : bl = k := by simpa [Value.ownBlock] using hk
    exact nkA
  refine (IH.out b (by omega) f db fb vb nb ob m1 m2 _ c K4 V4 o4 g4 d4 HCK.out (by omega) HI4.out hrd6 hv4 hsv4 hA6 nk1 nk2 nk3 nk4).mono ?_
  rintro e w6 ⟨K6, g6, d6, rfl, hs6, hI6, d6s, hk6, hK6⟩
  have hrl6 := (Fm.rep_ins (tree f b) o4).lt
  have HR6 : Hid (ins (tree f b) o4 = ((ins (tree f b) o4).1, (ins (tree f b) o4).2)) := Lib.hid rfl
  have hsmall6 := hI6.small
  generalize (ins (tree f b) o4).1 = r6 at *
  generalize (ins (tree f b) o4).2 = o6 at *
  have HI6 := Lib.hid hI6
  clear hI6
  have hf6 := Lib.hid (grow_trans HF4.out ⟨hk6, hK6⟩)
  have hold6 : ∀ x, x < V4.heap.size → ¬ K4 x → ¬ K6 x := fun x hx hn h => by
    rcases hK6 x h with h | h
    · exact hn h
    · omega
  have zA := hold6 _ (hv4.dv.lt) nk1
  have zB := hold6 _ (hv4.fv.lt) nk2
  have zC := hold6 _ (hv4.vv.lt) nk3
  have zD := hold6 _ (hv4.nv.lt) nk4
  have zE := hold6 _ (Bx4.lt) nkx
  have zF := hold6 _ (Bu4.lt) nku
  have zG := hold6 bl (by have := V4le; omega) nkA
  have Bxa := Bx4.keep hk6 nkx
  have Bua := Bu4.keep hk6 nku
  have hva := hv4.keep hk6 nk1 nk2 nk3 nk4
  have wle6 := hk6.size
  clear nk1 nk2 nk3 nk4 nkx nku nkA
  have nk1 := zA
  have nk2 := zB
  have nk3 := zC
  have nk4 := zD
  have nkx := zE
  have nku := zF
  have nkA := zG
  clear zA zB zC zD zE zF zG
  have y0 := Bxa.cell 5
  have y1 := Bxa.frozen 5
  have y2 := Bua.cell 1
  go_upto_region 10 with (fail)
  clear y0 y1 y2
  have Bx6 : Bk (w6.setCell ⟨w.heap.size, 5, none⟩ (.int .i64 (r6 : Nat))) w.heap.size 53 #[.int .i64 op, .int .i64 ni, .int .i64 ne, .int .i64 ng, .int .i64 (r4 : Nat), .int .i64 (r6 : Nat)] := Bxa.put 5 _
  have KS6 : Keep (fun k => k = w.heap.size) w6 (w6.setCell ⟨w.heap.size, 5, none⟩ (.int .i64 (r6 : Nat))) := (Keep.refl (fun k => k = w.heap.size) w6).setCell (.inl rfl) _
  have ldb := hv.dv.lt
  have lfb := hv.fv.lt
  have lvb := hv.vv.lt
  have lnb := hv.nv.lt
  have hv6 := hva.keep KS6 (by omega) (by omega) (by omega) (by omega)
  have Bu6 := Bua.keep KS6 (by omega)
  have hsv6 := hs6.block fun k hk => KS6.block k (hs6.lt k hk) fun e => nkx (e ▸ hk)
  have HF6 : Hid (Keep K w (w6.setCell ⟨w.heap.size, 5, none⟩ (.int .i64 (r6 : Nat))) ∧ ∀ k, K6 k → K k ∨ w.heap.size ≤ k) := Lib.hid ⟨hf6.out.1.trans KS6 fun i hi e => by omega, hf6.out.2⟩
  have V6le : w.heap.size ≤ (w6.setCell ⟨w.heap.size, 5, none⟩ (.int .i64 (r6 : Nat))).heap.size := by have := V4le; simp; omega
  clear Bxa Bua hva KS6 ldb lfb lvb lnb
  generalize w6.setCell ⟨w.heap.size, 5, none⟩ (.int .i64 (r6 : Nat)) = V6 at *
  have HOK : Hid (okN ⟨op, ni, ne, ng, (r4 : Nat), (r6 : Nat)⟩) := Lib.hid (Fm.ok_own HOWN.out (by unfold okI; omega) (by unfold okI; omega))
  have HINS : Hid (ins (tree f i) out = put ⟨op, ni, ne, ng, (r4 : Nat), (r6 : Nat)⟩ o6) := Lib.hid (by
    rw [Fm.tree_bin HN.out huy (by simpa using ha) (by simpa using hb)]
    simp only [Int.toNat_natCast]
    unfold ins
    rw [HR4.out]
    simp only
    rw [HR6.out])
  have hnd6 : i ∉ d6 := fun h => by
    rcases d6s i h with h | h
    · rcases d4s i h with h | h
      · exact hnd h
      · omega
    · omega
  have hsl := hsv6.lt
  obtain ⟨ov, hd, ho, hm1, hm2, hne, hK⟩ := hsv6
  have hsm := HI6.out.small
  have hdb : V6.cell? ⟨db, 0, none⟩ = some (.map (some m2)) := hv6.dv.cell 0
  have hnb : V6.cell? ⟨nb, 0, none⟩ = some (.map (some m1)) := hv6.nv.cell 0
  have x0 : V6.cell? ⟨w.heap.size, 0, none⟩ = some (.int .i64 op) := Bx6.cell 0
  have x1 : V6.cell? ⟨w.heap.size, 1, none⟩ = some (.int .i64 ni) := Bx6.cell 1
  have x2 : V6.cell? ⟨w.heap.size, 2, none⟩ = some (.int .i64 ne) := Bx6.cell 2
  have x3 : V6.cell? ⟨w.heap.size, 3, none⟩ = some (.int .i64 ng) := Bx6.cell 3
  have x4 : V6.cell? ⟨w.heap.size, 4, none⟩ = some (.int .i64 (r4 : Nat)) := Bx6.cell 4
  have x5 : V6.cell? ⟨w.heap.size, 5, none⟩ = some (.int .i64 (r6 : Nat)) := Bx6.cell 5
  have hnum : numb o6 ⟨op, ni, ne, ng, (r4 : Nat), (r6 : Nat)⟩ = none := by unfold numb; rw [if_neg hmem]
  have hput : put (⟨op, ni, ne, ng, (r4 : Nat), (r6 : Nat)⟩ : Nd) o6 = (o6.length, o6 ++ [⟨op, ni, ne, ng, (r4 : Nat), (r6 : Nat)⟩]) := by unfold put; rw [if_neg hmem]
  have hInv := Inv.put HI6.out hi hnd6 HOK.out (by rw [← HINS.out]; exact Fm.rep_ins _ _)
  rw [hput] at hInv
  have HINV := Lib.hid hInv
  clear hInv
  have HINS2 := Lib.hid (HINS.out.trans hput)
  have HNS := Lib.hid (Fm.numb_snoc hmem)
  have hl1 : (Instr.lookup 93 (.map (some m1)) (.agg #[.int .i64 op, .int .i64 ni, .int .i64 ne, .int .i64 ng, .int .i64 (r4 : Nat), .int .i64 (r6 : Nat)]) true).run Try.prog V6 = .ok (.tuple #[.int .i64 0, .bool false]) V6 := by
    have := hm1.look encNode Try.underlying93 (zeroInt _) (x := ⟨op, ni, ne, ng, (r4 : Nat), (r6 : Nat)⟩) HOK.out true
    simpa [hnum, inV] using this
  obtain ⟨OA, oc, rfl⟩ := own_form ho
  have hovc : V6.cell? ⟨ob, 0, none⟩ = some (.slice OA o6.length oc) := hd.cell 0
  have hdne := own_ne_bk ho hd (by decide)
  have ldb := hd.lt
  have HFC : Hid (fmC (o6 ++ [⟨op, ni, ne, ng, (r4 : Nat), (r6 : Nat)⟩]) = fmC o6 ++ [.int .i64 op, .int .i64 ni, .int .i64 ne, .int .i64 ng, .int .i64 (r4 : Nat), .int .i64 (r6 : Nat)]) := Lib.hid (by simp [fmC, ndC])
  have HLN : Hid ((o6 ++ [(⟨op, ni, ne, ng, (r4 : Nat), (r6 : Nat)⟩ : Nd)]).length = o6.length + 1) := Lib.hid (by simp)
  generalize o6 ++ [(⟨op, ni, ne, ng, (r4 : Nat), (r6 : Nat)⟩ : Nd)] = O2 at *
  have hxlt := Bx6.lt
  generalize o6.length = OL at *
  go_upto_region 14 with (at_builtin
                          refine wpList_app (by rfl) eNodes (.tmp 57) (.tmp 59) (by rfl) (by rfl) (ho.alloc _) ⟨V6.heap.size, 0, none⟩ 1 1 [.int .i64 op, .int .i64 ni, .int .i64 ne, .int .i64 ng, .int .i64 (r4 : Nat), .int .i64 (r6 : Nat)] (by rfl) (by rfl)
                            (World.news_of_block (cs := #[.int .i64 op, .int .i64 ni, .int .i64 ne, .int .i64 ng, .int .i64 (r4 : Nat), .int .i64 (r6 : Nat)]) (t := 53) (fr := (0, 0)) (heap_alloc_new V6 _)) (by simp [Value.oneCell']) (by omega) (by omega) (by omega) (by omega) ?_
                          intro g2 cap2 w4 hown4 hA4
                          have hd4 : Bk w4 ob 26 #[.slice OA OL oc] := (hd.alloc _).grown hA4.grown (Ne.symm hdne)
                          have p3 : w4.cell? ⟨ob, 0, none⟩ = some (.slice OA OL oc) := hd4.cell 0
                          have p4 : w4.frozen? ⟨ob, 0, none⟩ = false := hd4.frozen 0)
  have hg2ob : g2 ≠ ob := fun e => own_ne_bk hown4 hd4 (by decide) (by rw [e]; rfl)
  have hobK : K6 ob := (hK _).2 (.inl rfl)
  have k5 : Keep K6 V6 (w4.setCell ⟨ob, 0, none⟩ (.slice (some ⟨g2, 0, none⟩) (OL + 1) cap2)) :=
    (((Keep.refl K6 V6).alloc _).grown hA4.grown fun k hk => .inl ((hK k).2 (.inr (.inr (.inr hk.symm.symm))))).setCell (.inl hobK) _
  have hv5 := hv6.keep k5 nk1 nk2 nk3 nk4
  have Bx5 := Bx6.keep k5 nkx
  have hd5 : Bk (w4.setCell ⟨ob, 0, none⟩ (.slice (some ⟨g2, 0, none⟩) (OL + 1) cap2)) ob 26 #[.slice (some ⟨g2, 0, none⟩) (OL + 1) cap2] := hd4.put 0 _
  have hown5 : (w4.setCell ⟨ob, 0, none⟩ (.slice (some ⟨g2, 0, none⟩) (OL + 1) cap2)).ownsRow 0 53 6 (.slice (some ⟨g2, 0, none⟩) (OL + 1) cap2) (OL + 1) (fmC o6 ++ [.int .i64 op, .int .i64 ni, .int .i64 ne, .int .i64 ng, .int .i64 (r4 : Nat), .int .i64 (r6 : Nat)]) :=
    own_keep hown4 fun k hk => Below.heap_setCell _ _ _ _ (fun e => hg2ob (by injection hk with hk; exact (show g2 = k from hk).trans e))
  have hmk : ∀ m, m < V6.heap.size → m ≠ ob → (Value.slice OA OL oc).ownBlock ≠ some m → (w4.setCell ⟨ob, 0, none⟩ (.slice (some ⟨g2, 0, none⟩) (OL + 1) cap2)).heap[m]? = V6.heap[m]? := fun m hm hmo hmv =>
    (Below.heap_setCell _ _ _ _ hmo).trans ((hA4.grown.block m (by simp; omega) (Ne.symm hmv)).trans (Below.heap_alloc _ _ _ hm))
  have hm15 := hm1.block (hmk m1 hm1.lt (hm1.ne_bk hd) (own_ne_map ho hm1))
  have hm25 := hm2.block (hmk m2 hm2.lt (hm2.ne_bk hd) (own_ne_map ho hm2))
  have hat2 := hA4.at_
  have hszW : (V6.alloc (.cells #[.int .i64 op, .int .i64 ni, .int .i64 ne, .int .i64 ng, .int .i64 (r4 : Nat), .int .i64 (r6 : Nat)] 53)).heap.size = V6.heap.size + 1 := by simp
  clear hd4 hown4 p3 p4 hovc hdb hnb x0 x1 x2 x3 x4 x5 hl1 hmk
  generalize w4.setCell ⟨ob, 0, none⟩ (.slice (some ⟨g2, 0, none⟩) (OL + 1) cap2) = w5 at *
  have hdb : w5.cell? ⟨db, 0, none⟩ = some (.map (some m2)) := hv5.dv.cell 0
  have hnb : w5.cell? ⟨nb, 0, none⟩ = some (.map (some m1)) := hv5.nv.cell 0
  have x0 : w5.cell? ⟨w.heap.size, 0, none⟩ = some (.int .i64 op) := Bx5.cell 0
  have x1 : w5.cell? ⟨w.heap.size, 1, none⟩ = some (.int .i64 ni) := Bx5.cell 1
  have x2 : w5.cell? ⟨w.heap.size, 2, none⟩ = some (.int .i64 ne) := Bx5.cell 2
  have x3 : w5.cell? ⟨w.heap.size, 3, none⟩ = some (.int .i64 ng) := Bx5.cell 3
  have x4 : w5.cell? ⟨w.heap.size, 4, none⟩ = some (.int .i64 (r4 : Nat)) := Bx5.cell 4
  have x5 : w5.cell? ⟨w.heap.size, 5, none⟩ = some (.int .i64 (r6 : Nat)) := Bx5.cell 5
  go_wp2_with (first
    | (at_mapUpdate
       refine wpList_mapT (by rfl) hm15 encNode Try.underlying93 (x := ⟨op, ni, ne, ng, (r4 : Nat), (r6 : Nat)⟩) HOK.out OL (.tmp 61) (.tmp 62) (.tmp 63) (by rfl) (by rfl) (by rfl) (by rfl) ?_
       intro w6 hm16 hg6 hsz6
       have hdb6 : w6.cell? ⟨db, 0, none⟩ = some (.map (some m2)) := hg6.cell (a := ⟨db, 0, none⟩) hdb (by simpa using (hm15.ne_bk hv5.dv).symm)
       have hm26 := hm25.block (hg6.block _ hm25.lt (by simpa using hne.symm)))
    | (at_mapUpdate
       refine wpList_mapT (by rfl) hm26 encInt Try.underlying94 (x := i) (by unfold tiny; omega) OL (.tmp 64) (.tmp 65) (.tmp 66) (by rfl) (by rfl) (by rfl) (by rfl) ?_
       intro w7 hm27 hg7 hsz7))
  go_ret
  rw [HINS2.out]
  have hstep : Keep K6 V6 w7 ∧ ∀ k, (k = ob ∨ k = m1 ∨ k = m2 ∨ some g2 = some k) → K6 k ∨ V6.heap.size ≤ k := by
    refine ⟨(k5.grown hg6 fun k hk => .inl ((hK k).2 (.inr (.inl (by simpa using hk.symm))))).grown hg7 fun k hk => .inl ((hK k).2 (.inr (.inr (.inl (by simpa using hk.symm))))), fun k hk => ?_⟩
    rcases hk with rfl | rfl | rfl | hk
    · exact .inl hobK
    · exact .inl ((hK _).2 (.inr (.inl rfl)))
    · exact .inl ((hK _).2 (.inr (.inr (.inl rfl))))
    · rcases hat2 with h | h
      · exact .inl ((hK k).2 (.inr (.inr (.inr (h.trans hk)))))
      · have : g2 = k := by simpa using hk
        exact .inr (by omega)
  have hall := grow_trans HF6.out hstep
  have hown7 : w7.ownsRow 0 53 6 (.slice (some ⟨g2, 0, none⟩) (OL + 1) cap2) (OL + 1) (fmC o6 ++ [.int .i64 op, .int .i64 ni, .int .i64 ne, .int .i64 ng, .int .i64 (r4 : Nat), .int .i64 (r6 : Nat)]) :=
    own_keep (own_keep hown5 fun k hk => hg6.block k (hown5.lt k hk).2 fun e => own_ne_map hown5 hm15 (by rw [hk, e])) fun k hk => by
      have hlt5 := (hown5.lt k hk).2
      exact hg7.block k (by omega) fun e => own_ne_map hown5 hm25 (by rw [hk, e])
  refine ⟨fun k => k = ob ∨ k = m1 ∨ k = m2 ∨ some g2 = some k, _, _, rfl, ⟨_, (hd5.grown hg6 ?_).grown hg7 ?_, ?_, (hm16.block (hg7.block _ hm16.lt ?_)).congr ?_, hm27, hne, fun k => Iff.rfl⟩, HINV.out.congr fun y => (by by_cases hyi : y = i <;> simp [hyi]), fun x hx => ?_, hall.1, hall.2⟩
  · have := hm15.ne_bk hd5
    simpa using this.symm
  · have := hm25.ne_bk hd5
    simpa using this.symm
  · rw [HLN.out, HFC.out]
    exact hown7
  · simpa using hne
  · intro y
    rw [HNS.out y]
    by_cases hy : y = ⟨op, ni, ne, ng, (r4 : Nat), (r6 : Nat)⟩
    · rw [if_pos hy, if_pos hy]
    · rw [if_neg hy, if_neg hy]
  · rcases List.mem_cons.1 hx with rfl | hx
    · exact .inr (Nat.le_refl _)
    · exact (d6s x hx).elim (fun h => (d4s x h).imp id (fun h => by omega)) (fun h => .inr (by omega))
end
/-- The function finish, at whatever place. -/
theorem fin_any : ∀ i, FIH i := by
  intro i
  induction i using Nat.strongRecOn with
  | _ i ih =>
    intro f db fb vb nb ob m1 m2 A c K w out g ds hc hi hI hrd hv hs hA k1 k2 k3 k4
    have IH : Hid (∀ a, a < i → FIH a) := Lib.hid ih
    cases hk : g i with
    | some k => exact fin_known hi hc hI hv hs hk
    | none =>
      obtain ⟨n, hn⟩ : ∃ n, f[i]? = some n := ⟨_, List.getElem?_eq_getElem hi⟩
      cases huy : usesY n.op with
      | true =>
        by_cases hmem : (⟨n.op, n.i, n.e, n.g, ((ins (tree f n.x.toNat) out).1 : Nat), ((ins (tree f n.y.toNat) (ins (tree f n.x.toNat) out).2).1 : Nat)⟩ : Nd) ∈ (ins (tree f n.y.toNat) (ins (tree f n.x.toNat) out).2).2
        · exact fin_bin_found IH hi hc hI hrd hv hs hA k1 k2 k3 k4 hk hn (Fm.usesY_X huy) huy hmem
        · exact fin_bin_new IH hi hc hI hrd hv hs hA k1 k2 k3 k4 hk hn (Fm.usesY_X huy) huy hmem
      | false =>
        cases hux : usesX n.op with
        | true =>
          by_cases hmem : (⟨n.op, n.i, n.e, n.g, ((ins (tree f n.x.toNat) out).1 : Nat), 0⟩ : Nd) ∈ (ins (tree f n.x.toNat) out).2
          · exact fin_un_found IH hi hc hI hrd hv hs hA k1 k2 k3 k4 hk hn hux huy hmem
          · exact fin_un_new IH hi hc hI hrd hv hs hA k1 k2 k3 k4 hk hn hux huy hmem
        | false =>
          by_cases hmem : n ∈ out
          · exact fin_leaf_found hi hc hI hrd hv hs hA k1 k2 k3 k4 hk hn hux huy hmem
          · exact fin_leaf_new hi hc hI hrd hv hs hA k1 k2 k3 k4 hk hn hux huy hmem
end Go.Proofs.Ytmjdbbfoihadoaa
