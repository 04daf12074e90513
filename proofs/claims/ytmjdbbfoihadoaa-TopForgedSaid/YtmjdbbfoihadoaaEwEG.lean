/- Evidence: what explain does at a place that was met before; what holds at the heads of its loop over the premises. Conditions: the builder lies in memory. Evidence: what explain does. Conditions: the model is valid, the nodes fit it; common does what is asked of it. Evidence: what explain does, at any place. Conditions: the model is valid, the nodes fit it; common does what is asked of it. No condition. -/
import Derived.Test.YtmjdbbfoihadoaaEwBD
import Derived.BigQuiet
import Derived.Deep.CutBlock
set_option linter.unusedVariables false
set_option linter.unusedSimpArgs false
namespace Go.Proofs.Ytmjdbbfoihadoaa
open Go.RowKit
open Ev
open Fm (Nd)
attribute [local go_sem] Oper.semAt_some

theorem wrap_i64 {z : Int} (h0 : -9223372036854775808 ≤ z) (h1 : z ≤ 9223372036854775807) : IntKind.i64.wrap z = z := by
  rw [IntKind.wrap_i64]
  omega
theorem elemReason : ElemT Try.prog 27 40 (.agg #[.int .i64 0, .int .i64 0, .bool false, .slice none 0 0, .int .u64 0]) 5 56 := by
  refine ⟨Try.underlying27, ?_, rfl, by decide⟩
  have h := infoReason
  cases hi : Try.prog.info? 40 with
  | none => rw [hi] at h; cases h
  | some i => rw [hi] at h; simp only [Option.map_some, Option.some.injEq, Prod.mk.injEq] at h; exact ⟨i, rfl, h.1, h.2.1, h.2.2⟩
theorem elemInt_ : ElemT Try.prog 37 3 (.int .i64 0) 1 8 := by
  refine ⟨Try.underlying37, ?_, rfl, by decide⟩
  have h : (Try.prog.info? 3).map (fun i => (i.zero, i.size, i.bytes)) = some (some (.int .i64 0), 1, 8) := by kernel_rfl
  cases hi : Try.prog.info? 3 with
  | none => rw [hi] at h; cases h
  | some i => rw [hi] at h; simp only [Option.map_some, Option.some.injEq, Prod.mk.injEq] at h; exact ⟨i, rfl, h.1, h.2.1, h.2.2⟩
theorem BdS.kept {w0 w w' : World} {b : Nat} {M : Md} {va ra : Option Addr} {cv cr : Nat} {c : List Nd} {cA : Option Addr} {cc : Nat} {S : List Nat} {zA : Option Addr} {zc : Nat} {s : ES} {ps : List (Option Addr × Nat)} {sv : Value} {mb : Nat} (h : BdS w0 w b M va ra cv cr c cA cc S zA zc s ps sv mb) (k : Keep NoF w w') : BdS w0 w' b M va ra cv cr c cA cc S zA zc s ps sv mb :=
  ⟨h.K.trans k fun _ _ h => h.elim, h.m0, h.bk.keep k fun h => h, own_keep h.own fun j hj => k.block j (h.own.lt j hj).2 fun h => h, h.pl, fun i r p h1 h2 => own_keep (h.fr i r p h1 h2) fun j hj => k.block j ((h.fr i r p h1 h2).lt j hj).2 fun h => h, h.mp.block (k.block _ h.mp.lt fun h => h), h.b0⟩
def ExPost (w0 W : World) (b : Nat) (M : Md) (va ra : Option Addr) (cv cr : Nat) (c : List Nd) (cA : Option Addr) (cc : Nat) (S : List Nat) (zA : Option Addr) (zc : Nat) (ps : List (Option Addr × Nat)) (sv : Value) (mb : Nat) (r : Nat × ES) (e : Ending) (w' : World) : Prop :=
  ∃ ps' sv', e = .returned (.int .i64 (r.1 : Int)) ∧ BdS w0 w' b M va ra cv cr c cA cc S zA zc r.2 (ps ++ ps') sv' mb ∧ Keep (fun k => k = b ∨ k = mb ∨ sv.ownBlock = some k) W w' ∧
    (∀ p ∈ ps', ∀ k, (Value.slice p.1 0 p.2).ownBlock = some k → W.heap.size ≤ k) ∧ (∀ k, sv'.ownBlock = some k → sv.ownBlock = some k ∨ W.heap.size ≤ k)
section
set_option maxRecDepth 100000
set_option maxHeartbeats 4000000
variable {w0 W : World} {b : Nat} {M : Md} {va ra : Option Addr} {cv cr : Nat} {rs : List (Option Addr × Nat)} {c : List Nd} {cA : Option Addr} {cc : Nat} {S : List Nat} {zA : Option Addr} {zc : Nat}
/-- The place was met before. -/
theorem evexplain_done {s : ES} {ps : List (Option Addr × Nat)} {sv : Value} {mb : Nat} (hB : BdS w0 W b M va ra cv cr c cA cc S zA zc s ps sv mb) (wd k i : Nat) (hp : tinyP (wd, k)) (hd : s.done (wd, k) = some i) :
    Calls Try.prog 20 #[.pointer (some ⟨b, 0, none⟩), .int .i64 (wd : Int), .int .i64 (k : Int)] W (ExPost w0 W b M va ra cv cr c cA cc S zA zc ps sv mb (i, s)) := by
  have k1 : Keep NoF W (W.alloc (.cells #[.int .i64 (wd : Int), .int .i64 (k : Int)] 86)) := (Keep.refl _ _).alloc _
  have HP := Lib.hid (Bk.new W 86 #[.int .i64 (wd : Int), .int .i64 (k : Int)])
  have HB := Lib.hid (hB.bk.alloc (.cells #[.int .i64 (wd : Int), .int .i64 (k : Int)] 86))
  have hmp : MapP (W.alloc (.cells #[.int .i64 (wd : Int), .int .i64 (k : Int)] 86)) mb s.done := hB.mp.block (Below.heap_alloc _ _ _ hB.mp.lt)
  have HBD := Lib.hid hB
  clear hB
  go_enter Try.func20, Try.ntmps20
  go_upto_region 2 with (fail)
  generalize W.alloc (.cells #[.int .i64 (wd : Int), .int .i64 (k : Int)] 86) = W1 at *
  have b6 := HB.out.cell 6
  have p0 := HP.out.cell 0
  have p1 := HP.out.cell 1
  have hl : ∀ n, (Instr.lookup 63 (.map (some mb)) (.agg #[.int .i64 (wd : Int), .int .i64 (k : Int)]) true).run Try.prog (W1.drewN n) = .ok (.tuple #[.int .i64 (i : Int), .bool true]) (W1.drewN n) := fun n => by
    have hm : MapP (W1.drewN n) mb s.done := hmp
    have := hm.look encPlace Try.underlying63 (zeroInt _) (x := (wd, k)) hp true
    simpa [hd, inV, plV] using this
  go_quiet (fail)
  go_wp2
  go_ret
  have k2 : Keep NoF W (W1.drewN nq) := k1.drewN _
  exact ⟨[], sv, rfl, by rw [List.append_nil]; exact HBD.out.kept k2, k2.mono fun _ _ h => h.elim, fun p hp => absurd hp (by simp), fun k hk => .inl hk⟩
theorem plsC_pt : ∀ (l : List Pl) (k : Nat) (x : Pl), l[k]? = some x → ∀ j, j < 2 → (plsC l)[k * 2 + j]? = (plC x)[j]?
  | [], _, _, h, _, _ => by simp at h
  | a :: l, 0, x, h, j, hj => by
    obtain rfl : a = x := by simpa using h
    have e : plsC (a :: l) = plC a ++ plsC l := rfl
    rw [e, Nat.zero_mul, Nat.zero_add, List.getElem?_append_left (by show j < 2; exact hj)]
  | a :: l, k + 1, x, h, j, hj => by
    have e : plsC (a :: l) = plC a ++ plsC l := rfl
    have h3 : (plC a).length = 2 := rfl
    rw [e, List.getElem?_append_right (by rw [h3]; omega), h3, show (k + 1) * 2 + j - 2 = k * 2 + j by omega]
    exact plsC_pt l k x (by simpa using h) j hj
theorem Rd.pl {w : World} {A : Option Addr} {m c : Nat} {l : List Pl} (h : Rd w (.slice A m c) 2 l.length (plsC l)) {k : Nat} {x : Pl} (hk : l[k]? = some x) :
    m = l.length ∧ l.length ≤ c ∧ ∃ bl off, A = some ⟨bl, off, none⟩ ∧ w.cell? ⟨bl, off + k * 2, none⟩ = some (.int .i64 (x.1 : Int)) ∧ w.cell? ⟨bl, off + k * 2 + 1, none⟩ = some (.int .i64 (x.2 : Int)) := by
  have hlt : k < l.length := (List.getElem?_eq_some_iff.1 hk).1
  obtain ⟨hm, hc', bl, off, rfl, hc⟩ := h.at_ (by omega)
  have g : ∀ j v, j < 2 → (plC x)[j]? = some v → w.cell? ⟨bl, off + k * 2 + j, none⟩ = some v := fun j v hj hv => by
    have := hc (k * 2 + j) v (by rw [plsC_pt l k x hk j hj]; exact hv)
    rwa [← Nat.add_assoc] at this
  exact ⟨hm, hc', bl, off, rfl, g 0 _ (by omega) rfl, g 1 _ (by omega) rfl⟩
/-- What common leaves. -/
def CmPost (w : World) (r : List Pl × Nat) (e : Ending) (w' : World) : Prop := ∃ v, e = .returned (.tuple #[v, .int .u64 (r.2 : Nat)]) ∧ w'.ownsRow w.heap.size 86 2 v r.1.length (plsC r.1) ∧ Keep NoF w w'
/-- The premises: what lies in the slot before the loop. -/
def NeedI (W1 : World) (rb : Nat) (wd k : Nat) (h : Bool) (l : List Pl) (set : Nat) (v : Value) (wc : World) : Prop :=
  wc.ownsRow W1.heap.size 86 2 v l.length (plsC l) ∧ Bk wc rb 40 #[.int .i64 (wd : Int), .int .i64 (k : Int), .bool h, .slice none 0 0, .int .u64 set] ∧ Keep (fun j => j = rb) W1 wc
end
/-- What holds at each round's head of the loop over the premises. -/
structure LoopJ (w0 W W4 : World) (b : Nat) (M : Md) (va ra : Option Addr) (cv cr : Nat) (c : List Nd) (cA : Option Addr) (cc : Nat) (S : List Nat) (zA : Option Addr) (zc : Nat) (ps : List (Option Addr × Nat)) (sv : Value) (mb rb wd k set : Nat) (h : Bool) (l : List Pl) (v : Value) (psj : List (Option Addr × Nat)) (svj fv : Value) (a : List Int × ES) (j : Nat) (wc : World) : Prop where
  LB : BdS w0 wc b M va ra cv cr c cA cc S zA zc a.2 (ps ++ psj) svj mb
  Lr : Bk wc rb 40 #[.int .i64 (wd : Int), .int .i64 (k : Int), .bool h, fv, .int .u64 set]
  Lf : wc.ownsRow W4.heap.size 3 1 fv j (inZ a.1)
  Lp : ∀ p ∈ psj, ∀ x, (Value.slice p.1 0 p.2).ownBlock = some x → W.heap.size ≤ x ∧ fv.ownBlock ≠ some x
  Ln : wc.ownsRow W4.heap.size 86 2 v l.length (plsC l)
  LK : Keep (fun x => x = b ∨ x = mb ∨ sv.ownBlock = some x) W wc
  Ls : ∀ x, svj.ownBlock = some x → (sv.ownBlock = some x ∨ W.heap.size ≤ x) ∧ x ≠ rb
  L4 : W4.heap.size ≤ wc.heap.size
  Lb : Bk wc W.heap.size 86 #[.int .i64 (wd : Int), .int .i64 (k : Int)]
/-- What lies below the loop. -/
structure LoopC (W W4 : World) (b mb rb : Nat) (ps : List (Option Addr × Nat)) (sv : Value) : Prop where
  hb : b < W.heap.size
  hm : mb < W.heap.size
  hr : W.heap.size ≤ rb
  hr4 : rb < W4.heap.size
  hw : W.heap.size ≤ W4.heap.size
  hs : ∀ x, sv.ownBlock = some x → x < W.heap.size
  hp : ∀ p ∈ ps, ∀ x, (Value.slice p.1 0 p.2).ownBlock = some x → x < W.heap.size
theorem ob_len (A : Option Addr) (n n' c c' : Nat) : (Value.slice A n c).ownBlock = (Value.slice A n' c').ownBlock := by cases A <;> rfl
theorem own_ne_own {w : World} {base base' : Nat} {e e' : TypeId} {size size' n n' : Nat} {v v' : Value} {xs xs' : List Value} (h : w.ownsRow base e size v n xs) (h' : w.ownsRow base' e' size' v' n' xs') (hne : e ≠ e') {x : Nat} (hx : v.ownBlock = some x) : v'.ownBlock ≠ some x := by
  rcases h.2 with ⟨rfl, _⟩ | ⟨g', cap, cur, rfl, _, hh, _⟩
  · cases hx
  · have e1 : g' = x := by simpa [Value.ownBlock] using hx
    subst e1
    exact own_ne_bk h' (show Bk w g' e cur from hh) (Ne.symm hne)
section
variable {w0 W W4 : World} {b : Nat} {M : Md} {va ra : Option Addr} {cv cr : Nat} {c : List Nd} {cA : Option Addr} {cc : Nat} {S : List Nat} {zA : Option Addr} {zc : Nat} {ps psj : List (Option Addr × Nat)} {sv : Value} {mb rb wd k set : Nat} {h : Bool} {l : List Pl} {v : Value} {svj fv : Value} {a : List Int × ES} {j : Nat} {wc w' : World}
theorem BdS.keepF {w w' : World} {s : ES} {F : Nat → Prop} (h : BdS w0 w b M va ra cv cr c cA cc S zA zc s ps sv mb) (k : Keep F w w') (h0 : ∀ j, j < w0.heap.size → ¬ F j) (hb : ¬ F b) (hm : ¬ F mb) (hs : ∀ j, sv.ownBlock = some j → ¬ F j) (hp : ∀ p ∈ ps, ∀ x, (Value.slice p.1 0 p.2).ownBlock = some x → ¬ F x) : BdS w0 w' b M va ra cv cr c cA cc S zA zc s ps sv mb :=
  ⟨h.K.trans k fun i hi hf => absurd hf (h0 i hi), h.m0, h.bk.keep k hb, own_keep h.own fun j hj => k.block j (h.own.lt j hj).2 (hs j hj), h.pl,
    fun i r p h1 h2 => own_keep (h.fr i r p h1 h2) fun j hj => k.block j ((h.fr i r p h1 h2).lt j hj).2 (hp p (List.mem_of_getElem? h2) j ((ob_len _ _ _ _ _).trans hj)), h.mp.block (k.block _ h.mp.lt hm), h.b0⟩
theorem LoopJ.keep (L : LoopJ w0 W W4 b M va ra cv cr c cA cc S zA zc ps sv mb rb wd k set h l v psj svj fv a j wc) (kk : Keep NoF wc w') : LoopJ w0 W W4 b M va ra cv cr c cA cc S zA zc ps sv mb rb wd k set h l v psj svj fv a j w' :=
  ⟨L.LB.kept kk, L.Lr.keep kk fun h => h, own_keep L.Lf fun x hx => kk.block x (L.Lf.lt x hx).2 fun h => h, L.Lp, own_keep L.Ln fun x hx => kk.block x (L.Ln.lt x hx).2 fun h => h, L.LK.trans kk fun _ _ h => h.elim, L.Ls, Nat.le_trans L.L4 kk.size, L.Lb.keep kk fun h => h⟩
/-- Behind the call for one premise. -/
theorem LoopJ.expl (L : LoopJ w0 W W4 b M va ra cv cr c cA cc S zA zc ps sv mb rb wd k set h l v psj svj fv a j wc) (C : LoopC W W4 b mb rb ps sv) {ps' : List (Option Addr × Nat)} {sv' : Value} {s' : ES}
    (HB : BdS w0 w' b M va ra cv cr c cA cc S zA zc s' ((ps ++ psj) ++ ps') sv' mb) (HK : Keep (fun k => k = b ∨ k = mb ∨ svj.ownBlock = some k) wc w')
    (Hp : ∀ p ∈ ps', ∀ k, (Value.slice p.1 0 p.2).ownBlock = some k → wc.heap.size ≤ k) (Hs : ∀ k, sv'.ownBlock = some k → svj.ownBlock = some k ∨ wc.heap.size ≤ k) :
    LoopJ w0 W W4 b M va ra cv cr c cA cc S zA zc ps sv mb rb wd k set h l v (psj ++ ps') sv' fv (a.1, s') j w' := by
  have h4 : ∀ x, W4.heap.size ≤ x → svj.ownBlock ≠ some x → ¬ (x = b ∨ x = mb ∨ svj.ownBlock = some x) := fun x hx hn hf => by
    have := C.hb
    have := C.hm
    have := C.hw
    rcases hf with rfl | rfl | hf
    · omega
    · omega
    · exact hn hf
  have hWc : W.heap.size ≤ wc.heap.size := L.LK.size
  refine ⟨by rw [List.append_assoc] at HB; exact HB, L.Lr.keep HK fun hf => ?_, own_keep L.Lf fun x hx => HK.block x (L.Lf.lt x hx).2 (h4 x (L.Lf.lt x hx).1 (own_ne_own L.Lf L.LB.own (by decide) hx)), fun p hp x hx => ?_,
    own_keep L.Ln fun x hx => HK.block x (L.Ln.lt x hx).2 (h4 x (L.Ln.lt x hx).1 (own_ne_own L.Ln L.LB.own (by decide) hx)), L.LK.trans HK fun x hx hf => ?_, fun x hx => ?_, Nat.le_trans L.L4 HK.size, L.Lb.keep HK fun hf => ?_⟩
  · have := C.hb
    have := C.hm
    have := C.hr
    rcases hf with hf | hf | hf
    · omega
    · omega
    · exact (L.Ls rb hf).2 rfl
  · rcases List.mem_append.1 hp with hp | hp
    · exact L.Lp p hp x hx
    · have h1 := Hp p hp x hx
      exact ⟨by omega, fun hf => by have := (L.Lf.lt x hf).2; omega⟩
  · rcases hf with hf | hf | hf
    · exact .inl hf
    · exact .inr (.inl hf)
    · rcases (L.Ls x hf).1 with hf | hf
      · exact .inr (.inr hf)
      · omega
  · rcases Hs x hx with hx | hx
    · exact L.Ls x hx
    · have := L.Lr.lt
      exact ⟨.inr (by omega), by omega⟩
  · have := C.hb
    have := C.hm
    rcases hf with hf | hf | hf
    · omega
    · omega
    · exact own_ne_bk L.LB.own L.Lb (by decide) hf
/-- Behind the append and the store of one premise. -/
theorem LoopJ.push (L : LoopJ w0 W W4 b M va ra cv cr c cA cc S zA zc ps sv mb rb wd k set h l v psj svj fv a j wc) (C : LoopC W W4 b mb rb ps sv) (i : Int) {g cap : Nat}
    (HO : w'.ownsRow W4.heap.size 3 1 (.slice (some ⟨g, 0, none⟩) (j + 1) cap) (j + 1) (inZ a.1 ++ [.int .i64 i])) (HA : AppK wc w' fv j 1 g) (h0 : w0.heap.size ≤ W.heap.size) :
    LoopJ w0 W W4 b M va ra cv cr c cA cc S zA zc ps sv mb rb wd k set h l v psj svj (.slice (some ⟨g, 0, none⟩) (j + 1) cap) (a.1 ++ [i], a.2) (j + 1) (w'.setCell ⟨rb, 3, none⟩ (.slice (some ⟨g, 0, none⟩) (j + 1) cap)) := by
  have KF : Keep (fun x => x = rb ∨ fv.ownBlock = some x) wc (w'.setCell ⟨rb, 3, none⟩ (.slice (some ⟨g, 0, none⟩) (j + 1) cap)) := ((Keep.refl _ _).grown HA.grown fun x hx => .inl (.inr hx)).setCell (.inl (.inl rfl)) _
  have hfv : ∀ x, fv.ownBlock = some x → W4.heap.size ≤ x ∧ x < wc.heap.size := L.Lf.lt
  have hW4 : ∀ x, x < W.heap.size → ¬ (x = rb ∨ fv.ownBlock = some x) := fun x hx hf => by
    have := C.hr
    have := C.hw
    rcases hf with hf | hf
    · omega
    · have := (hfv x hf).1
      omega
  have hg : W4.heap.size ≤ g := (HO.lt g rfl).1
  have hrb := C.hr4
  refine ⟨L.LB.keepF KF (fun x hx => hW4 x (by omega)) (hW4 _ C.hb) (hW4 _ C.hm) (fun x hx hf => ?_) (fun p hp x hx => ?_), ?_, ?_, fun p hp x hx => ⟨(L.Lp p hp x hx).1, fun hf => ?_⟩, own_keep L.Ln fun x hx => KF.block x (L.Ln.lt x hx).2 fun hf => ?_, L.LK.trans KF fun x hx hf => absurd hf (hW4 x hx), L.Ls, Nat.le_trans L.L4 KF.size, L.Lb.keep KF fun hf => ?_⟩
  · rcases hf with hf | hf
    · exact (L.Ls x hx).2 hf
    · exact own_ne_own L.LB.own L.Lf (by decide) hx hf
  · rcases List.mem_append.1 hp with hp | hp
    · exact hW4 x (C.hp p hp x hx)
    · intro hf
      rcases hf with rfl | hf
      · have hlt : ∀ (i : Nat) (q : Option Addr × Nat), (ps ++ psj)[i]? = some q → (Value.slice q.1 0 q.2).ownBlock ≠ some x := fun i q hq he => by
          have hi : i < a.2.steps.length := by rw [← L.LB.pl]; exact (List.getElem?_eq_some_iff.1 hq).1
          exact own_ne_bk (L.LB.fr i _ q (List.getElem?_eq_getElem hi) hq) L.Lr (by decide) ((ob_len _ _ _ _ _).trans he)
        obtain ⟨i, hi, he⟩ := List.getElem_of_mem (List.mem_append_right ps hp)
        exact hlt i p (by rw [List.getElem?_eq_getElem hi, he]) hx
      · exact (L.Lp p hp x hx).2 hf
  · exact ((L.Lr.grown HA.grown fun he => by have := (hfv rb he.symm).1; omega).put 3 _)
  · have e : inZ (a.1 ++ [i]) = inZ a.1 ++ [.int .i64 i] := by simp [inZ]
    show World.ownsRow _ _ _ _ _ _ (inZ (a.1 ++ [i]))
    rw [e]
    exact own_keep HO fun x hx => Below.heap_setCell _ _ _ _ (by
      have := (HO.lt x hx).1
      show x ≠ rb
      omega)
  · have e : g = x := by simpa [Value.ownBlock] using hf
    subst e
    rcases HA.at_ with hf | hf
    · exact (L.Lp p hp g hx).2 hf
    · have hlt : g < wc.heap.size := by
        obtain ⟨i, hi, he⟩ := List.getElem_of_mem (List.mem_append_right ps hp)
        have hi2 : i < a.2.steps.length := by rw [← L.LB.pl]; exact hi
        exact ((L.LB.fr i _ p (List.getElem?_eq_getElem hi2) (by rw [List.getElem?_eq_getElem hi, he])).lt g ((ob_len _ _ _ _ _).trans hx)).2
      omega
  · rcases hf with rfl | hf
    · have := (L.Ln.lt x hx).1
      omega
    · exact own_ne_own L.Ln L.Lf (by decide) hx hf
  · rcases hf with hf | hf
    · exact L.Lb.ne_type L.Lr (by decide) hf
    · exact own_ne_bk L.Lf L.Lb (by decide) hf
theorem rssC_snoc : ∀ (E : List Rs) (ps : List (Option Addr × Nat)) (r : Rs) (p : Option Addr × Nat), ps.length = E.length → rssC (E ++ [r]) (ps ++ [p]) = rssC E ps ++ rsC r p
  | [], [], r, p, _ => by simp [rssC]
  | [], _ :: _, _, _, h => by simp at h
  | _ :: _, [], _, _, h => by simp at h
  | a :: E, b :: ps, r, p, h => by
    have e : ∀ (E : List Rs) (ps : List (Option Addr × Nat)), rssC (a :: E) (b :: ps) = rsC a b ++ rssC E ps := fun _ _ => rfl
    rw [List.cons_append, List.cons_append, e, e, rssC_snoc E ps r p (by simpa using h), List.append_assoc]
open Classical in
/-- Behind the loop: the step is written down. -/
theorem LoopJ.done {A : Option Addr} {cf cap g : Nat} {wA wC : World} (L : LoopJ w0 W W4 b M va ra cv cr c cA cc S zA zc ps sv mb rb wd k set h l v psj svj (.slice A j cf) a j wc) (C : LoopC W W4 b mb rb ps sv) (hj : a.1.length = j) (h0 : w0.heap.size ≤ W.heap.size)
    (HO : wA.ownsRow w0.heap.size 40 5 (.slice (some ⟨g, 0, none⟩) (a.2.steps.length + 1) cap) (a.2.steps.length + 1) (rssC a.2.steps (ps ++ psj) ++ rsC ⟨wd, k, h, a.1, set⟩ (A, cf))) (HA : AppK wc wA svj a.2.steps.length 5 g)
    (HM : MapP wC mb (fun y => if y = (wd, k) then some a.2.steps.length else a.2.done y)) (HG : (wA.setCell ⟨b, 5, none⟩ (.slice (some ⟨g, 0, none⟩) (a.2.steps.length + 1) cap)).grownBy wC (some mb)) :
    BdS w0 wC b M va ra cv cr c cA cc S zA zc ⟨a.2.steps ++ [⟨wd, k, h, a.1, set⟩], fun p => if p = (wd, k) then some a.2.steps.length else a.2.done p⟩ (ps ++ (psj ++ [(A, cf)])) (.slice (some ⟨g, 0, none⟩) (a.2.steps.length + 1) cap) mb ∧
    Keep (fun x => x = b ∨ x = mb ∨ sv.ownBlock = some x) W wC ∧ (∀ p ∈ psj ++ [(A, cf)], ∀ x, (Value.slice p.1 0 p.2).ownBlock = some x → W.heap.size ≤ x) ∧
    (∀ x, (Value.slice (some ⟨g, 0, none⟩) (a.2.steps.length + 1) cap).ownBlock = some x → sv.ownBlock = some x ∨ W.heap.size ≤ x) := by
  have hWc : W.heap.size ≤ wc.heap.size := L.LK.size
  have KC : Keep (fun x => svj.ownBlock = some x ∨ x = b ∨ x = mb) wc wC := (((Keep.refl _ _).grown HA.grown fun x hx => .inl (.inl hx)).setCell (p := ⟨b, 5, none⟩) (.inl (.inr (.inl rfl))) _).grown HG fun x hx => .inl (.inr (.inr (by injection hx with hx; exact hx.symm)))
  have hbm : b ≠ mb := Ne.symm (L.LB.mp.ne_bk L.LB.bk)
  have hvb : svj.ownBlock ≠ some b := own_ne_bk L.LB.own L.LB.bk (by decide)
  have hvm : svj.ownBlock ≠ some mb := own_ne_map L.LB.own L.LB.mp
  have hgb : g ≠ b := fun e => by
    subst e
    rcases HA.at_ with he | he
    · exact hvb he
    · have := L.LB.bk.lt
      omega
  have hgm : g ≠ mb := fun e => by
    subst e
    rcases HA.at_ with he | he
    · exact hvm he
    · have := L.LB.mp.lt
      omega
  have row : ∀ {base : Nat} {v' : Value} {n : Nat} {xs : List Value}, wc.ownsRow base 3 1 v' n xs → wC.ownsRow base 3 1 v' n xs := fun {base v' n xs} ho => own_keep ho fun x hx => KC.block x (ho.lt x hx).2 fun hf => by
    rcases hf with hf | rfl | rfl
    · exact own_ne_own ho L.LB.own (by decide) hx hf
    · exact own_ne_bk ho L.LB.bk (by decide) hx
    · exact own_ne_map ho L.LB.mp hx
  have hlen : (ps ++ psj).length = a.2.steps.length := L.LB.pl
  have h4 : w0.heap.size ≤ W4.heap.size := by have := C.hw; omega
  refine ⟨⟨L.LB.K.trans KC fun i hi hf => ?_, L.LB.m0, ?_, ?_, ?_, fun i r p hr hp => ?_, ?_, L.LB.b0⟩, L.LK.trans KC fun i hi hf => ?_, fun p hp x hx => ?_, fun x hx => ?_⟩
  · rcases hf with hf | rfl | rfl
    · have := (L.LB.own.lt i hf).1
      omega
    · have := L.LB.b0
      omega
    · rfl
  · exact ((L.LB.bk.grown HA.grown (Ne.symm hvb)).put 5 _).grown HG (by simpa using hbm)
  · show World.ownsRow _ _ _ _ _ (a.2.steps ++ [(⟨wd, k, h, a.1, set⟩ : Rs)]).length (rssC (a.2.steps ++ [(⟨wd, k, h, a.1, set⟩ : Rs)]) (ps ++ (psj ++ [(A, cf)])))
    rw [← List.append_assoc ps, rssC_snoc _ _ _ _ hlen, List.length_append, List.length_singleton]
    refine own_keep HO fun x hx => ?_
    have e : g = x := by simpa [Value.ownBlock] using hx
    subst e
    have hlt := (HO.lt g rfl).2
    exact (HG.block g (by simpa [World.setCell] using hlt) (by simpa using hgm)).trans (Below.heap_setCell _ _ _ _ hgb)
  · show (ps ++ (psj ++ [(A, cf)])).length = (a.2.steps ++ [(⟨wd, k, h, a.1, set⟩ : Rs)]).length
    rw [← List.append_assoc, List.length_append, hlen, List.length_append]
    rfl
  · change (a.2.steps ++ [(⟨wd, k, h, a.1, set⟩ : Rs)])[i]? = some r at hr
    rw [← List.append_assoc] at hp
    by_cases hi : i < a.2.steps.length
    · rw [List.getElem?_append_left hi] at hr
      rw [List.getElem?_append_left (by omega)] at hp
      exact row (L.LB.fr i r p hr hp)
    · rw [List.getElem?_append_right (by omega)] at hr hp
      rw [hlen] at hp
      cases hx : i - a.2.steps.length with
      | succ x => rw [hx] at hr; simp at hr
      | zero =>
        rw [hx] at hr hp
        obtain rfl : (⟨wd, k, h, a.1, set⟩ : Rs) = r := by simpa using hr
        obtain rfl : (A, cf) = p := by simpa using hp
        show World.ownsRow _ _ _ _ (.slice A a.1.length cf) a.1.length (inZ a.1)
        rw [hj]
        exact own_base (row L.Lf) h4
  · exact HM.congr fun y => by by_cases e : y = (wd, k) <;> simp [e]
  · rcases hf with hf | rfl | rfl
    · rcases (L.Ls i hf).1 with hf | hf
      · exact .inr (.inr hf)
      · omega
    · exact .inl rfl
    · exact .inr (.inl rfl)
  · rcases List.mem_append.1 hp with hp | hp
    · exact (L.Lp p hp x hx).1
    · obtain rfl : p = (A, cf) := by simpa using hp
      have := (L.Lf.lt x ((ob_len _ _ _ _ _).trans hx)).1
      have := C.hw
      omega
  · have e : g = x := by simpa [Value.ownBlock] using hx
    subst e
    rcases HA.at_ with he | he
    · exact (L.Ls g he).1
    · exact .inr (by omega)
end
end Go.Proofs.Ytmjdbbfoihadoaa
namespace Go.Proofs.Ytmjdbbfoihadoaa
open Go.RowKit
open Ev
open Fm (Nd)
attribute [local go_sem] Oper.semAt_some

section
set_option maxRecDepth 100000
set_option maxHeartbeats 4000000
variable {w0 W : World} {b : Nat} {M : Md} {va ra : Option Addr} {cv cr : Nat} {rs : List (Option Addr × Nat)} {c : List Nd} {cA : Option Addr} {cc : Nat} {S : List Nat} {zA : Option Addr} {zc : Nat}
theorem evexplain_new (hM : MdR w0 M va cv ra cr rs) (hok : Okm M) (hc : Okc M c) (hcr : Rd w0 (.slice cA c.length cc) 6 c.length (fmC c)) (hcl : c.length ≤ 1000) (hZ : Rd w0 (.slice zA S.length zc) 1 S.length (u6 S)) (h64 : ∀ x ∈ S, x < 18446744073709551616) (hSc : c.length ≤ S.length)
    {s : ES} {ps : List (Option Addr × Nat)} {sv : Value} {mb : Nat} (hB : BdS w0 W b M va ra cv cr c cA cc S zA zc s ps sv mb) (wd k : Nat) (hwd : wd < M.n) (hk : k < c.length) (hd : s.done (wd, k) = none) (m : Nd) (hm : c[k]? = some m) (h : Bool) (hh : hasN S wd k = h) (hcm : m.op = 13 → ∀ W' : World, FixB W' b M va ra cv cr rs c cA cc S zA zc → Calls Try.prog 43 #[.pointer (some ⟨b, 0, none⟩), .int .i64 (wd : Int), .agg #[.int .i64 m.op, .int .i64 m.i, .int .i64 m.e, .int .i64 m.g, .int .i64 m.x, .int .i64 m.y], .bool h] W' (CmPost W' (commonN M S m wd h)))
    (F : Nat) (hi : Inv M.n c.length s) (hbl : Below_ M.n k (needsN M S m wd h).1) (hln : (needsN M S m wd h).1.length ≤ 200)
    (IH : ∀ (wd' k' : Nat) (W' : World) (s' : ES) (ps' : List (Option Addr × Nat)) (sv' : Value), wd' < M.n → k' < k → Inv M.n c.length s' → BdS w0 W' b M va ra cv cr c cA cc S zA zc s' ps' sv' mb →
      Calls Try.prog 20 #[.pointer (some ⟨b, 0, none⟩), .int .i64 (wd' : Int), .int .i64 (k' : Int)] W' (ExPost w0 W' b M va ra cv cr c cA cc S zA zc ps' sv' mb (exN M c S F wd' k' s')))
    (hex : ∀ (w j : Nat) (s' : ES), w < M.n → j < k → Inv M.n c.length s' → Inv M.n c.length (exN M c S F w j s').2 ∧ Ext j s' (exN M c S F w j s').2 ∧ (exN M c S F w j s').2.done (w, j) = some (exN M c S F w j s').1) :
    Calls Try.prog 20 #[.pointer (some ⟨b, 0, none⟩), .int .i64 (wd : Int), .int .i64 (k : Int)] W (ExPost w0 W b M va ra cv cr c cA cc S zA zc ps sv mb (exN M c S (F + 1) wd k s)) := by
  have hp : tinyP (wd, k) := ⟨by unfold tiny; have := hok.n1; omega, by unfold tiny; omega⟩
  have k1 : Keep NoF W (W.alloc (.cells #[.int .i64 (wd : Int), .int .i64 (k : Int)] 86)) := (Keep.refl _ _).alloc _
  have HP := Lib.hid (Bk.new W 86 #[.int .i64 (wd : Int), .int .i64 (k : Int)])
  have HB := Lib.hid (hB.bk.alloc (.cells #[.int .i64 (wd : Int), .int .i64 (k : Int)] 86))
  have hmp : MapP (W.alloc (.cells #[.int .i64 (wd : Int), .int .i64 (k : Int)] 86)) mb s.done := hB.mp.block (Below.heap_alloc _ _ _ hB.mp.lt)
  have HBD := Lib.hid hB
  have hblt := hB.bk.lt
  have hmlt := hB.mp.lt
  have hKW := hB.K.size
  have hsvlt : ∀ x, sv.ownBlock = some x → x < W.heap.size := fun x hx => (hB.own.lt x hx).2
  have hpslt : ∀ p ∈ ps, ∀ x, (Value.slice p.1 0 p.2).ownBlock = some x → x < W.heap.size := fun p hp x hx => by
    obtain ⟨i, hi2, he⟩ := List.getElem_of_mem hp
    exact ((hB.fr i _ p (List.getElem?_eq_getElem (by rw [← hB.pl]; exact hi2)) (by rw [List.getElem?_eq_getElem hi2, he])).lt x ((ob_len _ _ _ _ _).trans hx)).2
  have HST0 := Lib.hid (And.intro hblt (And.intro hmlt (And.intro hKW (And.intro hsvlt hpslt))))
  clear hblt hmlt hKW hsvlt hpslt
  have HEX : Hid (exN M c S (F + 1) wd k s = ((exL (exN M c S F) (needsN M S m wd h).1 s).2.steps.length, ⟨(exL (exN M c S F) (needsN M S m wd h).1 s).2.steps ++ [⟨wd, k, h, (exL (exN M c S F) (needsN M S m wd h).1 s).1, (needsN M S m wd h).2⟩], fun p => if p = (wd, k) then some (exL (exN M c S F) (needsN M S m wd h).1 s).2.steps.length else (exL (exN M c S F) (needsN M S m wd h).1 s).2.done p⟩)) := Lib.hid (by
    have e : c.getD k default = m := by rw [List.getD_eq_getElem?_getD, hm]; rfl
    rw [exN, hd]
    simp only [e, hh])
  have HH : Hid (∀ W' : World, Keep NoF W W' → Calls Try.prog 40 #[.pointer (some ⟨b, 0, none⟩), .int .i64 (wd : Int), .int .i64 (k : Int)] W' fun e w' => e = .returned (.bool h) ∧ w' = W') := Lib.hid fun W' hk' => by
    have h1 := evholds_any (w := W') (b := b) (hk'.cellv (hB.bk.cell 4) fun h => h) ((hB.rd hZ).kept hk' fun _ _ h => h) h64 wd k (by omega) (by have := hok.n1; omega)
    rwa [hh] at h1
  clear hB
  go_enter Try.func20, Try.ntmps20
  go_upto_region 2 with (fail)
  generalize W.alloc (.cells #[.int .i64 (wd : Int), .int .i64 (k : Int)] 86) = W1 at *
  have b6 := HB.out.cell 6
  have b3 := HB.out.cell 3
  have p0 := HP.out.cell 0
  have p1 := HP.out.cell 1
  have hl : ∀ n, (Instr.lookup 63 (.map (some mb)) (.agg #[.int .i64 (wd : Int), .int .i64 (k : Int)]) true).run Try.prog (W1.drewN n) = .ok (.tuple #[.int .i64 0, .bool false]) (W1.drewN n) := fun n => by
    have hm : MapP (W1.drewN n) mb s.done := hmp
    have := hm.look encPlace Try.underlying63 (zeroInt _) (x := (wd, k)) hp true
    simpa [hd, inV, plV] using this
  go_quiet (fail)
  clear hl
  have k2 : Keep NoF W (W1.drewN nq) := k1.drewN _
  have HP2 : Hid (Bk (W1.drewN nq) W.heap.size 86 #[.int .i64 (wd : Int), .int .i64 (k : Int)]) := HP
  have HBD2 := Lib.hid (HBD.out.kept k2)
  generalize W1.drewN nq = W2 at *
  have b3' := HBD2.out.bk.cell 3
  have HH2 := Lib.hid (HH.out _ k2)
  clear HH b6 p0 p1
  have HR := Lib.hid (Bk.new W2 40 #[.int .i64 (wd : Int), .int .i64 (k : Int), .bool h, .slice none 0 0, .int .u64 0])
  have k3 : Keep NoF W2 (W2.alloc (.cells #[.int .i64 (wd : Int), .int .i64 (k : Int), .bool h, .slice none 0 0, .int .u64 0] 40)) := (Keep.refl _ _).alloc _
  go_upto_region 7 with (first
    | (go_at_call 40; (with_reducible refine HH2.out.mono ?_); rintro e w' ⟨rfl, hw'⟩; obtain rfl := hw'.symm))
  generalize W2.alloc (.cells #[.int .i64 (wd : Int), .int .i64 (k : Int), .bool h, .slice none 0 0, .int .u64 0] 40) = W3 at *
  replace b3' := k3.cellv b3' fun h => h
  have HBD3 := Lib.hid (HBD2.out.kept k3)
  obtain ⟨bl, off, rfl, -, hcc, x0, x1, x2, x3, x4, x5⟩ := (HBD3.out.rd hcr).nd hm
  have hopr := hc.op k m hm
  have hord := hc.ord k m hm
  have hag := hc.agent k m hm
  have hgr := hc.group k m hm
  have hsl := fun h9 => Ev.succ_lt hok hc hm h9 hwd
  obtain ⟨op, i, e0, g, mx, my⟩ := m
  simp only at x0 x1 x2 x3 x4 x5 hopr hord hag hgr hsl hcm
  have l1 : (k : Int) < (c.length : Int) := by omega
  have l0 : (0 : Int) ≤ (k : Int) := by omega
  have HNB := Lib.hid (Bk.new W3 53 #[.int .i64 op, .int .i64 i, .int .i64 e0, .int .i64 g, .int .i64 mx, .int .i64 my])
  have k4 : Keep NoF W3 (W3.alloc (.cells #[.int .i64 op, .int .i64 i, .int .i64 e0, .int .i64 g, .int .i64 mx, .int .i64 my] 53)) := (Keep.refl _ _).alloc _
  go_upto_region 8 with (fail)
  generalize W3.alloc (.cells #[.int .i64 op, .int .i64 i, .int .i64 e0, .int .i64 g, .int .i64 mx, .int .i64 my] 53) = W4 at *
  have K24 := k3.trans k4 fun _ _ h => h
  have HR4 := Lib.hid (HR.out.keep k4 fun h => h)
  have HBD4 := Lib.hid (HBD3.out.kept k4)
  have n0 := HNB.out.cell 0
  have n1 := HNB.out.cell 1
  have n2 := HNB.out.cell 2
  have n3 := HNB.out.cell 3
  have n4 := HNB.out.cell 4
  have n5 := HNB.out.cell 5
  have r2 := HR4.out.cell 2
  have HF4 : Hid (FixB W4 b M va ra cv cr rs (c) (some ⟨bl, off, none⟩) cc S zA zc) := Lib.hid ⟨HBD4.out.md hM, HBD4.out.rd hcr, HBD4.out.rd hZ, h64, HBD4.out.bk.cell 0, HBD4.out.bk.cell 1, HBD4.out.bk.cell 2, HBD4.out.bk.cell 3, HBD4.out.bk.cell 4⟩
  clear x0 x1 x2 x3 x4 x5 hmp
  go_upto_block 0 with (fail)
  go_cut [11] from 43 to 130 (fun v11 wc => NeedI W4 W2.heap.size wd k h (needsN M S ⟨op, i, e0, g, mx, my⟩ wd h).1 (needsN M S ⟨op, i, e0, g, mx, my⟩ wd h).2 v11 wc)
  case first =>
    have hcs : op = 1 ∨ op = 2 ∨ op = 3 ∨ op = 4 ∨ op = 5 ∨ op = 6 ∨ op = 7 ∨ op = 8 ∨ op = 9 ∨ op = 10 ∨ op = 11 ∨ op = 12 ∨ op = 13 := by omega
    rcases hcs with rfl | rfl | rfl | rfl | rfl | rfl | rfl | rfl | rfl | rfl | rfl | rfl | rfl
    · go_wp2
      go_meet
      exact ⟨World.ownsRow_nil _ _ _ _, HR4.out, Keep.refl _ _⟩
    · go_wp2
      go_meet
      exact ⟨World.ownsRow_nil _ _ _ _, HR4.out, Keep.refl _ _⟩
    · go_wp2
      go_meet
      exact ⟨World.ownsRow_nil _ _ _ _, HR4.out, Keep.refl _ _⟩
    · obtain ⟨x, rfl⟩ : ∃ x : Nat, mx = (x : Int) := ⟨mx.toNat, by have := hord.1 (by decide); omega⟩
      go_wp2
      go_meet
      exact ⟨own_new (n := 1) (plsC [(wd, x)]) (Nat.le_refl _) rfl (by unfold maxLen; decide), HR4.out.alloc _, (Keep.refl _ _).alloc _⟩
    · have hxx := hord.1 (by decide)
      have hyy := hord.2.2.1 (by decide)
      have HBO := Lib.hid (evboolean_any (w := W4) (b := b) HF4.out.c4 HF4.out.zr h64 wd (by have := hok.n1; omega) ⟨5, i, e0, g, mx, my⟩ (show (5 : Int) ≤ 5 ∧ (5 : Int) ≤ 8 by decide) ⟨hxx.1, by simp only; omega⟩ hyy.1 h)
      go_wp2_with (go_at_call 41; (with_reducible refine HBO.out.mono ?_); rintro e w5 ⟨v5, rfl, o5, k5⟩)
      go_meet
      exact ⟨o5, HR4.out.keep k5 fun h => h, k5.mono fun _ _ h => h.elim⟩
    · have hxx := hord.1 (by decide)
      have hyy := hord.2.2.1 (by decide)
      have HBO := Lib.hid (evboolean_any (w := W4) (b := b) HF4.out.c4 HF4.out.zr h64 wd (by have := hok.n1; omega) ⟨6, i, e0, g, mx, my⟩ (show (5 : Int) ≤ 6 ∧ (6 : Int) ≤ 8 by decide) ⟨hxx.1, by simp only; omega⟩ hyy.1 h)
      go_wp2_with (go_at_call 41; (with_reducible refine HBO.out.mono ?_); rintro e w5 ⟨v5, rfl, o5, k5⟩)
      go_meet
      exact ⟨o5, HR4.out.keep k5 fun h => h, k5.mono fun _ _ h => h.elim⟩
    · have hxx := hord.1 (by decide)
      have hyy := hord.2.2.1 (by decide)
      have HBO := Lib.hid (evboolean_any (w := W4) (b := b) HF4.out.c4 HF4.out.zr h64 wd (by have := hok.n1; omega) ⟨7, i, e0, g, mx, my⟩ (show (5 : Int) ≤ 7 ∧ (7 : Int) ≤ 8 by decide) ⟨hxx.1, by simp only; omega⟩ hyy.1 h)
      go_wp2_with (go_at_call 41; (with_reducible refine HBO.out.mono ?_); rintro e w5 ⟨v5, rfl, o5, k5⟩)
      go_meet
      exact ⟨o5, HR4.out.keep k5 fun h => h, k5.mono fun _ _ h => h.elim⟩
    · have hxx := hord.1 (by decide)
      have hyy := hord.2.2.1 (by decide)
      have HBO := Lib.hid (evboolean_any (w := W4) (b := b) HF4.out.c4 HF4.out.zr h64 wd (by have := hok.n1; omega) ⟨8, i, e0, g, mx, my⟩ (show (5 : Int) ≤ 8 ∧ (8 : Int) ≤ 8 by decide) ⟨hxx.1, by simp only; omega⟩ hyy.1 h)
      go_wp2_with (go_at_call 41; (with_reducible refine HBO.out.mono ?_); rintro e w5 ⟨v5, rfl, o5, k5⟩)
      go_meet
      exact ⟨o5, HR4.out.keep k5 fun h => h, k5.mono fun _ _ h => h.elim⟩
    · obtain ⟨x, rfl⟩ : ∃ x : Nat, mx = (x : Int) := ⟨mx.toNat, by have := hord.1 (by decide); omega⟩
      have hxx := hord.1 (by decide)
      have HMO := Lib.hid (evmodal_any (w := W4) HF4.out hok 9 i e0 g my x wd (fun _ => hag (by decide)) (fun h => absurd (by decide) h) hwd (hsl (by decide)) (by omega) h _ _ rfl rfl)
      go_wp2_with (go_at_call 42; (with_reducible refine HMO.out.mono ?_); rintro e w5 ⟨v5, rfl, o5, k5⟩)
      go_meet
      exact ⟨o5, HR4.out.keep k5 fun h => h, k5.mono fun _ _ h => h.elim⟩
    · obtain ⟨x, rfl⟩ : ∃ x : Nat, mx = (x : Int) := ⟨mx.toNat, by have := hord.1 (by decide); omega⟩
      have hxx := hord.1 (by decide)
      have HMO := Lib.hid (evmodal_any (w := W4) HF4.out hok 10 i e0 g my x wd (fun _ => hag (by decide)) (fun h => absurd (by decide) h) hwd (hsl (by decide)) (by omega) h _ _ rfl rfl)
      go_wp2_with (go_at_call 42; (with_reducible refine HMO.out.mono ?_); rintro e w5 ⟨v5, rfl, o5, k5⟩)
      go_meet
      exact ⟨o5, HR4.out.keep k5 fun h => h, k5.mono fun _ _ h => h.elim⟩
    · obtain ⟨x, rfl⟩ : ∃ x : Nat, mx = (x : Int) := ⟨mx.toNat, by have := hord.1 (by decide); omega⟩
      have hxx := hord.1 (by decide)
      have HMO := Lib.hid (evmodal_any (w := W4) HF4.out hok 11 i e0 g my x wd (fun h => absurd h (by decide)) (fun _ => by have := hgr (by decide); omega) hwd (hsl (by decide)) (by omega) h _ _ rfl rfl)
      go_wp2_with (go_at_call 42; (with_reducible refine HMO.out.mono ?_); rintro e w5 ⟨v5, rfl, o5, k5⟩)
      go_meet
      exact ⟨o5, HR4.out.keep k5 fun h => h, k5.mono fun _ _ h => h.elim⟩
    · obtain ⟨x, rfl⟩ : ∃ x : Nat, mx = (x : Int) := ⟨mx.toNat, by have := hord.1 (by decide); omega⟩
      have hxx := hord.1 (by decide)
      have HMO := Lib.hid (evmodal_any (w := W4) HF4.out hok 12 i e0 g my x wd (fun h => absurd h (by decide)) (fun _ => by have := hgr (by decide); omega) hwd (hsl (by decide)) (by omega) h _ _ rfl rfl)
      go_wp2_with (go_at_call 42; (with_reducible refine HMO.out.mono ?_); rintro e w5 ⟨v5, rfl, o5, k5⟩)
      go_meet
      exact ⟨o5, HR4.out.keep k5 fun h => h, k5.mono fun _ _ h => h.elim⟩
    · have HCO := Lib.hid (hcm rfl W4 HF4.out)
      have rset := HR4.out.cell 4
      go_wp2_with (go_at_call 43; (with_reducible refine HCO.out.mono ?_); rintro e w5 ⟨v5, rfl, o5, k5⟩
                   have r5 := k5.cellv rset fun h => h
                   have f5 := (HR4.out.keep k5 fun h => h).frozen 4)
      go_meet
      exact ⟨own_keep o5 fun j hj => Below.heap_setCell _ _ _ _ (by have := (o5.lt j hj).1; have := HR4.out.lt; simp only [ne_eq]; omega), (HR4.out.keep k5 fun h => h).put 4 _, (k5.mono (G := fun j => j = W2.heap.size) fun _ _ h => h.elim).setCell (p := ⟨W2.heap.size, 4, none⟩) (.inl rfl) _⟩
  case rest =>
    obtain ⟨hn, hrb, K4⟩ := hcut
    generalize (needsN M S ⟨op, i, e0, g, mx, my⟩ wd h).1 = l at *
    generalize (needsN M S ⟨op, i, e0, g, mx, my⟩ wd h).2 = set at *
    obtain ⟨vA, vc, rfl⟩ := own_form hn
    have K2c : Keep NoF W2 wc := K24.trans K4 fun i hi h => by have : i = W2.heap.size := h; omega
    have HBDc := Lib.hid (HBD2.out.kept K2c)
    have HWc := Lib.hid (k2.trans K2c fun _ _ h => h)
    have HSV : Hid (∀ x, sv.ownBlock = some x → x ≠ W2.heap.size) := Lib.hid fun x hx => by have := (HBD2.out.own.lt x hx).2; omega
    go_wp2
    obtain ⟨hblt, hmlt, hKW, hsvlt, hpslt⟩ := HST0.out
    have HC : Hid (LoopC W W4 b mb W2.heap.size ps sv) := Lib.hid ⟨hblt, hmlt, k2.size, by have := K24.size; have := HR4.out.lt; omega, by have := k2.size; have := K24.size; omega, hsvlt, hpslt⟩
    have HW0 : w0.heap.size ≤ W.heap.size := hKW
    go_loopw [88] (fun t wr => ∃ j : Nat, t = .int .i64 (j : Int) ∧ j ≤ l.length ∧ ∃ (psj : List (Option Addr × Nat)) (svj fv : Value), LoopJ w0 W W4 b M va ra cv cr c (some ⟨bl, off, none⟩) cc S zA zc ps sv mb W2.heap.size wd k set h l (.slice vA l.length vc) psj svj fv (exL (exN M c S F) (l.take j) s) j wr) (fun t _ => l.length - (intOf t).toNat)
    case atStart =>
      exact ⟨0, rfl, by omega, [], sv, .slice none 0 0, ⟨by rw [List.append_nil]; exact HBDc.out, hrb, World.ownsRow_nil _ _ _ _, fun p hp => absurd hp (by simp), hn, HWc.out.mono fun _ _ h => h.elim, fun x hx => ⟨.inl hx, HSV.out x hx⟩, K4.size, HP2.out.keep K2c fun h => h⟩⟩
    case round =>
      obtain ⟨j, rfl, hj, psj, svj, fv, L⟩ := hrel
      by_cases hlt : j < l.length
      · have LH := Lib.hid L
        obtain ⟨-, hvc, vb, vo, rfl, y0, y1⟩ := (Rd.of_own L.Ln).pl (k := j) (x := l[j]) (List.getElem?_eq_getElem hlt)
        clear L
        have l1 : (j : Int) < (l.length : Int) := by omega
        have l0 : (0 : Int) ≤ (j : Int) := by omega
        have hqb := hbl _ (List.getElem_mem hlt)
        have HPJ : Hid (l[j] = l[j]) := Lib.hid rfl
        generalize hpj : l[j] = pj at y0 y1 hqb
        obtain ⟨pw, pk⟩ := pj
        replace HPJ : Hid (l[j] = (pw, pk)) := Lib.hid hpj
        clear hpj
        simp only at y0 y1 hqb
        have HPB := Lib.hid (Bk.new wr 86 #[.int .i64 (pw : Int), .int .i64 (pk : Int)])
        have k6 : Keep NoF wr (wr.alloc (.cells #[.int .i64 (pw : Int), .int .i64 (pk : Int)] 86)) := (Keep.refl _ _).alloc _
        go_upto_region 26 with (fail)
        generalize wr.alloc (.cells #[.int .i64 (pw : Int), .int .i64 (pk : Int)] 86) = W5 at *
        have hIj := (exL_ok (k := k) (exN M c S F) hex s hi (l.take j) (fun q hq => hbl q (List.mem_of_mem_take hq))).1
        have LD := Lib.hid (LH.out.keep k6.drew)
        have HS5 : Hid (∀ x, svj.ownBlock = some x → x < wr.heap.size) := Lib.hid fun x hx => (LH.out.LB.own.lt x hx).2
        have HFL : Hid (∀ x, fv.ownBlock = some x → x < wr.heap.size) := Lib.hid fun x hx => (LH.out.Lf.lt x hx).2
        have HRL : Hid (W2.heap.size < wr.heap.size) := Lib.hid LH.out.Lr.lt
        have HWR : Hid (W.heap.size ≤ wr.heap.size) := Lib.hid LH.out.LK.size
        have HKL0 : Hid (Keep (fun x => x < wr.heap.size) W5.drew W5.drew) := Lib.hid (Keep.refl _ _)
        have HKL : Hid (∀ w', Keep (fun k => k = b ∨ k = mb ∨ svj.ownBlock = some k) W5.drew w' → Keep (fun x => x < wr.heap.size) W5.drew w') := Lib.hid fun w' hk => hk.mono fun x _ hx => by
          have h1 := HC.out.hb
          have h2 := HC.out.hm
          have h3 := HWR.out
          rcases hx with hx | hx | hx
          · omega
          · omega
          · exact HS5.out x hx
        have HPS : Hid (∀ w', Keep (fun x => x < wr.heap.size) W5.drew w' → w'.cell? ⟨wr.heap.size, 0, none⟩ = some (.int .i64 (pw : Int)) ∧ w'.cell? ⟨wr.heap.size, 1, none⟩ = some (.int .i64 (pk : Int))) := Lib.hid fun w' hk =>
          ⟨hk.cellv (HPB.out.cell 0) (Nat.lt_irrefl _), hk.cellv (HPB.out.cell 1) (Nat.lt_irrefl _)⟩
        have HCL := Lib.hid (IH pw pk _ _ _ _ hqb.1 hqb.2 hIj LD.out.LB)
        have r3d := LD.out.Lr.cell 3
        clear y0 y1 k6
        refine wp_region_held_drew (S := fun w' => w'.cell? ⟨wr.heap.size, 0, none⟩ = some (.int .i64 (pw : Int)) ∧ w'.cell? ⟨wr.heap.size, 1, none⟩ = some (.int .i64 (pk : Int))) (by kernel_rfl) (HPS.out _ HKL0.out) (fun hHeld => ?_)
        -- ROUND
        refine wpAnyH_take (i := 0) (oi := ⟨some 92, _, _, _, _, _⟩) (v := ?_) rfl (by kernel_rfl) (by kernel_rfl) (by kernel_rfl) (fun _ _ _ h => h) (Or.inl ⟨by rfl, ?_⟩) (by assumption) ?_
        rotate_left 1
        · intro w hSw
          (try dsimp only at hSw)
          go_simp
          all_goals (try with_reducible rfl)
        (try simp only [Act.put, List.setIfInBounds_toArray, List.set_cons_zero, List.set_cons_succ])
        refine wpAnyH_take (i := 2) (oi := ⟨some 94, _, _, _, _, _⟩) (v := ?_) rfl (by kernel_rfl) (by kernel_rfl) (by kernel_rfl) (fun _ _ _ h => h) (Or.inl ⟨by rfl, ?_⟩) (by assumption) ?_
        rotate_left 1
        · intro w hSw
          (try dsimp only at hSw)
          go_simp
          all_goals (try with_reducible rfl)
        (try simp only [Act.put, List.setIfInBounds_toArray, List.set_cons_zero, List.set_cons_succ])
        refine wpAnyH_take (i := 3) (oi := ⟨some 95, _, _, _, _, _⟩) (v := ?_) rfl (by kernel_rfl) (by kernel_rfl) (by kernel_rfl) (fun _ _ _ h => h) (Or.inl ⟨by rfl, ?_⟩) (by assumption) ?_
        rotate_left 1
        · intro w hSw
          (try dsimp only at hSw)
          go_simp
          all_goals (try with_reducible rfl)
        (try simp only [Act.put, List.setIfInBounds_toArray, List.set_cons_zero, List.set_cons_succ])
        refine wpAnyH_take (i := 4) (oi := ⟨some 96, _, _, _, _, _⟩) (v := ?_) rfl (by kernel_rfl) (by kernel_rfl) (by kernel_rfl) (fun _ _ _ h => h) (Or.inl ⟨by rfl, ?_⟩) (by assumption) ?_
        rotate_left 1
        · intro w hSw
          (try dsimp only at hSw)
          go_simp
          all_goals (try with_reducible rfl)
        (try simp only [Act.put, List.setIfInBounds_toArray, List.set_cons_zero, List.set_cons_succ])
        refine wpAnyH_take (i := 5) (oi := ⟨some 97, _, _, _, _, _⟩) (v := ?_) rfl (by kernel_rfl) (by kernel_rfl) (by kernel_rfl) (fun _ _ _ h => h) (Or.inl ⟨by rfl, ?_⟩) (by assumption) ?_
        rotate_left 1
        · intro w hSw
          (try dsimp only at hSw)
          go_simp
          all_goals (try with_reducible rfl)
        (try simp only [Act.put, List.setIfInBounds_toArray, List.set_cons_zero, List.set_cons_succ])
        refine wpAnyH_take (i := 6) (oi := ⟨some 98, _, _, _, _, _⟩) (v := ?_) rfl (by kernel_rfl) (by kernel_rfl) (by kernel_rfl) (fun _ _ _ h => h) (Or.inl ⟨by rfl, ?_⟩) (by assumption) ?_
        rotate_left 1
        · intro w hSw
          (try dsimp only at hSw)
          go_simp
          all_goals (try with_reducible rfl)
        (try simp only [Act.put, List.setIfInBounds_toArray, List.set_cons_zero, List.set_cons_succ])
        refine wpAnyH_ready (rs := [1, 7]) (by kernel_rfl) (by simp) ?_
        refine AllReadyH.cons (o := ⟨some 93, _, _, _, _, _⟩) rfl (fun K hK => ?_) ?_
        · go_simp
          refine hK.out _ _ (HPS.out _ HKL0.out) (fun hHeld => ?_)
          clear hK K
          (try simp only [Act.put, List.setIfInBounds_toArray, List.set_cons_zero, List.set_cons_succ])
          refine wpAnyH_ready (rs := [7]) (by kernel_rfl) (by simp) ?_
          refine AllReadyH.cons (o := ⟨some 99, _, _, _, _, _⟩) rfl (fun K hK => ?_) ?_
          · go_simp
            go_at_call 20
            (with_reducible refine HCL.out.mono ?_)
            rintro e w6 ⟨ps6, sv6, rfl, HB6, HK6, Hp6, Hs6⟩
            have L6 := Lib.hid (LD.out.expl HC.out HB6 HK6 Hp6 Hs6)
            have KL6 := HKL.out w6 HK6
            have r36 := L6.out.Lr.cell 3
            clear HB6 HK6 Hp6 Hs6
            (try go_wp2_with (fail))
            refine hK.out _ _ (HPS.out _ KL6) (fun hHeld => ?_)
            clear hK K
            (try simp only [Act.put, List.setIfInBounds_toArray, List.set_cons_zero, List.set_cons_succ])
            refine wpAnyH_ready (rs := [8]) (by kernel_rfl) (by simp) ?_
            refine AllReadyH.cons (o := ⟨some 100, _, _, _, _, _⟩) rfl (fun K hK => ?_) ?_
            · go_simp
              refine hK.out _ _ (HPS.out _ (KL6.alloc _)) (fun hHeld => ?_)
              clear hK K
              (try simp only [Act.put, List.setIfInBounds_toArray, List.set_cons_zero, List.set_cons_succ])
              have L7 := Lib.hid (L6.out.keep ((Keep.refl _ _).alloc (.cells #[.int .i64 ((exN M c S F pw pk (exL (exN M c S F) (l.take j) s).2).1 : Int)] 3)))
              have KL7 := KL6.alloc (.cells #[.int .i64 ((exN M c S F pw pk (exL (exN M c S F) (l.take j) s).2).1 : Int)] 3)
              have HF8 : Hid (∀ w', (w6.alloc (.cells #[.int .i64 ((exN M c S F pw pk (exL (exN M c S F) (l.take j) s).2).1 : Int)] 3)).grownBy w' fv.ownBlock → Bk w' W2.heap.size 40 #[.int .i64 (wd : Int), .int .i64 (k : Int), .bool h, fv, .int .u64 set]) := Lib.hid fun w' hg => L7.out.Lr.grown hg fun he => by have := (L7.out.Lf.lt _ he.symm).1; have := HC.out.hr4; omega
              have r37 := L7.out.Lr.cell 3
              refine wpAnyH_ready (rs := [9]) (by kernel_rfl) (by simp) ?_
              refine AllReadyH.cons (o := ⟨some 101, _, _, _, _, _⟩) rfl (fun K hK => ?_) ?_
              · refine step_app (by rfl) elemInt_ (.tmp 93) (.tmp 100) (by rfl) (by rfl) L7.out.Lf ⟨w6.heap.size, 0, none⟩ 1 1 [.int .i64 ((exN M c S F pw pk (exL (exN M c S F) (l.take j) s).2).1 : Int)] (by rfl) (by rfl) (World.news_of_block (cs := #[.int .i64 ((exN M c S F pw pk (exL (exN M c S F) (l.take j) s).2).1 : Int)]) (t := 3) (fr := (0, 0)) (heap_alloc_new w6 _)) (by simp [Value.oneCell']) (by omega) (by omega) (by omega) (L7.out.L4) ?_
                intro g8 cap8 w8 HO8 HA8
                have L9 := Lib.hid (L7.out.push HC.out _ HO8 HA8 HW0)
                have KL8 := KL7.grown HA8.grown fun x hx => .inl (HFL.out x hx)
                have f38 : w8.frozen? ⟨W2.heap.size, 3, none⟩ = false := (HF8.out w8 HA8.grown).frozen 3
                have d38 : w8.cell? ⟨W2.heap.size, 3, none⟩ = some fv := (HF8.out w8 HA8.grown).cell 3
                refine hK.out _ _ (HPS.out _ KL8) (fun hHeld => ?_)
                clear hK K
                (try simp only [Act.put, List.setIfInBounds_toArray, List.set_cons_zero, List.set_cons_succ])
                refine wpAnyH_take (i := 10) (oi := ⟨some 102, _, _, _, _, _⟩) (v := ?_) rfl (by kernel_rfl) (by kernel_rfl) (by kernel_rfl) (fun _ _ _ h => h) (Or.inl ⟨by rfl, ?_⟩) (by assumption) ?_
                rotate_left 1
                · intro w hSw
                  (try dsimp only at hSw)
                  go_simp
                  all_goals (try with_reducible rfl)
                (try simp only [Act.put, List.setIfInBounds_toArray, List.set_cons_zero, List.set_cons_succ])
                refine wpAnyH_ready (rs := [11]) (by kernel_rfl) (by simp) ?_
                refine AllReadyH.cons (o := ⟨none, _, _, _, _, _⟩) rfl (fun K hK => ?_) ?_
                · go_simp
                  refine hK.out _ _ (HPS.out _ (KL8.setCell (p := ⟨W2.heap.size, 3, none⟩) (.inl HRL.out) _)) (fun hHeld => ?_)
                  clear hK K
                  (try simp only [Act.put, List.setIfInBounds_toArray, List.set_cons_zero, List.set_cons_succ])
                  refine wpAnyH_done (by kernel_rfl) ?_ _
                  go_wp2
                  refine ⟨⟨j + 1, by simp, by omega, psj ++ ps6, sv6, .slice (some ⟨g8, 0, none⟩) (j + 1) cap8, ?_⟩, by show l.length - ((j : Int) + 1).toNat < l.length - ((j : Int)).toNat; omega⟩
                  rw [List.take_succ_eq_append_getElem hlt, exL_snoc, HPJ.out]
                  exact L9.out
                exact AllReadyH.nil
              exact AllReadyH.nil
            exact AllReadyH.nil
          exact AllReadyH.nil
        refine AllReadyH.cons (o := ⟨some 99, _, _, _, _, _⟩) rfl (fun K hK => ?_) ?_
        · go_simp
          go_at_call 20
          (with_reducible refine HCL.out.mono ?_)
          rintro e w6 ⟨ps6, sv6, rfl, HB6, HK6, Hp6, Hs6⟩
          have L6 := Lib.hid (LD.out.expl HC.out HB6 HK6 Hp6 Hs6)
          have KL6 := HKL.out w6 HK6
          have r36 := L6.out.Lr.cell 3
          clear HB6 HK6 Hp6 Hs6
          (try go_wp2_with (fail))
          refine hK.out _ _ (HPS.out _ KL6) (fun hHeld => ?_)
          clear hK K
          (try simp only [Act.put, List.setIfInBounds_toArray, List.set_cons_zero, List.set_cons_succ])
          refine wpAnyH_ready (rs := [1, 8]) (by kernel_rfl) (by simp) ?_
          refine AllReadyH.cons (o := ⟨some 93, _, _, _, _, _⟩) rfl (fun K hK => ?_) ?_
          · go_simp
            refine hK.out _ _ (HPS.out _ KL6) (fun hHeld => ?_)
            clear hK K
            (try simp only [Act.put, List.setIfInBounds_toArray, List.set_cons_zero, List.set_cons_succ])
            refine wpAnyH_ready (rs := [8]) (by kernel_rfl) (by simp) ?_
            refine AllReadyH.cons (o := ⟨some 100, _, _, _, _, _⟩) rfl (fun K hK => ?_) ?_
            · go_simp
              refine hK.out _ _ (HPS.out _ (KL6.alloc _)) (fun hHeld => ?_)
              clear hK K
              (try simp only [Act.put, List.setIfInBounds_toArray, List.set_cons_zero, List.set_cons_succ])
              have L7 := Lib.hid (L6.out.keep ((Keep.refl _ _).alloc (.cells #[.int .i64 ((exN M c S F pw pk (exL (exN M c S F) (l.take j) s).2).1 : Int)] 3)))
              have KL7 := KL6.alloc (.cells #[.int .i64 ((exN M c S F pw pk (exL (exN M c S F) (l.take j) s).2).1 : Int)] 3)
              have HF8 : Hid (∀ w', (w6.alloc (.cells #[.int .i64 ((exN M c S F pw pk (exL (exN M c S F) (l.take j) s).2).1 : Int)] 3)).grownBy w' fv.ownBlock → Bk w' W2.heap.size 40 #[.int .i64 (wd : Int), .int .i64 (k : Int), .bool h, fv, .int .u64 set]) := Lib.hid fun w' hg => L7.out.Lr.grown hg fun he => by have := (L7.out.Lf.lt _ he.symm).1; have := HC.out.hr4; omega
              have r37 := L7.out.Lr.cell 3
              refine wpAnyH_ready (rs := [9]) (by kernel_rfl) (by simp) ?_
              refine AllReadyH.cons (o := ⟨some 101, _, _, _, _, _⟩) rfl (fun K hK => ?_) ?_
              · refine step_app (by rfl) elemInt_ (.tmp 93) (.tmp 100) (by rfl) (by rfl) L7.out.Lf ⟨w6.heap.size, 0, none⟩ 1 1 [.int .i64 ((exN M c S F pw pk (exL (exN M c S F) (l.take j) s).2).1 : Int)] (by rfl) (by rfl) (World.news_of_block (cs := #[.int .i64 ((exN M c S F pw pk (exL (exN M c S F) (l.take j) s).2).1 : Int)]) (t := 3) (fr := (0, 0)) (heap_alloc_new w6 _)) (by simp [Value.oneCell']) (by omega) (by omega) (by omega) (L7.out.L4) ?_
                intro g8 cap8 w8 HO8 HA8
                have L9 := Lib.hid (L7.out.push HC.out _ HO8 HA8 HW0)
                have KL8 := KL7.grown HA8.grown fun x hx => .inl (HFL.out x hx)
                have f38 : w8.frozen? ⟨W2.heap.size, 3, none⟩ = false := (HF8.out w8 HA8.grown).frozen 3
                have d38 : w8.cell? ⟨W2.heap.size, 3, none⟩ = some fv := (HF8.out w8 HA8.grown).cell 3
                refine hK.out _ _ (HPS.out _ KL8) (fun hHeld => ?_)
                clear hK K
                (try simp only [Act.put, List.setIfInBounds_toArray, List.set_cons_zero, List.set_cons_succ])
                refine wpAnyH_take (i := 10) (oi := ⟨some 102, _, _, _, _, _⟩) (v := ?_) rfl (by kernel_rfl) (by kernel_rfl) (by kernel_rfl) (fun _ _ _ h => h) (Or.inl ⟨by rfl, ?_⟩) (by assumption) ?_
                rotate_left 1
                · intro w hSw
                  (try dsimp only at hSw)
                  go_simp
                  all_goals (try with_reducible rfl)
                (try simp only [Act.put, List.setIfInBounds_toArray, List.set_cons_zero, List.set_cons_succ])
                refine wpAnyH_ready (rs := [11]) (by kernel_rfl) (by simp) ?_
                refine AllReadyH.cons (o := ⟨none, _, _, _, _, _⟩) rfl (fun K hK => ?_) ?_
                · go_simp
                  refine hK.out _ _ (HPS.out _ (KL8.setCell (p := ⟨W2.heap.size, 3, none⟩) (.inl HRL.out) _)) (fun hHeld => ?_)
                  clear hK K
                  (try simp only [Act.put, List.setIfInBounds_toArray, List.set_cons_zero, List.set_cons_succ])
                  refine wpAnyH_done (by kernel_rfl) ?_ _
                  go_wp2
                  refine ⟨⟨j + 1, by simp, by omega, psj ++ ps6, sv6, .slice (some ⟨g8, 0, none⟩) (j + 1) cap8, ?_⟩, by show l.length - ((j : Int) + 1).toNat < l.length - ((j : Int)).toNat; omega⟩
                  rw [List.take_succ_eq_append_getElem hlt, exL_snoc, HPJ.out]
                  exact L9.out
                exact AllReadyH.nil
              exact AllReadyH.nil
            exact AllReadyH.nil
          refine AllReadyH.cons (o := ⟨some 100, _, _, _, _, _⟩) rfl (fun K hK => ?_) ?_
          · go_simp
            refine hK.out _ _ (HPS.out _ (KL6.alloc _)) (fun hHeld => ?_)
            clear hK K
            (try simp only [Act.put, List.setIfInBounds_toArray, List.set_cons_zero, List.set_cons_succ])
            have L7 := Lib.hid (L6.out.keep ((Keep.refl _ _).alloc (.cells #[.int .i64 ((exN M c S F pw pk (exL (exN M c S F) (l.take j) s).2).1 : Int)] 3)))
            have KL7 := KL6.alloc (.cells #[.int .i64 ((exN M c S F pw pk (exL (exN M c S F) (l.take j) s).2).1 : Int)] 3)
            have HF8 : Hid (∀ w', (w6.alloc (.cells #[.int .i64 ((exN M c S F pw pk (exL (exN M c S F) (l.take j) s).2).1 : Int)] 3)).grownBy w' fv.ownBlock → Bk w' W2.heap.size 40 #[.int .i64 (wd : Int), .int .i64 (k : Int), .bool h, fv, .int .u64 set]) := Lib.hid fun w' hg => L7.out.Lr.grown hg fun he => by have := (L7.out.Lf.lt _ he.symm).1; have := HC.out.hr4; omega
            have r37 := L7.out.Lr.cell 3
            refine wpAnyH_ready (rs := [1]) (by kernel_rfl) (by simp) ?_
            refine AllReadyH.cons (o := ⟨some 93, _, _, _, _, _⟩) rfl (fun K hK => ?_) ?_
            · go_simp
              refine hK.out _ _ (HPS.out _ (KL6.alloc _)) (fun hHeld => ?_)
              clear hK K
              (try simp only [Act.put, List.setIfInBounds_toArray, List.set_cons_zero, List.set_cons_succ])
              refine wpAnyH_ready (rs := [9]) (by kernel_rfl) (by simp) ?_
              refine AllReadyH.cons (o := ⟨some 101, _, _, _, _, _⟩) rfl (fun K hK => ?_) ?_
              · refine step_app (by rfl) elemInt_ (.tmp 93) (.tmp 100) (by rfl) (by rfl) L7.out.Lf ⟨w6.heap.size, 0, none⟩ 1 1 [.int .i64 ((exN M c S F pw pk (exL (exN M c S F) (l.take j) s).2).1 : Int)] (by rfl) (by rfl) (World.news_of_block (cs := #[.int .i64 ((exN M c S F pw pk (exL (exN M c S F) (l.take j) s).2).1 : Int)]) (t := 3) (fr := (0, 0)) (heap_alloc_new w6 _)) (by simp [Value.oneCell']) (by omega) (by omega) (by omega) (L7.out.L4) ?_
                intro g8 cap8 w8 HO8 HA8
                have L9 := Lib.hid (L7.out.push HC.out _ HO8 HA8 HW0)
                have KL8 := KL7.grown HA8.grown fun x hx => .inl (HFL.out x hx)
                have f38 : w8.frozen? ⟨W2.heap.size, 3, none⟩ = false := (HF8.out w8 HA8.grown).frozen 3
                have d38 : w8.cell? ⟨W2.heap.size, 3, none⟩ = some fv := (HF8.out w8 HA8.grown).cell 3
                refine hK.out _ _ (HPS.out _ KL8) (fun hHeld => ?_)
                clear hK K
                (try simp only [Act.put, List.setIfInBounds_toArray, List.set_cons_zero, List.set_cons_succ])
                refine wpAnyH_take (i := 10) (oi := ⟨some 102, _, _, _, _, _⟩) (v := ?_) rfl (by kernel_rfl) (by kernel_rfl) (by kernel_rfl) (fun _ _ _ h => h) (Or.inl ⟨by rfl, ?_⟩) (by assumption) ?_
                rotate_left 1
                · intro w hSw
                  (try dsimp only at hSw)
                  go_simp
                  all_goals (try with_reducible rfl)
                (try simp only [Act.put, List.setIfInBounds_toArray, List.set_cons_zero, List.set_cons_succ])
                refine wpAnyH_ready (rs := [11]) (by kernel_rfl) (by simp) ?_
                refine AllReadyH.cons (o := ⟨none, _, _, _, _, _⟩) rfl (fun K hK => ?_) ?_
                · go_simp
                  refine hK.out _ _ (HPS.out _ (KL8.setCell (p := ⟨W2.heap.size, 3, none⟩) (.inl HRL.out) _)) (fun hHeld => ?_)
                  clear hK K
                  (try simp only [Act.put, List.setIfInBounds_toArray, List.set_cons_zero, List.set_cons_succ])
                  refine wpAnyH_done (by kernel_rfl) ?_ _
                  go_wp2
                  refine ⟨⟨j + 1, by simp, by omega, psj ++ ps6, sv6, .slice (some ⟨g8, 0, none⟩) (j + 1) cap8, ?_⟩, by show l.length - ((j : Int) + 1).toNat < l.length - ((j : Int)).toNat; omega⟩
                  rw [List.take_succ_eq_append_getElem hlt, exL_snoc, HPJ.out]
                  exact L9.out
                exact AllReadyH.nil
              exact AllReadyH.nil
            exact AllReadyH.nil
          exact AllReadyH.nil
        exact AllReadyH.nil
        -- END ROUND
      · obtain rfl : j = l.length := by omega
        rw [List.take_length] at L
        obtain ⟨hIa, -, ha1⟩ := exL_ok (k := k) (exN M c S F) hex s hi l hbl
        have hlen := hIa.len
        have hn64 := hok.n1
        have hnc : M.n * c.length ≤ 64 * 1000 := Nat.mul_le_mul hn64.2.1 hcl
        generalize exL (exN M c S F) l s = a at *
        obtain ⟨sA, sc, rfl⟩ := own_form L.LB.own
        obtain ⟨fA, fc, rfl⟩ := own_form L.Lf
        have b5 : wr.cell? ⟨b, 5, none⟩ = some (.slice sA a.2.steps.length sc) := L.LB.bk.cell 5
        have r0 : wr.cell? ⟨W2.heap.size, 0, none⟩ = some (.int .i64 (wd : Int)) := L.Lr.cell 0
        have r1 : wr.cell? ⟨W2.heap.size, 1, none⟩ = some (.int .i64 (k : Int)) := L.Lr.cell 1
        have r2' : wr.cell? ⟨W2.heap.size, 2, none⟩ = some (.bool h) := L.Lr.cell 2
        have r3 : wr.cell? ⟨W2.heap.size, 3, none⟩ = some (.slice fA l.length fc) := L.Lr.cell 3
        have r4 : wr.cell? ⟨W2.heap.size, 4, none⟩ = some (.int .u64 (set : Int)) := L.Lr.cell 4
        have hvb : (Value.slice sA a.2.steps.length sc).ownBlock ≠ some b := own_ne_bk L.LB.own L.LB.bk (by decide)
        have hvm : (Value.slice sA a.2.steps.length sc).ownBlock ≠ some mb := own_ne_map L.LB.own L.LB.mp
        have hw0 : w0.heap.size ≤ wr.heap.size := Nat.le_trans HW0 L.LK.size
        have hbw := L.LB.bk.lt
        have hrw := L.Lr.lt
        have LH := Lib.hid L
        have KR : Hid (Keep NoF wr ((wr.alloc (.cells #[.int .i64 (wd : Int), .int .i64 (k : Int), .bool h, .slice fA l.length fc, .int .u64 (set : Int)] 40)).drew)) := Lib.hid (((Keep.refl _ _).alloc _).drew)
        clear L hIa hex hbl IH
        go_upto_region 28 with (fail)
        go_region_law
          ((refine step_app (by rfl) elemReason (.tmp 108) (.tmp 110) (by rfl) (by rfl) ((LH.out.LB.own.alloc _).drew) ⟨wr.heap.size, 0, none⟩ 1 1 [.int .i64 (wd : Int), .int .i64 (k : Int), .bool h, .slice fA l.length fc, .int .u64 (set : Int)] (by rfl) (by rfl)
              (World.news_of_block (cs := #[.int .i64 (wd : Int), .int .i64 (k : Int), .bool h, .slice fA l.length fc, .int .u64 (set : Int)]) (t := 40) (fr := (0, 0)) (heap_alloc_new wr _)) (by simp [Value.oneCell']) (by omega) (by omega) (by omega) (by simp; omega) ?_; intro g4 cap4 w4 hown4 hA4
            have hb4 : Bk w4 b 65 #[.int .i64 M.W, .slice va M.V.length cv, .slice ra M.R.length cr, .slice (some ⟨bl, off, none⟩) c.length cc, .slice zA S.length zc, .slice sA a.2.steps.length sc, .map (some mb)] := Bk.grown (Bk.drew (Bk.alloc LH.out.LB.bk _)) hA4.grown (Ne.symm hvb)
            have d4 : w4.cell? ⟨b, 5, none⟩ = some (.slice sA a.2.steps.length sc) := (hb4.cell 5).trans rfl
            have f4 : w4.frozen? ⟨b, 5, none⟩ = false := hb4.frozen 5
            have HQ4 := Lib.hid (And.intro hown4 (And.intro hA4 hb4))))
        all_goals
          obtain ⟨hown4', hA4', hb4'⟩ := HQ4.out
          have e4 : rsC ⟨wd, k, h, a.1, set⟩ (fA, fc) = [.int .i64 (wd : Int), .int .i64 (k : Int), .bool h, .slice fA l.length fc, .int .u64 (set : Int)] := by simp [rsC, ha1]
          rw [← e4] at hown4'
          have hb6 := hb4'.put 5 (.slice (some ⟨g4, 0, none⟩) (a.2.steps.length + 1) cap4)
          have hp4 : Bk w4 W.heap.size 86 #[.int .i64 (wd : Int), .int .i64 (k : Int)] := Bk.grown (Bk.drew (Bk.alloc LH.out.Lb _)) hA4'.grown fun he => own_ne_bk LH.out.LB.own LH.out.Lb (by decide) he.symm
          have hp6 := hp4.far (p := ⟨b, 5, none⟩) (by show W.heap.size ≠ b; omega) (.slice (some ⟨g4, 0, none⟩) (a.2.steps.length + 1) cap4)
          have hbm : b ≠ mb := Ne.symm (LH.out.LB.mp.ne_bk LH.out.LB.bk)
          have hmp4 : MapP (w4.setCell ⟨b, 5, none⟩ (.slice (some ⟨g4, 0, none⟩) (a.2.steps.length + 1) cap4)) mb a.2.done :=
            LH.out.LB.mp.block ((Below.heap_setCell _ _ _ _ (by show mb ≠ b; exact Ne.symm hbm)).trans ((hA4'.grown.block mb (by have := LH.out.LB.mp.lt; simp; omega) (Ne.symm hvm)).trans (Below.heap_alloc _ _ _ LH.out.LB.mp.lt)))
          have d6 : (w4.setCell ⟨b, 5, none⟩ (.slice (some ⟨g4, 0, none⟩) (a.2.steps.length + 1) cap4)).cell? ⟨b, 6, none⟩ = some (.map (some mb)) := hb6.cell 6
          have d5 : (w4.setCell ⟨b, 5, none⟩ (.slice (some ⟨g4, 0, none⟩) (a.2.steps.length + 1) cap4)).cell? ⟨b, 5, none⟩ = some (.slice (some ⟨g4, 0, none⟩) (a.2.steps.length + 1) cap4) := hb6.cell 5
          have q0 : (w4.setCell ⟨b, 5, none⟩ (.slice (some ⟨g4, 0, none⟩) (a.2.steps.length + 1) cap4)).cell? ⟨W.heap.size, 0, none⟩ = some (.int .i64 (wd : Int)) := hp6.cell 0
          have q1 : (w4.setCell ⟨b, 5, none⟩ (.slice (some ⟨g4, 0, none⟩) (a.2.steps.length + 1) cap4)).cell? ⟨W.heap.size, 1, none⟩ = some (.int .i64 (k : Int)) := hp6.cell 1
          have HX := Lib.hid (And.intro hown4' (And.intro hA4' (And.intro hb6 hmp4)))
          have e1 : ((a.2.steps.length + 1 : Nat) : Int) - 1 = (a.2.steps.length : Int) := by omega
          have hp7 : ∀ w7, (w4.setCell ⟨b, 5, none⟩ (.slice (some ⟨g4, 0, none⟩) (a.2.steps.length + 1) cap4)).drew.grownBy w7 (some mb) → Bk w7 W.heap.size 86 #[.int .i64 (wd : Int), .int .i64 (k : Int)] := fun w7 hg => Bk.grown (Bk.drew hp6) hg (by simp; omega)
          clear hown4' hA4' hb4' hown4 hA4 hb4 d4 f4 e4 hb6 hp4 hp6 hmp4 b5 r0 r1 r2' r3 r4
          generalize hW6 : w4.setCell ⟨b, 5, none⟩ (.slice (some ⟨g4, 0, none⟩) (a.2.steps.length + 1) cap4) = W6 at *
          have HW6 := Lib.hid hW6
          clear hW6
          go_upto_region 29 with (fail)
          refine wp_region_held_drew (S := fun w' => w'.cell? ⟨b, 5, none⟩ = some (.slice (some ⟨g4, 0, none⟩) (a.2.steps.length + 1) cap4) ∧ w'.cell? ⟨b, 6, none⟩ = some (.map (some mb)) ∧ w'.cell? ⟨W.heap.size, 0, none⟩ = some (.int .i64 (wd : Int)) ∧ w'.cell? ⟨W.heap.size, 1, none⟩ = some (.int .i64 (k : Int))) (by kernel_rfl) ⟨d5, d6, q0, q1⟩ (fun hHeld => ?_)
          -- MAP
          refine wpAnyH_take (i := 0) (oi := ⟨some 114, _, _, _, _, _⟩) (v := ?_) rfl (by kernel_rfl) (by kernel_rfl) (by kernel_rfl) (fun _ _ _ h => h) (Or.inl ⟨by rfl, ?_⟩) (by assumption) ?_
          rotate_left 1
          · intro w hSw
            (try dsimp only at hSw)
            go_simp
            all_goals (try with_reducible rfl)
          (try simp only [Act.put, List.setIfInBounds_toArray, List.set_cons_zero, List.set_cons_succ])
          refine wpAnyH_take (i := 1) (oi := ⟨some 115, _, _, _, _, _⟩) (v := ?_) rfl (by kernel_rfl) (by kernel_rfl) (by kernel_rfl) (fun _ _ _ h => h) (Or.inl ⟨by rfl, ?_⟩) (by assumption) ?_
          rotate_left 1
          · intro w hSw
            (try dsimp only at hSw)
            go_simp
            all_goals (try with_reducible rfl)
          (try simp only [Act.put, List.setIfInBounds_toArray, List.set_cons_zero, List.set_cons_succ])
          refine wpAnyH_take (i := 2) (oi := ⟨some 116, _, _, _, _, _⟩) (v := ?_) rfl (by kernel_rfl) (by kernel_rfl) (by kernel_rfl) (fun _ _ _ h => h) (Or.inl ⟨by rfl, ?_⟩) (by assumption) ?_
          rotate_left 1
          · intro w hSw
            (try dsimp only at hSw)
            go_simp
            all_goals (try with_reducible rfl)
          (try simp only [Act.put, List.setIfInBounds_toArray, List.set_cons_zero, List.set_cons_succ])
          refine wpAnyH_take (i := 3) (oi := ⟨some 117, _, _, _, _, _⟩) (v := ?_) rfl (by kernel_rfl) (by kernel_rfl) (by kernel_rfl) (fun _ _ _ h => h) (Or.inl ⟨by rfl, ?_⟩) (by assumption) ?_
          rotate_left 1
          · intro w hSw
            (try dsimp only at hSw)
            go_simp
            all_goals (try with_reducible rfl)
          (try simp only [Act.put, List.setIfInBounds_toArray, List.set_cons_zero, List.set_cons_succ])
          refine wpAnyH_take (i := 4) (oi := ⟨some 118, _, _, _, _, _⟩) (v := ?_) rfl (by kernel_rfl) (by kernel_rfl) (by kernel_rfl) (fun _ _ _ h => h) (Or.inl ⟨by rfl, ?_⟩) (by assumption) ?_
          rotate_left 1
          · intro w hSw
            (try dsimp only at hSw)
            go_simp
            all_goals (try with_reducible rfl)
          (try simp only [Act.put, List.setIfInBounds_toArray, List.set_cons_zero, List.set_cons_succ])
          refine wpAnyH_take (i := 5) (oi := ⟨some 119, _, _, _, _, _⟩) (v := ?_) rfl (by kernel_rfl) (by kernel_rfl) (by kernel_rfl) (fun _ _ _ h => h) (Or.inl ⟨by rfl, ?_⟩) (by assumption) ?_
          rotate_left 1
          · intro w hSw
            (try dsimp only at hSw)
            go_simp
            all_goals (try with_reducible rfl)
          (try simp only [Act.put, List.setIfInBounds_toArray, List.set_cons_zero, List.set_cons_succ])
          refine wpAnyH_take (i := 6) (oi := ⟨some 120, _, _, _, _, _⟩) (v := ?_) rfl (by kernel_rfl) (by kernel_rfl) (by kernel_rfl) (fun _ _ _ h => h) (Or.inl ⟨by rfl, ?_⟩) (by assumption) ?_
          rotate_left 1
          · intro w hSw
            (try dsimp only at hSw)
            go_simp
            all_goals (try with_reducible rfl)
          (try simp only [Act.put, List.setIfInBounds_toArray, List.set_cons_zero, List.set_cons_succ])
          refine wpAnyH_take (i := 7) (oi := ⟨some 121, _, _, _, _, _⟩) (v := ?_) rfl (by kernel_rfl) (by kernel_rfl) (by kernel_rfl) (fun _ _ _ h => h) (Or.inl ⟨by rfl, ?_⟩) (by assumption) ?_
          rotate_left 1
          · intro w hSw
            (try dsimp only at hSw)
            go_simp
            all_goals (try with_reducible rfl)
          (try simp only [Act.put, List.setIfInBounds_toArray, List.set_cons_zero, List.set_cons_succ])
          refine wpAnyH_take (i := 8) (oi := ⟨some 122, _, _, _, _, _⟩) (v := ?_) rfl (by kernel_rfl) (by kernel_rfl) (by kernel_rfl) (fun _ _ _ h => h) (Or.inl ⟨by rfl, ?_⟩) (by assumption) ?_
          rotate_left 1
          · intro w hSw
            (try dsimp only at hSw)
            go_simp
            all_goals (try with_reducible rfl)
          (try simp only [Act.put, List.setIfInBounds_toArray, List.set_cons_zero, List.set_cons_succ])
          refine wpAnyH_take (i := 9) (oi := ⟨some 123, _, _, _, _, _⟩) (v := ?_) rfl (by kernel_rfl) (by kernel_rfl) (by kernel_rfl) (fun _ _ _ h => h) (Or.inl ⟨by rfl, ?_⟩) (by assumption) ?_
          rotate_left 1
          · intro w hSw
            (try dsimp only at hSw)
            go_simp
            all_goals (try with_reducible rfl)
          (try simp only [Act.put, List.setIfInBounds_toArray, List.set_cons_zero, List.set_cons_succ])
          refine wpAnyH_take (i := 10) (oi := ⟨some 124, _, _, _, _, _⟩) (v := .int .i64 (a.2.steps.length : Int)) rfl (by kernel_rfl) (by kernel_rfl) (by kernel_rfl) (fun _ _ _ h => h) (Or.inl ⟨by rfl, ?_⟩) (by assumption) ?_
          · intro w hSw
            (try dsimp only at hSw)
            go_simp
            exact wrap_i64 (by omega) (by omega)
          (try simp only [Act.put, List.setIfInBounds_toArray, List.set_cons_zero, List.set_cons_succ])
          refine wpAnyH_ready (rs := [11]) (by kernel_rfl) (by simp) ?_
          refine AllReadyH.cons (o := ⟨none, _, _, _, _, _⟩) rfl (fun K hK => ?_) ?_
          · refine step_mapT (by rfl) (by exact HX.out.2.2.2) encPlace Try.underlying63 (x := (wd, k)) hp a.2.steps.length (.tmp 117) (.tmp 118) (.tmp 124) (by rfl) (by rfl) (by rfl) (by rfl) ?_
            intro w7 hm7 hg7 hs7
            have hb7 := Bk.grown (Bk.drew HX.out.2.2.1) hg7 (by simpa using hbm)
            have d57 : w7.cell? ⟨b, 5, none⟩ = some (.slice (some ⟨g4, 0, none⟩) (a.2.steps.length + 1) cap4) := hb7.cell 5
            refine hK.out _ _ ⟨d57, hb7.cell 6, (hp7 w7 hg7).cell 0, (hp7 w7 hg7).cell 1⟩ (fun hHeld => ?_)
            clear hK K
            (try simp only [Act.put, List.setIfInBounds_toArray, List.set_cons_zero, List.set_cons_succ])
            refine wpAnyH_done (by kernel_rfl) ?_ _
            have hg7s : (w4.setCell ⟨b, 5, none⟩ (.slice (some ⟨g4, 0, none⟩) (a.2.steps.length + 1) cap4)).grownBy w7 (some mb) := by
              rw [HW6.out]
              exact ⟨hg7.os, hg7.tape, hg7.output, hg7.size, hg7.block⟩
            have HD := Lib.hid ((LH.out.keep KR.out).done HC.out ha1 HW0 HX.out.1 HX.out.2.1 (hm7.congr fun y => by by_cases e : y = (wd, k) <;> simp [e]) hg7s)
            clear hg7s hm7 hg7 hb7 hs7
            have e9 := wrap_i64 (z := (a.2.steps.length : Int)) (by omega) (by omega)
            go_wp2
            refine bodyPost_ret (v := .int .i64 (a.2.steps.length : Int)) (by simp [results, Try.results20, go_sem, e9]) rfl ?_
            rw [HEX.out]
            exact ⟨psj ++ [(fA, fc)], _, rfl, HD.out.1, HD.out.2.1, HD.out.2.2.1, HD.out.2.2.2⟩
          exact AllReadyH.nil
          -- END MAP
end
end Go.Proofs.Ytmjdbbfoihadoaa
namespace Go.Proofs.Ytmjdbbfoihadoaa
open Go.RowKit
open Ev
open Fm (Nd)
attribute [local go_sem] Oper.semAt_some

/-- What is asked of builder.common. -/
def CmOk (M : Md) (b : Nat) (va ra : Option Addr) (cv cr : Nat) (rs : List (Option Addr × Nat)) (c : List Nd) (cA : Option Addr) (cc : Nat) (S : List Nat) (zA : Option Addr) (zc : Nat) : Prop :=
  ∀ (k : Nat) (m : Nd), c[k]? = some m → m.op = 13 → ∀ (wd : Nat) (h : Bool), wd < M.n →
    Below_ M.n k (commonN M S m wd h).1 ∧ (commonN M S m wd h).1.length ≤ 200 ∧
    ∀ W' : World, FixB W' b M va ra cv cr rs c cA cc S zA zc → Calls Try.prog 43 #[.pointer (some ⟨b, 0, none⟩), .int .i64 (wd : Int), .agg #[.int .i64 m.op, .int .i64 m.i, .int .i64 m.e, .int .i64 m.g, .int .i64 m.x, .int .i64 m.y], .bool h] W' (CmPost W' (commonN M S m wd h))
theorem needs_ok {M : Md} {b : Nat} {va ra : Option Addr} {cv cr : Nat} {rs : List (Option Addr × Nat)} {c : List Nd} {cA : Option Addr} {cc : Nat} {S : List Nat} {zA : Option Addr} {zc : Nat} (hok : Okm M) (hc : Okc M c) (HC : CmOk M b va ra cv cr rs c cA cc S zA zc)
    (wd k : Nat) (m : Nd) (hm : c[k]? = some m) (hwd : wd < M.n) (h : Bool) : Below_ M.n k (needsN M S m wd h).1 ∧ (needsN M S m wd h).1.length ≤ 200 := by
  have hop := hc.op k m hm
  have hord := hc.ord k m hm
  unfold needsN
  by_cases h4 : m.op = 4
  · rw [if_pos h4]
    have := hord.1 (by rw [h4]; decide)
    exact ⟨below_one hwd (by omega), by simp⟩
  · rw [if_neg h4]
    by_cases h5 : 5 ≤ m.op ∧ m.op ≤ 8
    · rw [if_pos h5]
      have hx := hord.1 (by have : m.op = 5 ∨ m.op = 6 ∨ m.op = 7 ∨ m.op = 8 := by omega
                            rcases this with e | e | e | e <;> rw [e] <;> decide)
      have hy := hord.2.2.1 (by have : m.op = 5 ∨ m.op = 6 ∨ m.op = 7 ∨ m.op = 8 := by omega
                                rcases this with e | e | e | e <;> rw [e] <;> decide)
      exact ⟨below_bool hwd (by omega) (by omega), by have := bool_len (S := S) (m := m) (w := wd) (h := h); simp only; omega⟩
    · rw [if_neg h5]
      by_cases h9 : 9 ≤ m.op ∧ m.op ≤ 12
      · rw [if_pos h9]
        have hx := hord.1 (by have : m.op = 9 ∨ m.op = 10 ∨ m.op = 11 ∨ m.op = 12 := by omega
                              rcases this with e | e | e | e <;> rw [e] <;> decide)
        exact ⟨below_modal (Ev.succ_lt hok hc hm (by omega) hwd) (by omega), by have := modal_len (M := M) (S := S) (m := m) (w := wd) (h := h); simp only; omega⟩
      · rw [if_neg h9]
        by_cases h13 : m.op = 13
        · rw [if_pos h13]
          exact ⟨(HC k m hm h13 wd h hwd).1, (HC k m hm h13 wd h hwd).2.1⟩
        · rw [if_neg h13]
          exact ⟨fun q hq => by simp at hq, by simp⟩
theorem getD_of {c : List Nd} {k : Nat} (hk : k < c.length) : c[k]? = some (c.getD k default) := by
  rw [List.getD_eq_getElem?_getD, List.getElem?_eq_getElem hk]
  rfl
theorem evexplain_any {w0 : World} {b : Nat} {M : Md} {va ra : Option Addr} {cv cr : Nat} {rs : List (Option Addr × Nat)} {c : List Nd} {cA : Option Addr} {cc : Nat} {S : List Nat} {zA : Option Addr} {zc : Nat}
    (hM : MdR w0 M va cv ra cr rs) (hok : Okm M) (hc : Okc M c) (hcr : Rd w0 (.slice cA c.length cc) 6 c.length (fmC c)) (hcl : c.length ≤ 1000) (hZ : Rd w0 (.slice zA S.length zc) 1 S.length (u6 S)) (h64 : ∀ x ∈ S, x < 18446744073709551616) (hSc : c.length ≤ S.length)
    (HC : CmOk M b va ra cv cr rs c cA cc S zA zc) : ∀ (F wd k : Nat) (W : World) (s : ES) (ps : List (Option Addr × Nat)) (sv : Value) (mb : Nat), k < F → wd < M.n → k < c.length → Inv M.n c.length s → BdS w0 W b M va ra cv cr c cA cc S zA zc s ps sv mb →
    Calls Try.prog 20 #[.pointer (some ⟨b, 0, none⟩), .int .i64 (wd : Int), .int .i64 (k : Int)] W (ExPost w0 W b M va ra cv cr c cA cc S zA zc ps sv mb (exN M c S F wd k s))
  | 0, _, _, _, _, _, _, _, h, _, _, _, _ => absurd h (by omega)
  | F + 1, wd, k, W, s, ps, sv, mb, hF, hwd, hk, hi, hB => by
    have hb : ∀ w k, w < M.n → k < c.length → Below_ M.n k (needsN M S (c.getD k default) w (hasN S w k)).1 := fun w k hw hk => (needs_ok hok hc HC w k _ (getD_of hk) hw _).1
    cases hd : s.done (wd, k) with
    | some i =>
      have e : exN M c S (F + 1) wd k s = (i, s) := by
        unfold exN
        rw [hd]
      rw [e]
      exact evexplain_done hB wd k i ⟨by unfold tiny; have := hok.n1; omega, by unfold tiny; omega⟩ hd
    | none =>
      have hm := getD_of hk
      obtain ⟨h1, h2⟩ := needs_ok hok hc HC wd k _ hm hwd (hasN S wd k)
      exact evexplain_new hM hok hc hcr hcl hZ h64 hSc hB wd k hwd hk hd _ hm _ rfl (fun h13 => (HC k _ hm h13 wd _ hwd).2.2) F hi h1 h2
        (fun wd' k' W' s' ps' sv' hwd' hk' hi' hB' => evexplain_any hM hok hc hcr hcl hZ h64 hSc HC F wd' k' W' s' ps' sv' mb (by omega) hwd' (by omega) hi' hB')
        (fun w j s' hw hj hs' => exN_ok hb F w j s' (by omega) hw (by omega) hs')
end Go.Proofs.Ytmjdbbfoihadoaa
