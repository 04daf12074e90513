/- What the reference's node does. No condition. -/
import Derived.Test.YtgdmcidcappkpaaGreatRNode
import Derived.Test.YtgdmcidcappkpaaGreatExp
import Derived.Deep.CutBlock
set_option linter.unusedVariables false
set_option linter.unusedSimpArgs false
namespace Go.Proofs.YtgdmcidcappkpaaGreat
open Go.RowKit
open Dd (Rn rat ofN mk)

theorem idx_of {N : List Nd} {x : Nd} {k : Nat} (h : N[k]? = some x) (hn : ∀ j, j < k → N[j]? ≠ some x) : x ∈ N ∧ N.idxOf x = k := by
  have hk : k < N.length := (List.getElem?_eq_some_iff.1 h).1
  have hmem : x ∈ N := List.mem_of_getElem? h
  refine ⟨hmem, ?_⟩
  have hi := List.idxOf_lt_length_of_mem hmem
  have hge : N[N.idxOf x]? = some x := by rw [List.getElem?_eq_getElem hi, List.getElem_idxOf hi]
  by_cases h1 : N.idxOf x < k
  · exact absurd hge (hn _ h1)
  · by_cases h2 : k < N.idxOf x
    · exfalso
      have := List.not_of_lt_findIdx (p := (· == x)) (xs := N) (i := k) h2
      have e : N[k] = x := (List.getElem?_eq_some_iff.1 h).2
      simp [e] at this
    · omega

/-- The list of a diagram behind a pointer: its slice stands at cell o + 1 of block b. -/
structure OutB (w : World) (b o : Nat) (t : TypeId) (cs : Array Value) (dv : Value) (N : List Nd) : Prop where
  bk : Bk w b t cs
  at_ : cs[o + 1]? = some dv
  own : w.ownsRow 0 47 3 dv N.length (ndsC N)
  ne : dv.ownBlock ≠ some b

set_option maxRecDepth 100000 in
set_option maxHeartbeats 400000 in
theorem rnode_same (p : Value) (v l : Nat) (w : World) :
    Calls Tryz.prog 108 #[p, .int .i64 v, .int .i64 l, .int .i64 l] w fun e w' => e = .returned (.int .i64 l) ∧ w = w' := by
  have e : ((l : Int) == (l : Int)) = true := by simp
  go_enter Tryz.func108, Tryz.ntmps108
  go_wp2
  go_ret
  exact ⟨rfl, rfl⟩

/-- What node hands back. -/
def NdPost (w : World) (b o : Nat) (t : TypeId) (cs : Array Value) (dv : Value) (N : List Nd) (v l h : Nat) (e : Ending) (w' : World) : Prop :=
  ∃ dv', e = .returned (.int .i64 ((mk N v l h).1 : Nat)) ∧ OutB w' b o t (cs.setIfInBounds (o + 1) dv') dv' (mk N v l h).2 ∧ Keep (fun k => k = b ∨ dv.ownBlock = some k) w w' ∧ ∀ k, dv'.ownBlock = some k → dv.ownBlock = some k ∨ w.heap.size ≤ k

theorem set_same {cs : Array Value} {i : Nat} {u : Value} (h : cs[i]? = some u) : cs.setIfInBounds i u = cs := by
  apply Array.ext_getElem?
  intro j
  by_cases hj : i = j
  · subst hj
    have hi := (Array.getElem?_eq_some_iff.1 h).1
    rw [Array.getElem?_setIfInBounds_self_of_lt hi, h]
  · rw [Array.getElem?_setIfInBounds_ne hj]

set_option maxRecDepth 100000 in
set_option maxHeartbeats 4000000 in
theorem rnode_any {w : World} {b o : Nat} {t : TypeId} {cs : Array Value} {dv : Value} {N : List Nd} (H : OutB w b o t cs dv N) (ht : 47 ≠ t) (hlen : N.length ≤ 1099511627776) (v l h : Nat) (hl : l ≤ 1099511627776) (hh : h ≤ 1099511627776) (hv : v < 24) :
    Calls Tryz.prog 108 #[.pointer (some ⟨b, o, none⟩), .int .i64 v, .int .i64 l, .int .i64 h] w (NdPost w b o t cs dv N v l h) := by
  by_cases hlh : l = h
  · subst hlh
    refine (rnode_same _ v l w).mono fun e w' ⟨he, hw⟩ => ?_
    subst hw
    refine ⟨dv, by simpa [mk] using he, ?_, Keep.refl _ _, fun k hk => .inl hk⟩
    rw [set_same H.at_]
    simpa [mk] using H
  · have hne' : ((l : Int) == (h : Int)) = false := by simp; omega
    have hrd0 := Rd.of_own H.own
    rw [show (ndsC N) = rnsC (ofN N) from (rnsC_ofN N).symm, show N.length = (ofN N).length from (Dd.ofN_len N).symm] at hrd0
    obtain ⟨A, c, rfl⟩ := own_form H.own
    have hlr : (ofN N).length = N.length := Dd.ofN_len N
    have c1 : w.cell? ⟨b, o + 1, none⟩ = some (.slice A N.length c) := by rw [H.bk.cell]; exact H.at_
    have lb := H.bk.lt
    rw [hlr] at hrd0
    have HLR := Lib.hid hlr
    clear hlr
    go_enter Tryz.func108, Tryz.ntmps108
    go_upto_block 0 with (fail)
    have k0 : Keep NoF w (w.alloc (.cells #[.int .i64 v, .int .i64 l, .int .i64 h] 47)) := (Keep.refl _ _).alloc _
    have qn := Bk.new w 47 #[.int .i64 v, .int .i64 l, .int .i64 h]
    have qb := H.bk.keep k0 (fun h => h)
    have hrd := hrd0.kept k0 fun _ _ h => h
    have hown : (w.alloc (.cells #[.int .i64 v, .int .i64 l, .int .i64 h] 47)).ownsRow 0 47 3 (.slice A N.length c) N.length (ndsC N) := own_keep H.own fun k hk => k0.block k (H.own.lt k hk).2 (fun h => h)
    have hs0 : (Value.slice A N.length c).ownBlock ≠ some w.heap.size := fun he => by have := (H.own.lt _ he).2; omega
    have hz : (w.alloc (.cells #[.int .i64 v, .int .i64 l, .int .i64 h] 47)).heap.size = w.heap.size + 1 := by simp
    have HZ := Lib.hid hz
    have hzl : w.heap.size < (w.alloc (.cells #[.int .i64 v, .int .i64 l, .int .i64 h] 47)).heap.size := by omega
    clear hrd0 c1 hz
    generalize w.alloc (.cells #[.int .i64 v, .int .i64 l, .int .i64 h] 47) = W0 at *
    have c1 : W0.cell? ⟨b, o + 1, none⟩ = some (.slice A N.length c) := by rw [qb.cell]; exact H.at_
    go_cut [] (fun wc => (v, l, h) ∉ N ∧ Keep NoF W0 wc)
    case first =>
      go_wp2
      go_loopw [24] (fun i wr => ∃ k : Nat, i = .int .i64 k ∧ k ≤ N.length ∧ (∀ j, j < k → N[j]? ≠ some (v, l, h)) ∧ Keep NoF W0 wr) (fun i _ => N.length - (intOf i).toNat)
      case atStart => exact ⟨0, rfl, by omega, fun j hj => by omega, Keep.refl _ _⟩
      case round =>
        obtain ⟨k, rfl, hk, hall, hkr⟩ := hrel
        have HALL := Lib.hid hall
        clear hall
        by_cases hlt : k < N.length
        · obtain ⟨bl, off, rfl, x1, x2, x3⟩ := (show Rd wr (.slice A N.length c) 3 (ofN N).length (rnsC (ofN N)) by rw [HLR.out]; exact hrd.kept hkr fun _ _ h => h).node (k := k) (by rw [HLR.out]; exact hlt)
          have hNk : N[k]? = some N[k] := List.getElem?_eq_getElem hlt
          have hrt : rat (ofN N) k = ((N[k].1 : Int), (N[k].2.1 : Int), (N[k].2.2 : Int)) := by
            rw [Dd.ofN_at, List.getD_eq_getElem?_getD, hNk]; rfl
          rw [hrt] at x1 x2 x3
          have HNK := Lib.hid hNk
          clear hrt hNk
          generalize N[k] = nk at *
          obtain ⟨a1, a2, a3⟩ := nk
          simp only at x1 x2 x3
          have z1 : wr.cell? ⟨b, o + 1, none⟩ = some (.slice (some ⟨bl, off, none⟩) N.length c) := hkr.cellv c1 (fun h => h)
          have n0 : wr.cell? ⟨w.heap.size, 0, none⟩ = some (.int .i64 v) := (qn.keep hkr (fun h => h)).cell 0
          have n1 : wr.cell? ⟨w.heap.size, 1, none⟩ = some (.int .i64 l) := (qn.keep hkr (fun h => h)).cell 1
          have n2 : wr.cell? ⟨w.heap.size, 2, none⟩ = some (.int .i64 h) := (qn.keep hkr (fun h => h)).cell 2
          have b1 : (0 : Int) ≤ (k : Int) := by omega
          have b2 : (k : Int) < (N.length : Int) := by omega
          have hsd := nd_guard
          have heql := run_nd_eql (a1 : Int) (a2 : Int) (a3 : Int) (v : Int) (l : Int) (h : Int)
          generalize hdd : decide ((((a1 : Int), (a2 : Int), (a3 : Int)) : Rn) = ((v : Int), (l : Int), (h : Int))) = dd at *
          have HDD := Lib.hid hdd
          clear hdd c1
          cases dd
          · go_wp2
            go_quiet (fail)
            go_wp2
            go_roundw
            case rel =>
              refine ⟨k + 1, by go_num, by omega, fun j hj => ?_, hkr.drewN _⟩
              by_cases hjk : j = k
              · rw [hjk, HNK.out]
                intro e
                have e' := Option.some.inj e
                refine of_decide_eq_false HDD.out ?_
                simp only [Prod.mk.injEq] at e' ⊢
                omega
              · exact HALL.out j (by omega)
            case measure => simp [intOf]; omega
          · go_wp2
            go_quiet (fail)
            go_wp2
            go_ret
            have e : ((a1, a2, a3) : Nd) = (v, l, h) := by
              have := of_decide_eq_true HDD.out
              simp only [Prod.mk.injEq] at this ⊢
              omega
            obtain ⟨hm, hix⟩ := idx_of (HNK.out.trans (congrArg some e)) HALL.out
            have hmk : mk N v l h = (k + 2, N) := by unfold mk; rw [if_neg hlh, if_pos hm, hix]
            have kk : Keep NoF w wr := k0.trans hkr fun _ _ h => h
            rw [NdPost, hmk]
            refine ⟨.slice (some ⟨bl, off, none⟩) N.length c, congrArg Ending.returned (congrArg (Value.int .i64) (by simp)), ?_, (kk.mono (fun _ _ h => h.elim)).drewN _, fun k hk => .inl hk⟩
            rw [set_same H.at_]
            exact ⟨(H.bk.keep kk (fun h => h)).drewN _, H.at_, own_keep (w := wr) (own_keep H.own fun x hx => kk.block x (H.own.lt x hx).2 (fun h => h)) fun _ _ => rfl, H.ne⟩
        · go_wp2
          go_meet
          case rel =>
            refine ⟨fun hm => ?_, hkr⟩
            obtain ⟨j, hj, hje⟩ := List.getElem_of_mem hm
            exact HALL.out j (by omega) (by rw [List.getElem?_eq_getElem hj, hje])
    case rest =>
      obtain ⟨hnin, hkc⟩ := hcut
      obtain ⟨W5, rfl⟩ : ∃ W5 : World, W5 = wc := ⟨_, rfl⟩
      have hmk : mk N v l h = (N.length + 2, N ++ [(v, l, h)]) := by unfold mk; rw [if_neg hlh, if_neg hnin]
      have HMK := Lib.hid hmk
      clear hmk hnin
      have oo : W5.ownsRow 0 47 3 (.slice A N.length c) N.length (ndsC N) := own_keep hown fun k hk => hkc.block k (hown.lt k hk).2 (fun h => h)
      have od := qb.keep hkc (fun h => h)
      have hn5 := qn.keep hkc (fun h => h)
      have hdne : (Value.slice A N.length c).ownBlock ≠ some b := H.ne
      have hA := H.at_
      have hnb : w.heap.size ≠ b := by omega
      have c0 : W5.cell? ⟨b, o + 1, none⟩ = some (.slice A N.length c) := by rw [od.cell]; exact hA
      have f0 : W5.frozen? ⟨b, o + 1, none⟩ = false := od.frozen _
      have d1 : W5.cell? ⟨w.heap.size, 0, none⟩ = some (.int .i64 v) := hn5.cell 0
      have d2 : W5.cell? ⟨w.heap.size, 1, none⟩ = some (.int .i64 l) := hn5.cell 1
      have d3 : W5.cell? ⟨w.heap.size, 2, none⟩ = some (.int .i64 h) := hn5.cell 2
      have hobl : b < W5.heap.size := od.lt
      have hnl : w.heap.size < W5.heap.size := hn5.lt
      have kw5 : Keep NoF w W5 := k0.trans hkc fun _ _ h => h
      clear c1 qn qb hown hrd
      obtain ⟨i0, hi0, hz0, hz1, hz2⟩ := info_parts infoNode
      go_upto_region 10 with (fail)
      go_cut [] (fun w' => ∃ gg cap, Bk w' b t (cs.setIfInBounds (o + 1) (.slice (some ⟨gg, 0, none⟩) (N.length + 1) cap)) ∧
        w'.ownsRow 0 47 3 (.slice (some ⟨gg, 0, none⟩) (N.length + 1) cap) (N.length + 1) (ndsC N ++ ndC (v, l, h)) ∧ gg ≠ b ∧
        Keep (fun k => k = b ∨ (Value.slice A N.length c).ownBlock = some k) W5 w' ∧ ((Value.slice A N.length c).ownBlock = some gg ∨ W5.heap.size ≤ gg))
      case first =>
        go_region_law
          ((refine step_append_lies _ (by rfl) _ _ _ (by rfl) 0 47 i0 _ 3 24 Tryz.underlying22 hi0 hz0 hz1 hz2 rfl (by omega) (.slice A N.length c) N.length (ndsC N) (by rfl) ((oo.alloc _).drew)
              ⟨W5.heap.size, 0, none⟩ 1 1 [.int .i64 v, .int .i64 l, .int .i64 h] (by rfl) (by rfl) (World.news_of_block (cs := #[.int .i64 v, .int .i64 l, .int .i64 h]) (t := 47) (fr := (0, 0)) (heap_alloc_new W5 _)) (by simp [Value.oneCell'])
              (by omega) (by unfold maxLen; omega) (by omega) (by simp) (W5.heap.size + 1) (by simp) ?_; intro gg cap w1 hown1 hgrow hat hlt
            have hb3 : Bk w1 b t cs := Bk.grown (Bk.drew (Bk.alloc od _)) hgrow (Ne.symm hdne)
            have c4 : w1.cell? ⟨b, o + 1, none⟩ = some (.slice A N.length c) := by rw [hb3.cell]; exact hA
            have f4 : w1.frozen? ⟨b, o + 1, none⟩ = false := hb3.frozen _))
        all_goals
          go_wp2
          go_meet
          case rel =>
            have hgb : gg ≠ b := fun e => by
              have h1 := hown1
              rcases h1.2 with ⟨h, _⟩ | ⟨g', cap', cur, hg, _, hh, _⟩
              · cases h
              · injection hg with hg _ _
                injection hg with hg
                injection hg with hg _ _
                have hb4 : w1.heap[gg]? = some (.cells cs t (0, 0)) := by rw [e]; exact hb3
                rw [hg] at hb4
                rw [hh] at hb4
                injection hb4 with hb4
                injection hb4 with _ hb4
                exact ht hb4
            refine ⟨gg, cap, hb3.put (o + 1) _, own_keep hown1 (fun k hk => ?_), hgb, ?_, ?_⟩
            · have he : gg = k := by simpa [Value.ownBlock] using hk
              subst he
              exact Below.heap_setCell _ _ _ _ hgb
            · exact ((((Keep.refl _ _).alloc _).drew).grown hgrow (fun k hk => .inl (.inr hk))).setCell (.inl (.inl rfl)) _
            · rcases hat with h | h
              · exact .inl h
              · exact .inr (by omega)
      case rest =>
        obtain ⟨gg, cap, hb6, hown6, hgb, hk6, hg6⟩ := hcut
        obtain ⟨wa, rfl⟩ : ∃ wa : World, wa = wc := ⟨_, rfl⟩
        clear c0 f0 d1 d2 d3 oo od hn5
        have hlc : o + 1 < cs.size := (Array.getElem?_eq_some_iff.1 hA).1
        have e1 : (cs.setIfInBounds (o + 1) (.slice (some ⟨gg, 0, none⟩) (N.length + 1) cap))[o + 1]? = some (.slice (some ⟨gg, 0, none⟩) (N.length + 1) cap) := by
          rw [Array.getElem?_setIfInBounds_self_of_lt hlc]
        have d1 : wa.cell? ⟨b, o + 1, none⟩ = some (.slice (some ⟨gg, 0, none⟩) (N.length + 1) cap) := by rw [hb6.cell]; exact e1
        have HE1 := Lib.hid e1
        clear e1
        go_wp2
        go_ret
        rw [NdPost, HMK.out]
        refine ⟨.slice (some ⟨gg, 0, none⟩) (N.length + 1) cap, congrArg Ending.returned (congrArg (Value.int .i64) (by simp; try omega)), ⟨hb6, HE1.out, ?_, fun e => hgb (by simpa [Value.ownBlock] using e)⟩, ?_, fun k hk => ?_⟩
        · simpa [ndsC_snoc, ndC] using hown6
        · exact (kw5.mono fun _ _ h => h.elim).trans hk6 fun _ _ h => h
        · have he : gg = k := by simpa [Value.ownBlock] using hk
          subst he
          rcases hg6 with h | h
          · exact .inl h
          · exact .inr (by have := kw5.size; omega)
end Go.Proofs.YtgdmcidcappkpaaGreat
