/- A set as text: what the program's Format does. Conditions: the library's table of trailing zeros lies in its variable. -/
import Derived.Test.YtmnhgeggojgflaaGreatDoorWtEF
set_option linter.unusedVariables false
set_option linter.unusedSimpArgs false
namespace Go.Proofs.YtmnhgeggojgflaaGreatDoor.Ws
open Go.RowKit Go.Shelf
attribute [local go_sem] Oper.semAt_some

theorem infoStr : (Tryz.prog.info? 9).map (fun i => (i.zero, i.size, i.bytes)) = some (some (.string ⟨#[]⟩), 1, 16) := by kernel_rfl
def encS (x : Nat) : Value := .string (txt (Lib.decDigits x))

theorem stepIn_app {F : Fence} {n : Nat} {P : Program} {Q : Exit → Act → World → Prop} {K : Act → World → Prop} {ops : Array Oper} {o : Oper} {a : Act} {w w' : World} {D : Prop} {v v' sl : Value} (hgd : o.guard = none) (s x : Operand) (t : TypeId)
    (ho : o.op = .call { callee := .builtin .append, args := #[s, x], argTypes := #[t, t] }) (hs : a.eval s = v) (hx : a.eval x = sl) (hrun : (Builtin.append_ #[t, t] o.type #[v, sl]).run P w = .ok v' w') (hK : K (a.put o.dst v') w') :
    if Region.wanted o (yielded ops a.tmps) = true then Oper.wpIn F n P o a w K Q else D := by
  rw [if_pos (by simp [Region.wanted, hgd])]
  unfold Oper.wpIn
  refine ⟨by simp [Oper.about, ho, resolve, Target.leads, Sem.run_pure], ?_⟩
  rw [Oper.semAt_plain F _ _ (by rw [ho]; intro c hc; cases hc)]
  simp [execOp, ho, resolve, invoke, builtin, hs, hx, hrun, Result.andThen]
  exact hK

section
set_option maxRecDepth 100000
set_option maxHeartbeats 1000000
theorem Format_any (s : Nat) (w : World) (hs : s < 18446744073709551616) (ht : Tab w) :
    Calls Tryz.prog 26 #[.int .u64 s] w fun e w' => e = .returned (.string (txt (fmtS s))) ∧ Keep NoF w w' := by
  have hml := mem_len s
  have hmix : Tryz.prog.follows .mixedOrders = true := by kernel_rfl
  refine (callsIn_wide (n := 3)).1 ?_
  refine callsIn_of_wp_marks Tryz.func26 rfl trivial ?_ rfl
  simp only [Tryz.ntmps26, List.size_toArray, List.length_cons, List.length_nil, Nat.reduceAdd, Nat.reduceSub, Array.replicate_succ, Array.replicate_zero, List.push_toArray, List.append_toArray, List.nil_append, List.cons_append]
  gi_wp2_with (refine ⟨trivial, ?_⟩; gi_at_call 58; refine (callsIn_wide.2 (each_any s _)).mono ?_; rintro e w' ⟨rfl, rfl⟩)
  refine each_at (n := 3) (B := w.heap.size + 1) (s := s) (w.heap.size + 2) (by simp) (by omega) hs rfl (by simpa using Bk.new (w.alloc (.cells #[.slice none 0 0] 22)) 45 #[.int .u64 s]) rfl
    (InBox w w.heap.size (w.heap.size + 2) 22 9 encS) (fun _ _ => False) ?hI (fun _ _ _ h _ => h.elim) ?hT ?h0
    (fun x => { tmps := #[.int .u64 s, undef, .string ⟨#[]⟩, .pointer (some ⟨w.heap.size, 0, none⟩), .int .i64 (x : Nat), .int .u64 s, .func (.func 94) #[] #[.pointer (some ⟨w.heap.size + 1, 0, none⟩)], .int .i64 (x : Nat), undef, undef, undef, undef, undef, undef, undef, undef, undef], defers := [] }) ?assign ?body ?done ?stop
  case hI =>
    intro pre W W' h hk
    exact h.keep hk (by rintro (h | h | h) <;> omega) (by omega) (by omega)
  case hT =>
    rintro pre W ⟨v, -, -, hk, -⟩
    exact ht.keep0 hk
  case h0 => exact ⟨_, (Bk.new w 22 #[.slice none 0 0]).alloc _, World.ownsRow_nil _ _ _ _, ((Keep.refl _ w).alloc _).alloc _, Nat.le_refl _⟩
  case assign =>
    intro l x W K hK
    gi_wp2
    exact hK
  case body =>
    rintro l pre x W hpx ⟨v, hv, ho, hk, -⟩ hBW hDW
    have hlen : pre.length + 1 ≤ 64 := by
      have := hpx.length_le
      simp at this
      omega
    have hx64 : x < 64 := (mem_lt (hpx.subset (by simp))).1
    have hc0 := hv.cell 0
    have hf0 := hv.frozen 0
    obtain ⟨i0, hi, hz0, hz1, hz2⟩ := info_parts infoStr
    have hob : ∀ k, v.ownBlock = some k → w.heap.size + 2 + 2 ≤ k ∧ k < W.heap.size := ho.lt
    obtain ⟨d, HD⟩ : ∃ d, Hid (encS x = .string d) := ⟨_, Lib.hid rfl⟩
    have HI : Hid (∀ W, Calls Tryz.prog 25 #[.int .i64 x] W fun e w' => e = .returned (.string d) ∧ w' = W) := Lib.hid fun W => by rw [← HD.out]; exact itoa_any x (by omega) W
    have ho1 : ((W.alloc (.cells #[.string d] 9)).drew).ownsRow (w.heap.size + 2 + 2) 9 1 v pre.length (pre.map encS) := ho.alloc _
    obtain ⟨v', w1, hrun, hown', hgrow, -⟩ := run_append_own (P := Tryz.prog) ((W.alloc (.cells #[.string d] 9)).drew) (w.heap.size + 2 + 2) 22 22 9 i0 (.string ⟨#[]⟩) 1 16 Tryz.underlying22 hi hz0 hz1 hz2 rfl (by decide) v _ _ ho1 ⟨W.heap.size, 0, none⟩ 1 1 [.string d] rfl (cell_one_new _ _ _) (by simp [Value.oneCell']) (by simp [maxLen]; omega) (by omega) (by simp; omega)
    obtain ⟨g', cap', rfl⟩ := ownsRow_succ hown'
    have hv1 : Bk w1 w.heap.size 22 #[v] := ((hv.alloc (.cells #[.string d] 9)).drew).grown hgrow (fun e => by have := (hob _ e.symm).1; omega)
    have hc1 := hv1.cell 0
    have hf1 := hv1.frozen 0
    have hc2 := (hv.alloc (.cells #[.string d] 9)).cell 0
    gi_wp2
    have HF : Hid (ePost (w.heap.size + 1) (w.heap.size + 2) (InBox w w.heap.size (w.heap.size + 2) 22 9 encS) (fun _ _ => False) (pre ++ [x]) W Exit.normal { tmps := #[], defers := [] } (w1.setCell ⟨w.heap.size, 0, none⟩ (.slice (some ⟨g', 0, none⟩) (pre.length + 1) cap'))) := by
      refine ⟨fun k hk3 => ?_, _, bk_set hv1 _, ?_, ?_, Nat.le_refl _⟩
      · have hkW : k < W.heap.size := by rcases hk3 with rfl | rfl | rfl <;> omega
        have hkb : k ≠ w.heap.size := by rcases hk3 with rfl | rfl | rfl <;> omega
        refine (Below.heap_setCell _ _ _ _ hkb).trans ((hgrow.block k (by simp; omega) fun e => ?_).trans (Below.heap_alloc _ _ _ hkW))
        have := (hob _ e.symm).1
        rcases hk3 with rfl | rfl | rfl <;> omega
      · rw [show (pre ++ [x]).length = pre.length + 1 by simp, List.map_append, List.map_singleton, HD.out]
        exact own_keep hown' fun k hkv => Below.heap_setCell _ _ _ _ (by
          have := (hown'.lt k hkv).1
          simp
          omega)
      · exact ((((hk.alloc _).drew).grown hgrow fun k e => .inr (by have := (hob _ e).1; omega)).setCell (.inr (by simp)) _)
    refine wpIn_region_any hmix ?_
    change wpAnyIn _ _ _ _ _ _ _ _ _ (World.drew _)
    refine wpAnyIn_ready (rs := [0, 1]) (by kernel_rfl) (by simp) ?_
    refine AllReadyIn.cons rfl (fun K hK => ?_) ?_
    · go_simp
      refine hK _ _ ?_
      clear hK K
      refine wpAnyIn_ready (rs := [1]) (by kernel_rfl) (by simp) ?_
      refine AllReadyIn.cons rfl (fun K hK => ?_) ?_
      · go_simp
        refine hK _ _ ?_
        clear hK K
        refine wpAnyIn_ready (rs := [2]) (by kernel_rfl) (by simp) ?_
        refine AllReadyIn.cons rfl (fun K hK => ?_) ?_
        · go_simp
          gi_wp2_with (refine ⟨trivial, ?_⟩; gi_at_call 25; refine (CallsIn.inRound l (callsIn_wide.2 (HI.out _))).mono ?_; rintro e w' ⟨rfl, hw'⟩; obtain rfl := hw'.symm)
          refine wpAnyIn_ready (rs := [3]) (by kernel_rfl) (by simp) ?_
          refine AllReadyIn.cons rfl (fun K hK => ?_) ?_
          · go_simp
            refine hK _ _ ?_
            clear hK K
            refine wpAnyIn_ready (rs := [4]) (by kernel_rfl) (by simp) ?_
            refine AllReadyIn.cons rfl (fun K hK => ?_) ?_
            · refine stepIn_app rfl (.tmp 8) (.tmp 11) 22 rfl rfl rfl hrun (hK _ _ ?_)
              clear hK K
              refine wpAnyIn_ready (rs := [5]) (by kernel_rfl) (by simp) ?_
              refine AllReadyIn.cons rfl (fun K hK => ?_) ?_
              · go_simp
                refine hK _ _ ?_
                clear hK K
                refine wpAnyIn_done (by kernel_rfl) ?_ _
                exact HF
              exact AllReadyIn.nil
            exact AllReadyIn.nil
          exact AllReadyIn.nil
        exact AllReadyIn.nil
      exact AllReadyIn.nil
    refine AllReadyIn.cons rfl (fun K hK => ?_) ?_
    · go_simp
      refine hK _ _ ?_
      clear hK K
      refine wpAnyIn_ready (rs := [0, 2]) (by kernel_rfl) (by simp) ?_
      refine AllReadyIn.cons rfl (fun K hK => ?_) ?_
      · go_simp
        refine hK _ _ ?_
        clear hK K
        refine wpAnyIn_ready (rs := [2]) (by kernel_rfl) (by simp) ?_
        refine AllReadyIn.cons rfl (fun K hK => ?_) ?_
        · go_simp
          gi_wp2_with (refine ⟨trivial, ?_⟩; gi_at_call 25; refine (CallsIn.inRound l (callsIn_wide.2 (HI.out _))).mono ?_; rintro e w' ⟨rfl, hw'⟩; obtain rfl := hw'.symm)
          refine wpAnyIn_ready (rs := [3]) (by kernel_rfl) (by simp) ?_
          refine AllReadyIn.cons rfl (fun K hK => ?_) ?_
          · go_simp
            refine hK _ _ ?_
            clear hK K
            refine wpAnyIn_ready (rs := [4]) (by kernel_rfl) (by simp) ?_
            refine AllReadyIn.cons rfl (fun K hK => ?_) ?_
            · refine stepIn_app rfl (.tmp 8) (.tmp 11) 22 rfl rfl rfl hrun (hK _ _ ?_)
              clear hK K
              refine wpAnyIn_ready (rs := [5]) (by kernel_rfl) (by simp) ?_
              refine AllReadyIn.cons rfl (fun K hK => ?_) ?_
              · go_simp
                refine hK _ _ ?_
                clear hK K
                refine wpAnyIn_done (by kernel_rfl) ?_ _
                exact HF
              exact AllReadyIn.nil
            exact AllReadyIn.nil
          exact AllReadyIn.nil
        exact AllReadyIn.nil
      refine AllReadyIn.cons rfl (fun K hK => ?_) ?_
      · go_simp
        gi_wp2_with (refine ⟨trivial, ?_⟩; gi_at_call 25; refine (CallsIn.inRound l (callsIn_wide.2 (HI.out _))).mono ?_; rintro e w' ⟨rfl, hw'⟩; obtain rfl := hw'.symm)
        refine wpAnyIn_ready (rs := [0, 3]) (by kernel_rfl) (by simp) ?_
        refine AllReadyIn.cons rfl (fun K hK => ?_) ?_
        · go_simp
          refine hK _ _ ?_
          clear hK K
          refine wpAnyIn_ready (rs := [3]) (by kernel_rfl) (by simp) ?_
          refine AllReadyIn.cons rfl (fun K hK => ?_) ?_
          · go_simp
            refine hK _ _ ?_
            clear hK K
            refine wpAnyIn_ready (rs := [4]) (by kernel_rfl) (by simp) ?_
            refine AllReadyIn.cons rfl (fun K hK => ?_) ?_
            · refine stepIn_app rfl (.tmp 8) (.tmp 11) 22 rfl rfl rfl hrun (hK _ _ ?_)
              clear hK K
              refine wpAnyIn_ready (rs := [5]) (by kernel_rfl) (by simp) ?_
              refine AllReadyIn.cons rfl (fun K hK => ?_) ?_
              · go_simp
                refine hK _ _ ?_
                clear hK K
                refine wpAnyIn_done (by kernel_rfl) ?_ _
                exact HF
              exact AllReadyIn.nil
            exact AllReadyIn.nil
          exact AllReadyIn.nil
        refine AllReadyIn.cons rfl (fun K hK => ?_) ?_
        · go_simp
          refine hK _ _ ?_
          clear hK K
          refine wpAnyIn_ready (rs := [0]) (by kernel_rfl) (by simp) ?_
          refine AllReadyIn.cons rfl (fun K hK => ?_) ?_
          · go_simp
            refine hK _ _ ?_
            clear hK K
            refine wpAnyIn_ready (rs := [4]) (by kernel_rfl) (by simp) ?_
            refine AllReadyIn.cons rfl (fun K hK => ?_) ?_
            · refine stepIn_app rfl (.tmp 8) (.tmp 11) 22 rfl rfl rfl hrun (hK _ _ ?_)
              clear hK K
              refine wpAnyIn_ready (rs := [5]) (by kernel_rfl) (by simp) ?_
              refine AllReadyIn.cons rfl (fun K hK => ?_) ?_
              · go_simp
                refine hK _ _ ?_
                clear hK K
                refine wpAnyIn_done (by kernel_rfl) ?_ _
                exact HF
              exact AllReadyIn.nil
            exact AllReadyIn.nil
          exact AllReadyIn.nil
        exact AllReadyIn.nil
      exact AllReadyIn.nil
    exact AllReadyIn.nil
  case done =>
    rintro W ⟨v, hv, ho, hk, -⟩ hD
    have hc0 := hv.cell 0
    have hl64 : ∀ y ∈ mem s, y < 100 := fun y hy => by have := (mem_lt hy).1; omega
    have hjl := joinT_len (mem s) hl64
    cases hm : mem s with
    | nil =>
      rw [hm] at ho
      obtain ⟨A, c, rfl⟩ := own_form ho
      have HJ := Lib.hid (fun W => Tryz.strings_Join_none A c ⟨#[32]⟩ W)
      gi_wp2_with (refine ⟨trivial, ?_⟩; gi_at_call 24; refine (callsIn_wide.2 (HJ.out _)).mono ?_; rintro e w' ⟨rfl, hw'⟩; obtain rfl := hw'.symm)
      refine ⟨by simp, .inl ⟨_, _, rfl, run_takeDeferred hD, ?_⟩⟩
      refine ⟨_, results_tmp rfl _ _ _, ?_, keep_end hk (by omega) _⟩
      rw [fmtS, hm]
      rfl
    | cons y r =>
      obtain ⟨g, cap, hvs⟩ := ownsRow_succ (k := r.length) (by simpa [hm] using ho)
      subst hvs
      have HJ : Hid (∃ j : ByteArray, j.size ≤ 192 ∧ Hid (j = txt (joinT (mem s))) ∧ Calls Tryz.prog 24 #[.slice (some ⟨g, 0, none⟩) ((r.length + 1 : Nat) : Int).toNat cap, .string ⟨#[32]⟩] W fun e w' => e = .returned (.string j) ∧ Keep NoF W w') := Lib.hid (by
        have hlen : ((mem s).map fun y => txt (Lib.decDigits y)).length = r.length + 1 := by simp [hm]
        have hxs : ((mem s).map fun y => txt (Lib.decDigits y)).map (·.data.toList) = (mem s).map Lib.decDigits := by
          rw [List.map_map]
          apply List.map_congr_left
          intro y _
          simp [txt]
        have hcap : r.length + 1 ≤ cap := by
          rcases ho.2 with ⟨h, _⟩ | ⟨g', cap', cur, h, _, _, hc, _⟩
          · simp at h
          · simp at h
            omega
        have HC := Tryz.strings_Join g 0 cap ((mem s).map fun y => txt (Lib.decDigits y)) ⟨#[32]⟩ W (fun j x hx => by
          rw [List.getElem?_map] at hx
          obtain ⟨y, hy, rfl⟩ := Option.map_eq_some_iff.1 hx
          have := ho.cells (g := g) rfl j (encS y) (by rw [List.getElem?_map, hy]; rfl)
          rwa [Addr.add_lit] at this) (ho.lt g rfl).2 (by rw [hlen]; rw [hm] at hml; simp at hml; omega) (by rw [hlen]; exact hcap) (by rw [hxs]; show (joinT (mem s)).length ≤ _; omega)
        rw [hlen, hxs] at HC
        exact ⟨_, by rw [txt_size]; omega, Lib.hid rfl, HC.mono fun e w' h => ⟨h.1, Keep.of_below h.2 _⟩⟩)
      obtain ⟨j, hj, HJE, HC⟩ := HJ.out
      rw [Int.toNat_natCast] at HC
      have HCC := Lib.hid HC
      clear HC HJ
      gi_wp2_with (refine ⟨trivial, ?_⟩; gi_at_call 24; refine (callsIn_wide.2 HCC.out).mono ?_; rintro e w' ⟨rfl, hkw⟩)
      have hD2 : w'.heap[w.heap.size + 2]? = some (.deferred (some [])) := (hkw.block _ (Array.getElem?_eq_some_iff.1 hD).1 fun h => h).trans hD
      refine ⟨by simp, .inl ⟨_, _, rfl, run_takeDeferred hD2, ?_⟩⟩
      refine ⟨_, results_tmp rfl _ _ _, ?_, keep_end (hk.trans hkw fun _ _ h => h) (by omega) _⟩
      rw [fmtS, ← txt_app, ← txt_app, ← HJE.out]
      rfl
  case stop =>
    intro pre W h _
    exact h.elim
end
end Go.Proofs.YtmnhgeggojgflaaGreatDoor.Ws
