/- The text of a group: what both functions Text do. Conditions: the variables lie as they are read. -/
import Derived.Test.YtcmoocemfnjkiaaDoorSgI
set_option linter.unusedVariables false
set_option linter.unusedSimpArgs false
namespace Go.Proofs.YtcmoocemfnjkiaaDoor
open Go.RowKit

theorem joinC_nil : joinC [] = ⟨#[]⟩ := rfl
theorem joinC_one (x : ByteArray) : joinC [x] = x := by
  unfold joinC
  rw [List.map_cons, List.map_nil, Lib.join_one, txt_data]
theorem joinC_snoc (y : ByteArray) (r : List ByteArray) (x : ByteArray) : joinC (y :: r ++ [x]) = joinC (y :: r) ++ ⟨#[44]⟩ ++ x := by
  unfold joinC
  apply ba_ext
  rw [data_txt]
  simp [Lib.join_cons, Lib.joinTail, txt]
theorem joinC_size : ∀ l : List ByteArray, (∀ x ∈ l, x.size ≤ 8) → (joinC l).size ≤ 9 * l.length
  | [], _ => by simp [joinC_nil, ByteArray.size]
  | y :: r, h => by
    have hl : ∀ r : List ByteArray, (∀ x ∈ r, x.size ≤ 8) → Lib.lens (r.map (·.data.toList)) ≤ 8 * r.length := by
      intro r
      induction r with
      | nil => intro _; simp [Lib.lens]
      | cons z r ih =>
        intro h
        have h1 := h z (by simp)
        have h2 := ih fun x hx => h x (by simp [hx])
        simp only [Lib.lens, List.map_cons, List.sum_cons, List.length_cons] at h2 ⊢
        rw [data_len]
        omega
    have := hl (y :: r) h
    unfold joinC
    rw [txt_size, List.map_cons, Lib.join_length, ← List.map_cons (f := fun x : ByteArray => x.data.toList), List.length_map]
    simp only [List.length_cons, List.length_nil] at this ⊢
    omega
theorem name_size {x : ByteArray} (h : nameB x = true) : 1 ≤ x.size ∧ x.size ≤ 8 := by
  unfold nameB nameL at h
  rw [Bool.and_eq_true, decide_eq_true_eq, data_len] at h
  omega
theorem joinC_ne (y : ByteArray) (r : List ByteArray) (h : 1 ≤ y.size) : (joinC (y :: r)).toList ≠ [] := by
  rw [ByteArray.toList_eq]
  unfold joinC
  rw [data_txt, List.map_cons, Lib.join_cons]
  intro e
  have h1 := congrArg List.length e
  rw [List.length_append, data_len, List.length_nil] at h1
  omega
theorem sel_sub (g : Nat) : ∀ (l : List ByteArray) (i : Nat), ∀ x ∈ sel g l i, x ∈ l
  | [], _, x, h => by simp [sel] at h
  | y :: r, i, x, h => by
    unfold sel at h
    split at h
    · rcases List.mem_cons.1 h with rfl | h
      · simp
      · exact List.mem_cons_of_mem _ (sel_sub g r _ x h)
    · exact List.mem_cons_of_mem _ (sel_sub g r _ x h)
theorem sel_len (g : Nat) : ∀ (l : List ByteArray) (i : Nat), (sel g l i).length ≤ l.length
  | [], _ => by simp [sel]
  | y :: r, i => by
    have := sel_len g r (i + 1)
    unfold sel
    split
    · rw [List.length_cons, List.length_cons]; omega
    · rw [List.length_cons]; omega
theorem join_any (l : List ByteArray) (v : Value) (w w0 : World) (hown : w.ownsRow w0.heap.size 9 1 v l.length (strs l)) (hl : l.length ≤ 1000) (hs : (joinC l).size ≤ 100000) :
    Calls Tryd.prog 44 #[v, .string ⟨#[44]⟩] w fun e w' => e = .returned (.string (joinC l)) ∧ Keep NoF w w' := by
  obtain ⟨A, c, rfl⟩ := own_form hown
  cases l with
  | nil =>
    refine (Tryd.strings_Join_none A c ⟨#[44]⟩ w).mono ?_
    rintro e w' ⟨rfl, hw⟩
    subst hw
    exact ⟨rfl, Keep.refl _ _⟩
  | cons y r =>
    obtain ⟨_, hcc, bl, off, rfl, hc⟩ := (Rd.of_own hown).at_ (by simp)
    have hbk : bl < w.heap.size := World.block_lt_of_cell? w _ (hc 0 (.string y) rfl)
    unfold joinC at hs
    rw [txt_size] at hs
    refine (Tryd.strings_Join bl off c (y :: r) ⟨#[44]⟩ w (fun j x hx => hc j _ (by rw [List.getElem?_map, hx]; rfl)) hbk (by omega) hcc (by
      have e : (⟨#[44]⟩ : ByteArray).data.toList = [44] := rfl
      rw [e]
      omega)).mono ?_
    rintro e w' ⟨rfl, hb⟩
    exact ⟨rfl, Keep0.of_below hb⟩
theorem pow_wrap {n : Nat} (hn : n ≤ 4) : wrap64 ((2 : Int) ^ n) = ((2 ^ n : Nat) : Int) ∧ 2 ^ n ≤ 16 := by
  have h : ∀ n : Fin 5, wrap64 ((2 : Int) ^ n.val) = ((2 ^ n.val : Nat) : Int) ∧ 2 ^ n.val ≤ 16 := by decide +kernel
  exact h ⟨n, by omega⟩
theorem textS_bad {S : Sg} (h : checkS S ≠ 0) (g : Int) : textS S g = (⟨#[]⟩, checkS S) := if_neg h
theorem textS_out {S : Sg} (h : checkS S = 0) {g : Int} (hg : g < 1 ∨ ((2 ^ S.A.length : Nat) : Int) ≤ g) : textS S g = (⟨#[]⟩, 2) := by
  unfold textS
  rw [if_pos h, if_pos (by omega)]
  rfl
theorem textS_in {S : Sg} (h : checkS S = 0) {n : Nat} (h1 : 1 ≤ n) (h2 : n < 2 ^ S.A.length) : textS S n = (joinC (sel n S.A 0), 0) := by
  unfold textS
  rw [if_pos h, if_neg (by rw [Int.toNat_natCast]; omega), Int.toNat_natCast]
theorem sel_at {l : List ByteArray} {k : Nat} {x : ByteArray} (h : l[k]? = some x) (n : Nat) : sel n (l.take (k + 1)) 0 = sel n (l.take k) 0 ++ if n.testBit k = true then [x] else [] := by
  have hk := (List.getElem?_eq_some_iff.1 h).1
  rw [take_snoc h, sel_snoc, List.length_take, Nat.zero_add, Nat.min_eq_left (by omega)]

section
set_option maxRecDepth 100000
set_option maxHeartbeats 2000000
theorem Text_any (S : Sg) (a f c : Option Addr) (ca cf cc : Nat) (g : Int) (w : World) (hS : SigR w S a ca f cf c cc) (hT : Tab w) :
    Calls Tryd.prog 30 #[.agg #[.slice a S.A.length ca, .slice f S.F.length cf, .slice c S.C.length cc], .int .i64 g] w fun e w' => e = .returned (.tuple #[.string (textS S g).1, .int .i64 (textS S g).2]) ∧ Keep NoF w w' := by
  have hK0 : Keep NoF w (w.alloc (.cells (boxS S a ca f cf c cc) 24)) := (Keep.refl _ _).alloc _
  have HC := Lib.hid (Check_any S a f c ca cf cc _ (hS.keep hK0) (hT.keep0 hK0))
  have HB := Lib.hid (fun w' => @box_cells w w' S a f c ca cf cc 24)
  by_cases h0 : checkS S = 0
  · have hOk := checkS_ok h0
    have hA := hOk.lA
    obtain ⟨hpw, hp16⟩ := pow_wrap hA
    by_cases hg : g < 1 ∨ ((2 ^ S.A.length : Nat) : Int) ≤ g
    · rw [textS_out h0 hg]
      rw [h0] at HC
      unfold boxS at *
      by_cases hg1 : g < 1
      · clear hg hpw hp16
        go_enter Tryd.func30, Tryd.ntmps30
        go_wp2_with (go_at_call 12; (with_reducible refine HC.out.mono ?_); rintro e w1 ⟨rfl, hk1⟩; obtain ⟨c0, c1, c2, hsz⟩ := HB.out w1 hk1; have hk := hK0.trans hk1 fun _ _ h => h)
        refine bodyPost_ret (v := .tuple #[.string ⟨#[]⟩, .int .i64 2]) (by simp [results, Tryd.results30, go_sem]) rfl ?_
        exact ⟨rfl, hk⟩
      · have hge : wrap64 ((2 : Int) ^ S.A.length) ≤ g := by rw [hpw]; omega
        clear hg hpw hp16
        go_enter Tryd.func30, Tryd.ntmps30
        go_wp2_with (go_at_call 12; (with_reducible refine HC.out.mono ?_); rintro e w1 ⟨rfl, hk1⟩; obtain ⟨c0, c1, c2, hsz⟩ := HB.out w1 hk1; have hk := hK0.trans hk1 fun _ _ h => h)
        refine bodyPost_ret (v := .tuple #[.string ⟨#[]⟩, .int .i64 2]) (by simp [results, Tryd.results30, go_sem]) rfl ?_
        exact ⟨rfl, hk⟩
    · obtain ⟨n, rfl⟩ : ∃ n : Nat, g = n := ⟨g.toNat, by omega⟩
      have hn1 : 1 ≤ n := by omega
      have hn2 : n < 2 ^ S.A.length := by omega
      have hn16 : n < 16 := by omega
      rw [textS_in h0 hn1 hn2]
      rw [h0] at HC
      have hge : ¬ wrap64 ((2 : Int) ^ S.A.length) ≤ (n : Int) := by rw [hpw]; omega
      have HNM := Lib.hid (fun x (hx : x ∈ S.A) => name_size (hOk.name x (by simp [Sg.all, hx])).1)
      have HRD := Lib.hid (fun w1 (hk : Keep NoF w w1) => (hS.keep hk).A)
      generalize hr : joinC (sel n S.A 0) = r
      have HR := Lib.hid hr
      clear hr hg hpw hp16 hOk hn2
      unfold boxS at *
      go_enter Tryd.func30, Tryd.ntmps30
      go_wp2_with (go_at_call 12; (with_reducible refine HC.out.mono ?_); rintro e w1 ⟨rfl, hk1⟩; obtain ⟨c0, c1, c2, hsz⟩ := HB.out w1 hk1; have hkK := hK0.trans hk1 fun _ _ h => h)
      go_loopw [7, 28] (fun v i wr => ∃ (k : Nat) (p : List ByteArray), i = .int .i64 k ∧ k ≤ S.A.length ∧ Hid (p = sel n (S.A.take k) 0) ∧ wr.ownsRow w1.heap.size 9 1 v p.length (strs p) ∧ Keep NoF w1 wr) (fun _ i _ => S.A.length - (intOf i).toNat)
      case atStart => exact ⟨0, [], rfl, by omega, Lib.hid rfl, World.ownsRow_nil _ _ _ _, Keep.refl _ _⟩
      case round =>
        obtain ⟨k, p, rfl, hk, hp, hown, hkr⟩ := hrel
        have hz := hkr.size
        by_cases hlt : k < S.A.length
        · have hx : S.A[k]? = some S.A[k] := List.getElem?_eq_getElem hlt
          obtain ⟨-, hcc, bl, off, rfl, hc⟩ := (HRD.out wr (hkK.trans hkr fun _ _ h => h)).str hx
          have hsel := sel_at hx n
          have hpl : p.length ≤ 4 := by
            have := sel_len n (S.A.take k) 0
            rw [← hp.out, List.length_take] at this
            omega
          have hba := bit_ask hn16 (show k < 4 by omega)
          clear hx
          generalize S.A[k] = x at *
          obtain ⟨B, cb, rfl⟩ := own_form hown
          cases hb : n.testBit k with
          | true =>
            rw [hb, if_pos rfl] at hsel
            rw [hb] at hba
            have HP : Hid (p ++ [x] = sel n (S.A.take (k + 1)) 0) := Lib.hid (by rw [hsel, hp.out])
            clear hsel hb hp
            go_wp2_with (at_builtin
                         refine wpList_app (by rfl) eStrs (.tmp 38) (.tmp 40) (by rfl) (by rfl) (hown.alloc _) ⟨wr.heap.size, 0, none⟩ 1 1 [.string x] (by rfl) (by rfl)
                           (World.news_of_block (cs := #[.string x]) (t := 9) (fr := (0, 0)) (heap_alloc_new wr _)) (by simp [Value.oneCell']) (by omega) (by omega) (by omega) (by simp; omega) ?_
                         intro g4 cap4 w4 hown4 hA4)
            go_roundw
            case rel =>
              refine ⟨k + 1, p ++ [x], by go_num, by omega, HP, ?_, (hkr.alloc _).grown hA4.grown fun x hx => .inr (hown.lt x hx).1⟩
              rw [strs_snoc] at hown4
              rw [List.length_append]
              exact hown4
            case measure => simp only [intOf]; omega
          | false =>
            rw [hb, if_neg (by simp), List.append_nil] at hsel
            rw [hb] at hba
            have HP : Hid (p = sel n (S.A.take (k + 1)) 0) := Lib.hid (by rw [hsel, hp.out])
            clear hsel hb hp
            go_wp2
            go_roundw
            case rel => exact ⟨k + 1, p, by go_num, by omega, HP, hown, hkr⟩
            case measure => simp only [intOf]; omega
        · obtain rfl : k = S.A.length := by omega
          have HP : Hid (p = sel n S.A 0) := Lib.hid (by rw [hp.out, List.take_length])
          have hpl : p.length ≤ 4 := by
            have := sel_len n S.A 0
            rw [← HP.out] at this
            omega
          have hjs := joinC_size p fun x hx => (HNM.out x (sel_sub n S.A 0 x (HP.out ▸ hx))).2
          have HJ := join_any p _ wr w1 hown (by omega) (by omega)
          rw [show joinC p = r by rw [HP.out]; exact HR.out] at HJ
          have HJ2 := Lib.hid HJ
          clear HJ hjs hp HR
          go_wp2_with (go_at_call 44; (with_reducible refine HJ2.out.mono ?_); rintro e w3 ⟨rfl, hk3⟩)
          refine bodyPost_ret (v := .tuple #[.string r, .int .i64 0]) (by simp [results, Tryd.results30, go_sem]) rfl ?_
          exact ⟨rfl, (hkK.trans hkr fun _ _ h => h).trans hk3 fun _ _ h => h⟩
  · rw [textS_bad h0]
    unfold boxS at *
    generalize checkS S = n at *
    have hn : ((n : Int) != 0) = true := by simp; omega
    go_enter Tryd.func30, Tryd.ntmps30
    go_wp2_with (go_at_call 12; (with_reducible refine HC.out.mono ?_); rintro e w1 ⟨rfl, hk1⟩; have hk := hK0.trans hk1 fun _ _ h => h)
    refine bodyPost_ret (v := .tuple #[.string ⟨#[]⟩, .int .i64 n]) (by simp [results, Tryd.results30, go_sem]) rfl ?_
    exact ⟨rfl, hk⟩
end
end Go.Proofs.YtcmoocemfnjkiaaDoor
