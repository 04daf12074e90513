/- A line of a model's text: how the program divides it into items. No condition. -/
import Derived.Test.YtmnhgeggojgflaaGreatDoorMtE
import Derived.Test.YtmnhgeggojgflaaGreatDoorMtBC
import Derived.Test.YtmnhgeggojgflaaGreatDoorSgB
set_option linter.unusedVariables false
set_option linter.unusedSimpArgs false
namespace Mt
open Go (Lib.indexAny Lib.indexByte)
theorem notW_any (b : UInt8) : ([32, 123] : List UInt8).contains b = !(notW b) := by
  unfold notW
  rw [List.contains_eq_any_beq]
  simp [List.any_cons]
/-- IndexAny at a space or a brace is the length of the word. -/
theorem any_word : ∀ l : List UInt8, Lib.indexAny l [32, 123] = if (l.takeWhile notW).length = l.length then -1 else ((l.takeWhile notW).length : Int)
  | [] => by simp [Go.Lib.indexAny]
  | b :: l => by
    unfold Go.Lib.indexAny
    rw [notW_any, any_word l]
    cases h : notW b with
    | false => simp [h]
    | true =>
      simp only [Bool.not_true, Bool.false_eq_true, if_false, List.takeWhile_cons, h, if_true, List.length_cons]
      by_cases hl : (l.takeWhile notW).length = l.length
      · have h2 : (l.takeWhile notW).length + 1 = l.length + 1 := by omega
        rw [if_pos hl, if_pos h2]
        try rfl
      · have h2 : ¬ (l.takeWhile notW).length + 1 = l.length + 1 := by omega
        have h3 : ¬ ((((l.takeWhile notW).length : Int) == -1) = true) := by simp
        rw [if_neg hl, if_neg h2, if_neg h3]
        omega
theorem byte_idx (c : UInt8) : ∀ l : List UInt8, Lib.indexByte l c = if c ∈ l then (l.idxOf c : Int) else -1
  | [] => by simp [Go.Lib.indexByte]
  | b :: l => by
    unfold Go.Lib.indexByte
    rw [byte_idx c l]
    by_cases hb : b = c
    · subst hb
      simp
    · have h1 : (b == c) = false := by simpa using hb
      rw [h1, idx_cons_ne l hb]
      by_cases hl : c ∈ l
      · have h2 : c ∈ b :: l := by simp [hl]
        have h3 : ¬ (((l.idxOf c : Int) == -1) = true) := by simp
        rw [if_pos hl, if_pos h2, if_neg (by simp), if_neg h3]
        omega
      · have hcl : ¬ c ∈ b :: l := by simp only [List.mem_cons, not_or]; exact ⟨fun e => hb e.symm, hl⟩
        rw [if_neg hl, if_neg hcl]
        rfl
theorem takeW_len (p : UInt8 → Bool) : ∀ l : List UInt8, (l.takeWhile p).length ≤ l.length
  | [] => Nat.le_refl _
  | b :: l => by
    rw [List.takeWhile_cons]
    split
    · simp only [List.length_cons]; have := takeW_len p l; omega
    · simp
theorem cut_bounds {u : List UInt8} (h0 : u ≠ []) (h32 : u.headD 0 ≠ 32) {k : Nat} (h : cutI u = some k) : 1 ≤ k ∧ k ≤ u.length := by
  unfold cutI at h
  split at h
  · split at h
    · next hm =>
      injection h with h
      have := List.idxOf_lt_length_of_mem hm
      omega
    · cases h
  · next h123 =>
    injection h with h
    have := takeW_len notW u
    refine ⟨?_, by omega⟩
    cases u with
    | nil => exact absurd rfl h0
    | cons b l =>
      have hb : notW b = true := (notW_iff b).2 ⟨h32, h123⟩
      rw [List.takeWhile_cons_of_pos hb] at h
      simp at h
      omega
theorem dropW_head : ∀ {l : List UInt8}, l.dropWhile (· == 32) ≠ [] → (l.dropWhile (· == 32)).headD 0 ≠ 32
  | [], h => absurd rfl h
  | b :: l, h => by
    by_cases hb : b = 32
    · rw [List.dropWhile_cons_of_pos (by simpa using hb)] at h ⊢
      exact dropW_head h
    · rw [List.dropWhile_cons_of_neg (by simpa using hb)]
      exact hb
theorem dropW_len (p : UInt8 → Bool) : ∀ l : List UInt8, (l.dropWhile p).length ≤ l.length
  | [] => Nat.le_refl _
  | b :: l => by
    rw [List.dropWhile_cons]
    split
    · simp only [List.length_cons]; have := dropW_len p l; omega
    · exact Nat.le_refl _
/-- Every item is no longer than the line and has a byte; there are at most as many as bytes. -/
theorem itF_all : ∀ (F : Nat) (t : List UInt8) (l : List (List UInt8)), itF F t = some l → l.length ≤ t.length ∧ ∀ x ∈ l, x ≠ [] ∧ x.length ≤ t.length
  | 0, t, l, h => by simp [itF] at h
  | F + 1, t, l, h => by
    unfold itF at h
    have hd := dropW_len (· == 32) t
    split at h
    · injection h with h
      subst h
      simp
    · next h0 =>
      have h1 := dropW_head h0
      generalize t.dropWhile (· == 32) = u at *
      cases hc : cutI u with
      | none => rw [hc] at h; cases h
      | some k =>
        rw [hc] at h
        obtain ⟨hk1, hk2⟩ := cut_bounds h0 h1 hc
        cases hi : itF F (u.drop k) with
        | none => simp only [hi] at h; cases h
        | some r =>
          simp only [hi, Option.map_some, Option.some.injEq] at h
          subst h
          obtain ⟨i1, i2⟩ := itF_all F _ r hi
          rw [List.length_drop] at i1
          simp only [List.length_drop] at i2
          refine ⟨by simp only [List.length_cons]; omega, fun x hx => ?_⟩
          rcases List.mem_cons.1 hx with rfl | hx
          · refine ⟨fun e => ?_, by rw [List.length_take]; omega⟩
            have := congrArg List.length e
            rw [List.length_take, List.length_nil] at this
            omega
          · have := i2 x hx
            exact ⟨this.1, by omega⟩
theorem items_all {t : List UInt8} {l : List (List UInt8)} (h : items t = some l) : l.length ≤ t.length ∧ ∀ x ∈ l, x ≠ [] ∧ x.length ≤ t.length := itF_all _ t l h
theorem itF_step {F : Nat} {t : List UInt8} {k : Nat} (h0 : t.dropWhile (· == 32) ≠ []) (hc : cutI (t.dropWhile (· == 32)) = some k) : itF (F + 1) t = (itF F ((t.dropWhile (· == 32)).drop k)).map ((t.dropWhile (· == 32)).take k :: ·) := by
  rw [itF, if_neg h0, hc]
theorem itF_bad {F : Nat} {t : List UInt8} (h0 : t.dropWhile (· == 32) ≠ []) (hc : cutI (t.dropWhile (· == 32)) = none) : itF (F + 1) t = none := by
  rw [itF, if_neg h0, hc]
theorem itF_end {F : Nat} {t : List UInt8} (h0 : t.dropWhile (· == 32) = []) : itF (F + 1) t = some [] := by
  rw [itF, if_pos h0]
def preI (cs : List (List UInt8)) (o : Option (List (List UInt8))) : Option (List (List UInt8)) := o.map (cs ++ ·)
theorem preI_nil (o : Option (List (List UInt8))) : preI [] o = o := by cases o <;> rfl
theorem preI_snoc (cs : List (List UInt8)) (x : List UInt8) (o : Option (List (List UInt8))) : preI cs (o.map (x :: ·)) = preI (cs ++ [x]) o := by cases o <;> simp [preI]
end Mt
namespace Go.Proofs.YtmnhgeggojgflaaGreatDoor
open Go.RowKit
open Mt
attribute [local go_sem] Oper.semAt_some
def szV : Value → Nat
  | .string s => s.size
  | _ => 0
theorem ext_txt (t : ByteArray) (i n : Nat) : t.extract i (i + n) = txt ((t.data.toList.drop i).take n) := by
  refine ba_ext ?_
  rw [Lib.extract_data, data_txt, Nat.add_sub_cancel_left]
theorem ext_drop (t : ByteArray) (i : Nat) : (t.extract i t.size).data.toList = t.data.toList.drop i := by
  rw [Lib.extract_data]
  exact List.take_of_length_le (by simp [data_len])
theorem strs_snoc2 (l : List ByteArray) (x : List UInt8) : strs (l ++ [x].map txt) = strs l ++ [.string (txt x)] := by simp [strs]
def ItPost (t : ByteArray) (w : World) (e : Ending) (w' : World) : Prop :=
  Keep NoF w w' ∧ ((∃ (l : List (List UInt8)) (A : Option Addr) (c : Nat), items t.data.toList = some l ∧ e = .returned (.tuple #[.slice A l.length c, .bool true]) ∧ Rd w' (.slice A l.length c) 1 l.length (strs (l.map txt))) ∨
    (items t.data.toList = none ∧ e = .returned (.tuple #[.slice none 0 0, .bool false])))
section
set_option maxRecDepth 100000
set_option maxHeartbeats 2000000
theorem mtitems_any (t : ByteArray) (ht : t.size < 4294967281) (w : World) : Calls Tryz.prog 32 #[.string t] w (ItPost t w) := by
  go_enter Tryz.func32, Tryz.ntmps32
  go_wp2
  go_loopw [0, 4] (fun uv lv wr => ∃ (u : ByteArray) (cs : List (List UInt8)) (F : Nat), uv = .string u ∧ u.size < F ∧ cs.length + u.size ≤ t.size ∧ Hid (items t.data.toList = preI cs (itF F u.data.toList)) ∧ wr.ownsRow w.heap.size 9 1 lv cs.length (strs (cs.map txt)) ∧ Keep NoF w wr) (fun uv _ _ => szV uv)
  case atStart => exact ⟨t, [], t.size + 1, rfl, by omega, by simp, Lib.hid (by rw [preI_nil, items, data_len]), World.ownsRow_nil _ _ _ _, Keep.refl _ _⟩
  case round =>
    obtain ⟨u0, cs, F, rfl, hF, hcl, HT, ho, hkr⟩ := hrel
    obtain ⟨F, rfl⟩ : ∃ G, F = G + 1 := ⟨F - 1, by omega⟩
    have HTR := Lib.hid fun W => Tryz.strings_TrimLeft_one u0 32 (by decide) W
    obtain ⟨u, hu⟩ : ∃ u : ByteArray, (⟨(Lib.trimLeftB u0.data.toList 32).toArray⟩ : ByteArray) = u := ⟨_, rfl⟩
    rw [hu] at HTR
    have hul : u.data.toList = u0.data.toList.dropWhile (· == 32) := by rw [← hu]; rfl
    have hus : u.size ≤ u0.size := by rw [← data_len u, ← data_len u0, hul]; exact dropW_len _ _
    have H0 : Hid (u.data.toList = [] → items t.data.toList = some cs) := Lib.hid fun h => by rw [HT.out, itF_end (by rw [← hul]; exact h)]; simp [preI]
    have HB : Hid (u.data.toList ≠ [] → cutI u.data.toList = none → items t.data.toList = none) := Lib.hid fun h h1 => by rw [HT.out, itF_bad (by rw [← hul]; exact h) (by rw [← hul]; exact h1)]; rfl
    have HS : Hid (∀ k, u.data.toList ≠ [] → cutI u.data.toList = some k → items t.data.toList = preI (cs ++ [u.data.toList.take k]) (itF F (u.data.toList.drop k))) := Lib.hid fun k h h1 => by
      rw [HT.out, itF_step (by rw [← hul]; exact h) (by rw [← hul]; exact h1), ← hul, preI_snoc]
    have hhd : Hid (u.data.toList ≠ [] → u.data.toList.headD 0 ≠ 32) := Lib.hid fun h => by rw [hul] at h ⊢; exact dropW_head h
    have hz := hkr.size
    obtain ⟨A, c, rfl⟩ := own_form ho
    clear hu hul HT
    by_cases he : u.data.toList = []
    · have HE := Lib.hid (H0.out he)
      obtain rfl : u = ByteArray.empty := ba_ext (by rw [he]; rfl)
      clear H0 HB HS hhd he
      go_wp2_with (go_at_call 18; (with_reducible refine (HTR.out _).mono ?_); rintro e w' ⟨rfl, hw'⟩; obtain rfl := hw'.symm)
      refine bodyPost_ret (v := .tuple #[.slice A cs.length c, .bool true]) (by simp [results, Tryz.results32, go_sem]) rfl ?_
      exact ⟨hkr, .inl ⟨cs, A, c, HE.out, rfl, Rd.of_own ho⟩⟩
    · have hu0 : 0 < u.size := by
        have := data_len u
        rcases hq : u.data.toList with _ | ⟨b, l⟩
        · exact absurd hq he
        · rw [hq] at this; simp at this; omega
      have hne : u.toList.isEmpty = false := by rw [ByteArray.toList_eq]; simpa using he
      have HIA := Lib.hid fun W => idxany_sp u (by omega) W
      have HIB := Lib.hid fun W => Tryz.strings_IndexByte u 125 W
      have hh := Ws.headD_at u hu0
      have HC := Lib.hid fun k h => cut_bounds he (hhd.out he) (k := k) h
      have HS2 := Lib.hid fun k => HS.out k he
      have HB2 := Lib.hid (HB.out he)
      rw [any_word] at HIA
      rw [show (125 : Int).toNat.toUInt8 = 125 from rfl, byte_idx] at HIB
      clear H0 HB HS hhd
      -- BEGIN
      by_cases h123 : u[0] = 123
      · have hb : u[0].toNat = 123 := by rw [h123]; rfl
        have hcut : cutI u.data.toList = if 125 ∈ u.data.toList then some (u.data.toList.idxOf 125 + 1) else none := by unfold cutI; rw [if_pos (by rw [hh]; exact h123)]
        generalize (if (List.takeWhile notW u.data.toList).length = u.data.toList.length then (-1 : Int) else ((List.takeWhile notW u.data.toList).length : Int)) = q at *
        by_cases hm : 125 ∈ u.data.toList
        · rw [if_pos hm] at hcut HIB
          generalize List.idxOf 125 u.data.toList = k0 at *
          have hk := HC.out _ hcut
          rw [data_len] at hk
          have HT2 := Lib.hid (HS2.out _ hcut)
          clear HC HS2 HB2 hcut hm h123 hh
          go_upto_region 8 with (first
            | (go_at_call 18; (with_reducible refine (HTR.out _).mono ?_); rintro e w' ⟨rfl, hw'⟩; obtain rfl := hw'.symm)
            | (go_at_call 66; (with_reducible refine (HIA.out _).mono ?_); rintro e w2 ⟨rfl, hk2⟩; have hz2 := hk2.size)
            | (go_at_call 67; (with_reducible refine (HIB.out _).mono ?_); rintro e w' ⟨rfl, hw'⟩; obtain rfl := hw'.symm))
          rw [show ((k0 : Int) + 1) = ((k0 + 1 : Nat) : Int) from rfl]
          generalize k0 + 1 = k at *
          have hsz : (u.extract k u.size).size = u.size - k := by rw [← data_len, ext_drop, List.length_drop, data_len]
          have hxd := ext_drop u k
          have hxt : u.extract 0 k = txt (u.data.toList.take k) := by have := ext_txt u 0 k; rwa [Nat.zero_add, List.drop_zero] at this
          have hki : (k : Int) ≤ (u.size : Int) := by omega
          have hki0 : (0 : Int) ≤ (k : Int) := by omega
          go_upto_region 12 with (fail)
          go_region_law
            ((refine step_app (by rfl) eStrs (.tmp 25) (.tmp 29) (by rfl) (by rfl) ((own_keep ho fun x hx => hk2.block x (ho.lt x hx).2 fun h => h).alloc _).drew ⟨w2.heap.size, 0, none⟩ 1 1 [.string (txt (u.data.toList.take k))] (by rfl) (by rfl)
                (World.news_of_block (cs := #[.string (txt (u.data.toList.take k))]) (t := 9) (fr := (0, 0)) (heap_alloc_new w2 _)) (by simp [Value.oneCell']) (by omega) (by omega) (by omega) (by simp; omega) ?_; intro g4 cap4 w4 hown4 hA4))
          all_goals
            go_wp2
            go_simp
            go_roundw
            case rel =>
              have hq : w4.ownsRow w.heap.size 9 1 (.slice (some ⟨g4, 0, none⟩) (cs.length + 1) cap4) (cs ++ [u.data.toList.take k]).length (strs ((cs ++ [u.data.toList.take k]).map txt)) := by
                rw [List.length_append, List.map_append, strs_snoc2]
                exact hown4
              simp only [strs, List.map_map] at hq
              exact ⟨_, _, _, _, ⟨u.extract k u.size, rfl, cs ++ [u.data.toList.take k], F, by rw [hsz]; omega, by rw [hsz]; simp; omega, Lib.hid (by rw [hxd]; exact HT2.out), hq,
                (((hkr.trans hk2 fun _ _ h => h).alloc _).drew).grown hA4.grown fun x hx => .inr (ho.lt x hx).1⟩, rfl, rfl, rfl, rfl⟩
            case measure => simp only [szV, hsz]; omega
        · rw [if_neg hm] at hcut HIB
          have HE := Lib.hid (HB2.out hcut)
          clear HC HS2 HB2 hcut hm h123 hh
          go_wp2_with (first
            | (go_at_call 18; (with_reducible refine (HTR.out _).mono ?_); rintro e w' ⟨rfl, hw'⟩; obtain rfl := hw'.symm)
            | (go_at_call 66; (with_reducible refine (HIA.out _).mono ?_); rintro e w2 ⟨rfl, hk2⟩; have hz2 := hk2.size)
            | (go_at_call 67; (with_reducible refine (HIB.out _).mono ?_); rintro e w' ⟨rfl, hw'⟩; obtain rfl := hw'.symm))
          refine bodyPost_ret (v := .tuple #[.slice none 0 0, .bool false]) (by simp [results, Tryz.results32, go_sem]) rfl ?_
          exact ⟨hkr.trans hk2 fun _ _ h => h, .inr ⟨HE.out, rfl⟩⟩
      · have hb : ((u[0].toNat : Int) == 123) = false := by
          have h1 : u[0].toNat ≠ 123 := fun e => h123 (UInt8.toNat_inj.1 e)
          rw [beq_eq_false_iff_ne]
          omega
        have hcut : cutI u.data.toList = some (u.data.toList.takeWhile notW).length := by unfold cutI; rw [if_neg (by rw [hh]; exact h123)]
        have hk := HC.out _ hcut
        have HT2 := Lib.hid (HS2.out _ hcut)
        clear HC HS2 HB2 hcut h123 hh HIB
        generalize (u.data.toList.takeWhile notW).length = k at *
        rw [data_len] at hk HIA
        by_cases hks : k = u.size
        · rw [if_pos hks] at HIA
          subst hks
          obtain ⟨hk1, -⟩ := hk
          have hsz : (u.extract u.size u.size).size = u.size - u.size := by rw [← data_len, ext_drop, List.length_drop, data_len]
          have hxd := ext_drop u u.size
          have hxt : u.extract 0 u.size = txt (u.data.toList.take u.size) := by have := ext_txt u 0 u.size; rwa [Nat.zero_add, List.drop_zero] at this
          have hki : (u.size : Int) ≤ (u.size : Int) := by omega
          have hki0 : (0 : Int) ≤ (u.size : Int) := by omega
          go_upto_region 12 with (first
            | (go_at_call 18; (with_reducible refine (HTR.out _).mono ?_); rintro e w' ⟨rfl, hw'⟩; obtain rfl := hw'.symm)
            | (go_at_call 66; (with_reducible refine (HIA.out _).mono ?_); rintro e w2 ⟨rfl, hk2⟩; have hz2 := hk2.size))
          go_region_law
            ((refine step_app (by rfl) eStrs (.tmp 25) (.tmp 29) (by rfl) (by rfl) ((own_keep ho fun x hx => hk2.block x (ho.lt x hx).2 fun h => h).alloc _).drew ⟨w2.heap.size, 0, none⟩ 1 1 [.string (txt (u.data.toList.take u.size))] (by rfl) (by rfl)
                (World.news_of_block (cs := #[.string (txt (u.data.toList.take u.size))]) (t := 9) (fr := (0, 0)) (heap_alloc_new w2 _)) (by simp [Value.oneCell']) (by omega) (by omega) (by omega) (by simp; omega) ?_; intro g4 cap4 w4 hown4 hA4))
          all_goals
            go_wp2
            go_simp
            go_roundw
            case rel =>
              have hq : w4.ownsRow w.heap.size 9 1 (.slice (some ⟨g4, 0, none⟩) (cs.length + 1) cap4) (cs ++ [u.data.toList.take u.size]).length (strs ((cs ++ [u.data.toList.take u.size]).map txt)) := by
                rw [List.length_append, List.map_append, strs_snoc2]
                exact hown4
              simp only [strs, List.map_map] at hq
              exact ⟨_, _, _, _, ⟨ByteArray.empty, rfl, cs ++ [u.data.toList.take u.size], F, by rw [(show ByteArray.empty.size = 0 from rfl)]; omega, by rw [(show ByteArray.empty.size = 0 from rfl)]; simp; omega, Lib.hid (by rw [(show ByteArray.empty.data.toList = u.data.toList.drop u.size by rw [List.drop_eq_nil_of_le (by rw [data_len]; exact Nat.le_refl _)]; rfl)]; exact HT2.out), hq,
                (((hkr.trans hk2 fun _ _ h => h).alloc _).drew).grown hA4.grown fun x hx => .inr (ho.lt x hx).1⟩, rfl, rfl, rfl, rfl⟩
            case measure => simp only [szV, (show ByteArray.empty.size = 0 from rfl)]; omega
        · rw [if_neg hks] at HIA
          obtain ⟨hk1, hk22⟩ := hk
          have hsz : (u.extract k u.size).size = u.size - k := by rw [← data_len, ext_drop, List.length_drop, data_len]
          have hxd := ext_drop u k
          have hxt : u.extract 0 k = txt (u.data.toList.take k) := by have := ext_txt u 0 k; rwa [Nat.zero_add, List.drop_zero] at this
          have hki : (k : Int) ≤ (u.size : Int) := by omega
          have hki0 : (0 : Int) ≤ (k : Int) := by omega
          go_upto_region 12 with (first
            | (go_at_call 18; (with_reducible refine (HTR.out _).mono ?_); rintro e w' ⟨rfl, hw'⟩; obtain rfl := hw'.symm)
            | (go_at_call 66; (with_reducible refine (HIA.out _).mono ?_); rintro e w2 ⟨rfl, hk2⟩; have hz2 := hk2.size))
          go_region_law
            ((refine step_app (by rfl) eStrs (.tmp 25) (.tmp 29) (by rfl) (by rfl) ((own_keep ho fun x hx => hk2.block x (ho.lt x hx).2 fun h => h).alloc _).drew ⟨w2.heap.size, 0, none⟩ 1 1 [.string (txt (u.data.toList.take k))] (by rfl) (by rfl)
                (World.news_of_block (cs := #[.string (txt (u.data.toList.take k))]) (t := 9) (fr := (0, 0)) (heap_alloc_new w2 _)) (by simp [Value.oneCell']) (by omega) (by omega) (by omega) (by simp; omega) ?_; intro g4 cap4 w4 hown4 hA4))
          all_goals
            go_wp2
            go_simp
            go_roundw
            case rel =>
              have hq : w4.ownsRow w.heap.size 9 1 (.slice (some ⟨g4, 0, none⟩) (cs.length + 1) cap4) (cs ++ [u.data.toList.take k]).length (strs ((cs ++ [u.data.toList.take k]).map txt)) := by
                rw [List.length_append, List.map_append, strs_snoc2]
                exact hown4
              simp only [strs, List.map_map] at hq
              exact ⟨_, _, _, _, ⟨u.extract k u.size, rfl, cs ++ [u.data.toList.take k], F, by rw [hsz]; omega, by rw [hsz]; simp; omega, Lib.hid (by rw [hxd]; exact HT2.out), hq,
                (((hkr.trans hk2 fun _ _ h => h).alloc _).drew).grown hA4.grown fun x hx => .inr (ho.lt x hx).1⟩, rfl, rfl, rfl, rfl⟩
            case measure => simp only [szV, hsz]; omega
      -- END
end
end Go.Proofs.YtmnhgeggojgflaaGreatDoor
