/- The text of a model: what is written is read again; what a line of cells gives. The text of a model: the text that is written is read as the same model. No condition. -/
import Derived.Test.YtmnhgeggojgflaaGreatDoorMtA
import Derived.Test.YtmnhgeggojgflaaGreatDoorWtRa
set_option linter.unusedVariables false
set_option linter.unusedSimpArgs false
namespace Mt
open Go (Lib.decDigits)
open Go.Proofs.YtmnhgeggojgflaaGreatDoor (Sg checkS findS txt nameB idx_at data_txt checkS_ok)
open Go.Proofs.YtmnhgeggojgflaaGreatDoor.Ws (parseS fmtS dgs parse_fmt joinT mem)
open Ev (Md modelE Okm)

/-! ### Items -/
def jn : List (List UInt8) → List UInt8
  | [] => []
  | [w] => w
  | w :: v :: l => w ++ 32 :: jn (v :: l)
def Good (w : List UInt8) : Prop := (w ≠ [] ∧ ∀ b ∈ w, notW b = true) ∨ ∃ m, w = 123 :: m ++ [125] ∧ 125 ∉ m
theorem Good.ne {w : List UInt8} (h : Good w) : w ≠ [] := by
  rcases h with h | ⟨m, rfl, _⟩
  · exact h.1
  · simp
theorem notW_iff (b : UInt8) : notW b = true ↔ b ≠ 32 ∧ b ≠ 123 := by simp [notW]
theorem Good.head {w : List UInt8} (h : Good w) : w.headD 0 ≠ 32 := by
  rcases h with ⟨h1, h2⟩ | ⟨m, rfl, _⟩
  · cases w with
    | nil => exact absurd rfl h1
    | cons b l => exact ((notW_iff b).1 (h2 b (by simp))).1
  · simp
theorem Good.drop {w : List UInt8} (h : Good w) (r : List UInt8) : (w ++ r).dropWhile (· == 32) = w ++ r := by
  have h1 := h.head
  cases w with
  | nil => exact absurd rfl h.ne
  | cons b l =>
    have h1 : b ≠ 32 := h1
    rw [List.cons_append, List.dropWhile_cons_of_neg (by simpa using h1)]
theorem takeW_app (p : UInt8 → Bool) : ∀ (w r : List UInt8), (∀ b ∈ w, p b = true) → (r = [] ∨ p (r.headD 0) = false) → (w ++ r).takeWhile p = w
  | [], r, _, h => by
    cases r with
    | nil => rfl
    | cons b l =>
      rcases h with h | h
      · cases h
      · have h : p b = false := h
        rw [List.nil_append, List.takeWhile_cons_of_neg (by simp [h])]
  | b :: w, r, hw, h => by
    rw [List.cons_append, List.takeWhile_cons_of_pos (hw b (by simp)), takeW_app p w r (fun x hx => hw x (by simp [hx])) h]
theorem idx_cons_ne {a b : UInt8} (l : List UInt8) (h : b ≠ a) : (b :: l).idxOf a = l.idxOf a + 1 := by
  rw [List.idxOf_cons]
  have : (b == a) = false := by simpa using h
  rw [this]
  rfl
theorem idx_brace : ∀ (m r : List UInt8), 125 ∉ m → (m ++ 125 :: r).idxOf 125 = m.length
  | [], r, _ => by simp
  | b :: m, r, h => by
    have hb : b ≠ 125 := fun e => h (by simp [e])
    rw [List.cons_append, idx_cons_ne _ hb, idx_brace m r fun hm => h (by simp [hm])]
    rfl
theorem Good.cut {w : List UInt8} (h : Good w) (r : List UInt8) (hr : r = [] ∨ r.headD 0 = 32) : cutI (w ++ r) = some w.length := by
  rcases h with ⟨h1, h2⟩ | ⟨m, rfl, hm⟩
  · unfold cutI
    have hh : (w ++ r).headD 0 ≠ 123 := by
      cases w with
      | nil => exact absurd rfl h1
      | cons b l => exact ((notW_iff b).1 (h2 b (by simp))).2
    rw [if_neg hh, takeW_app notW w r h2 (by
      rcases hr with hr | hr
      · exact .inl hr
      · exact .inr (by rw [hr]; rfl))]
  · unfold cutI
    have e : (123 :: m ++ [125]) ++ r = 123 :: (m ++ 125 :: r) := by simp
    rw [e, if_pos (show (123 :: (m ++ 125 :: r)).headD 0 = (123 : UInt8) from rfl), if_pos (by simp), idx_cons_ne _ (by decide), idx_brace m r hm]
    simp
theorem itF_sp (F : Nat) (t : List UInt8) : itF F (32 :: t) = itF F t := by
  cases F with
  | zero => rfl
  | succ F => simp [itF, List.dropWhile_cons]
theorem itF_jn : ∀ (ws : List (List UInt8)), (∀ w ∈ ws, Good w) → ∀ F, (jn ws).length < F → itF F (jn ws) = some ws
  | [], _, 0, h => absurd h (by omega)
  | [], _, F + 1, _ => by simp [itF, jn]
  | w :: l, hw, 0, h => absurd h (by omega)
  | [w], hw, F + 1, hF => by
    have hg := hw w (by simp)
    have hne := hg.ne
    have hlen : 0 < w.length := List.length_pos_iff.2 hne
    show itF (F + 1) w = some [w]
    have hF : w.length < F + 1 := hF
    have h1 := hg.drop []
    have h2 := hg.cut [] (.inl rfl)
    rw [List.append_nil] at h1 h2
    have hrest : itF F ([] : List UInt8) = some [] := by
      cases F with
      | zero => omega
      | succ F => simp [itF]
    unfold itF
    rw [h1, if_neg hne, h2]
    simp only [List.drop_length, List.take_length, hrest, Option.map_some]
  | w :: v :: l, hw, F + 1, hF => by
    have hg := hw w (by simp)
    have hne := hg.ne
    have hlen : 0 < w.length := List.length_pos_iff.2 hne
    have hF : (w ++ 32 :: jn (v :: l)).length < F + 1 := hF
    rw [List.length_append, List.length_cons] at hF
    show itF (F + 1) (w ++ 32 :: jn (v :: l)) = _
    have h1 := hg.drop (32 :: jn (v :: l))
    have h2 := hg.cut (32 :: jn (v :: l)) (.inr rfl)
    unfold itF
    rw [h1, if_neg (by simp), h2]
    simp only [List.drop_left, List.take_left]
    rw [itF_sp, itF_jn (v :: l) (fun x hx => hw x (by simp [hx])) F (by omega)]
    rfl
theorem items_jn {ws : List (List UInt8)} (h : ∀ w ∈ ws, Good w) : items (jn ws) = some ws := itF_jn ws h _ (by omega)
theorem jn_head {w : List UInt8} {l : List (List UInt8)} (h : w ≠ []) : (jn (w :: l)).headD 0 = w.headD 0 := by
  cases w with
  | nil => exact absurd rfl h
  | cons b t => cases l <;> rfl
theorem jn_ne {w : List UInt8} {l : List (List UInt8)} (h : w ≠ []) : jn (w :: l) ≠ [] := by
  cases w with
  | nil => exact absurd rfl h
  | cons b t => cases l <;> simp [jn]
theorem skip_no {w : List UInt8} {l : List (List UInt8)} (h : Good w) (h35 : w.headD 0 ≠ 35) : skipL (jn (w :: l)) = false := by
  have hd : (jn (w :: l)).dropWhile (· == 32) = jn (w :: l) := by
    cases l with
    | nil => have := h.drop []; rwa [List.append_nil] at this
    | cons v l => exact h.drop (32 :: jn (v :: l))
  unfold skipL
  rw [hd, jn_head h.ne]
  have h1 := jn_ne (l := l) h.ne
  cases hj : jn (w :: l) with
  | nil => exact absurd hj h1
  | cons b t => simpa using h35
/-! ### Lines -/
def No10 (l : List UInt8) : Prop := (10 : UInt8) ∉ l
theorem lnL_app : ∀ (l r : List UInt8), No10 l → lnL (l ++ 10 :: r) = l :: lnL r
  | [], r, _ => by simp [lnL]
  | b :: l, r, h => by
    have hb : b ≠ 10 := fun e => h (by simp [e])
    have := lnL_app l r fun hm => h (by simp [hm])
    rw [List.cons_append, lnL, if_neg hb, this]
    rfl
theorem lnL_one : ∀ (l : List UInt8), No10 l → lnL l = [l]
  | [], _ => rfl
  | b :: l, h => by
    have hb : b ≠ 10 := fun e => h (by simp [e])
    rw [lnL, if_neg hb, lnL_one l fun hm => h (by simp [hm])]
    rfl
theorem lnL_flat : ∀ (L : List (List UInt8)), (∀ l ∈ L, No10 l) → lnL (L.map (· ++ [10])).flatten = L ++ [[]]
  | [], _ => rfl
  | l :: L, h => by
    have e : ((l :: L).map (· ++ [10])).flatten = l ++ 10 :: (L.map (· ++ [10])).flatten := by simp
    rw [e, lnL_app l _ (h l (by simp)), lnL_flat L fun x hx => h x (by simp [hx])]
    rfl
theorem jn_no10 : ∀ (ws : List (List UInt8)), (∀ w ∈ ws, No10 w) → No10 (jn ws)
  | [], _ => by simp [jn, No10]
  | [w], h => h w (by simp)
  | w :: v :: l, h => by
    have h1 := h w (by simp)
    have h2 := jn_no10 (v :: l) fun x hx => h x (by simp [hx])
    show (10 : UInt8) ∉ w ++ 32 :: jn (v :: l)
    unfold No10 at h1 h2
    simp [h1, h2]
end Mt
namespace Mt
open Go (Lib.decDigits)
open Go.Proofs.YtmnhgeggojgflaaGreatDoor (Sg checkS findS txt nameB nameL isNC idx_at data_txt txt_data checkS_ok)
open Go.Proofs.YtmnhgeggojgflaaGreatDoor.Ws (parseS fmtS dgs parse_fmt joinT mem mem_lt)
open Ev (Md modelE Okm)

/-! ### What the items are -/
abbrev dec (n : Nat) : List UInt8 := Go.Lib.decDigits n
abbrev nm (x : ByteArray) : List UInt8 := x.data.toList
theorem dec_all : ∀ n : Fin 100, numB (dec n.val) = some n.val ∧ (dec n.val ≠ [] ∧ (dec n.val).all notW = true) ∧ (dec n.val).all (fun b => !(b == 10)) = true ∧ isS (dec n.val) = false ∧ (dec n.val).all (fun b => decide (48 ≤ b.toNat ∧ b.toNat ≤ 57)) = true ∧ (dec n.val).length ≤ 2 := by decide +kernel
theorem no10_of {l : List UInt8} (h : l.all (fun b => !(b == 10)) = true) : No10 l := fun hm => by
  have := List.all_eq_true.1 h 10 hm
  simp at this
theorem dec_ok {n : Nat} (h : n < 100) : numB (dec n) = some n ∧ Good (dec n) ∧ No10 (dec n) ∧ isS (dec n) = false := by
  obtain ⟨h1, ⟨h2, h3⟩, h4, h5, _⟩ := dec_all ⟨n, h⟩
  exact ⟨h1, .inl ⟨h2, fun b hb => List.all_eq_true.1 h3 b hb⟩, no10_of h4, h5⟩
theorem nc_ok (b : UInt8) (h : isNC b = true) : notW b = true ∧ b ≠ 10 := by
  unfold isNC at h
  have h := of_decide_eq_true h
  refine ⟨(notW_iff b).2 ⟨?_, ?_⟩, ?_⟩ <;>
    · rintro rfl
      revert h
      decide
theorem name_ok {x : ByteArray} (h : nameB x = true) : Good (nm x) ∧ No10 (nm x) ∧ isS (nm x) = false := by
  unfold nameB nameL at h
  rw [Bool.and_eq_true] at h
  obtain ⟨h1, h2⟩ := h
  obtain ⟨h1, h3, h4, h5⟩ := of_decide_eq_true h1
  have h2 := List.all_eq_true.1 h2
  refine ⟨.inl ⟨fun e => by rw [show x.data.toList = [] from e] at h1; simp at h1, fun b hb => (nc_ok b (h2 b hb)).1⟩, fun hm => (nc_ok 10 (h2 10 hm)).2 rfl, ?_⟩
  unfold isS
  rw [beq_eq_false_iff_ne]
  intro e
  rw [show (nm x).headD 0 = 123 from e] at h5
  revert h5
  decide
theorem joinTail_mem : ∀ (l : List Nat), (∀ x ∈ l, x < 100) → ∀ b ∈ Go.Lib.joinTail [32] (l.map Go.Lib.decDigits), b = 32 ∨ (48 ≤ b.toNat ∧ b.toNat ≤ 57)
  | [], _, b, h => by simp [Go.Lib.joinTail] at h
  | x :: l, hl, b, h => by
    have ih := joinTail_mem l fun y hy => hl y (by simp [hy])
    have hx := (dec_all ⟨x, hl x (by simp)⟩).2.2.2.2.1
    simp only [Go.Lib.joinTail, List.map_cons, List.flatten_cons, List.mem_append, List.mem_singleton, List.mem_cons, List.not_mem_nil, or_false] at h ih
    rcases h with (h | h) | h
    · exact .inl h
    · exact .inr (of_decide_eq_true (List.all_eq_true.1 hx b h))
    · exact ih b h
theorem joinT_mem {l : List Nat} (hl : ∀ x ∈ l, x < 100) : ∀ b ∈ joinT l, b = 32 ∨ (48 ≤ b.toNat ∧ b.toNat ≤ 57) := fun b h => by
  cases l with
  | nil => simp [Go.Proofs.YtmnhgeggojgflaaGreatDoor.Ws.joinT_nil] at h
  | cons x l =>
    rw [joinT, List.map_cons, Go.Lib.join_cons, List.mem_append] at h
    rcases h with h | h
    · exact .inr (of_decide_eq_true (List.all_eq_true.1 (dec_all ⟨x, hl x (by simp)⟩).2.2.2.2.1 b h))
    · exact joinTail_mem l (fun y hy => hl y (by simp [hy])) b h
theorem mem100 (s : Nat) : ∀ x ∈ mem s, x < 100 := fun x hx => by have := (mem_lt hx).1; omega
theorem fmt_ok (s : Nat) : Good (fmtS s) ∧ No10 (fmtS s) ∧ isS (fmtS s) = true := by
  have h := joinT_mem (mem100 s)
  refine ⟨.inr ⟨joinT (mem s), rfl, fun hm => ?_⟩, fun hm => ?_, rfl⟩
  · rcases h 125 hm with h | h
    · cases h
    · revert h; decide
  · have hm : (10 : UInt8) ∈ (123 : UInt8) :: joinT (mem s) ++ [125] := hm
    simp only [List.cons_append, List.mem_cons, List.mem_append, List.not_mem_nil, or_false] at hm
    rcases hm with hm | hm | hm
    · cases hm
    · rcases h 10 hm with h | h
      · cases h
      · revert h; decide
    · cases hm
/-! ### The lines of a model -/
def lW (M : Md) : List (List UInt8) := [wWorlds, dec M.n]
def lF (S : Sg) (M : Md) (i : Nat) : List (List UInt8) := [wFact, nm (S.F.getD i default), fmtS (M.V.getD i 0)]
def lA (S : Sg) (M : Md) (p : Nat × Nat) : List (List UInt8) := [wAgent, nm (S.A.getD p.1 default), dec p.2, fmtS ((M.R.getD p.1 []).getD p.2 0)]
def pairs (a n : Nat) : List (Nat × Nat) := (List.range a).flatMap fun i => (List.range n).map fun w => (i, w)
def linesM (S : Sg) (M : Md) : List (List (List UInt8)) := lW M :: ((List.range M.V.length).map (lF S M) ++ (pairs M.R.length M.n).map (lA S M))
def textM (S : Sg) (M : Md) : List UInt8 := ((linesM S M).map fun l => jn l ++ [10]).flatten
/-- The text, and the error. -/
def formatM (S : Sg) (M : Md) : List UInt8 × Int :=
  if checkS S ≠ 0 then ([], checkS S) else if modelE M ≠ 0 then ([], modelE M) else if S.A.length ≠ M.R.length ∨ S.F.length ≠ M.V.length then ([], 1) else (textM S M, 0)
theorem setsP_one {n : Nat} {v : Nat} (hv : v < 2 ^ n) (hn : n ≤ 64) : setsP n [fmtS v] = ([v], 0) := by
  have h := parse_fmt v (Nat.lt_of_lt_of_le hv (Nat.pow_le_pow_right (by omega) hn))
  simp [setsP, h]
  omega
theorem kd_ne {t : List UInt8} (h : isS t = false) : kd t ≠ .s := by
  unfold kd
  rw [if_neg (by rw [h]; simp)]
  split <;> simp
theorem kd_s {t : List UInt8} (h : isS t = true) : kd t = .s := by unfold kd; rw [if_pos h]
theorem kd_n {t : List UInt8} {n : Nat} (h : isS t = false) (hn : numB t = some n) : kd t = .n := by
  unfold kd
  rw [if_neg (by rw [h]; simp), if_pos (by rw [hn]; rfl)]
theorem all_F {S : Sg} {x : ByteArray} (h : x ∈ S.F) : x ∈ S.all := by simp [Go.Proofs.YtmnhgeggojgflaaGreatDoor.Sg.all, h]
theorem all_A {S : Sg} {x : ByteArray} (h : x ∈ S.A) : x ∈ S.all := by simp [Go.Proofs.YtmnhgeggojgflaaGreatDoor.Sg.all, h]
theorem read_worlds (S : Sg) {n : Nat} (h1 : 1 ≤ n) (h64 : n ≤ 64) : readP S .zero (some [wWorlds, dec n]) = (⟨n, List.replicate S.F.length 0, List.replicate S.A.length (List.replicate n 0), fun _ => false, fun _ => false, fun _ => false, fun _ => false⟩, 0) := by
  obtain ⟨d1, d2, d3, d4⟩ := dec_ok (n := n) (by omega)
  have hk : kd (dec n) = .n := kd_n d4 d1
  have hw : kd wWorlds = .w := by decide
  have hf : formL [wWorlds, dec n] = true := by
    unfold formL
    simp only [List.map_cons, List.map_nil, hk, hw, List.headD_cons]
    decide
  unfold readP
  simp only
  rw [if_neg (by rw [hf]; simp [St.zero]), if_pos (show [wWorlds, dec n].headD [] = wWorlds from rfl)]
  unfold worldsP
  have hn : nIt [wWorlds, dec n] 1 = n := by
    show (numB (dec n)).getD 0 = n
    rw [d1]
    rfl
  rw [hn, if_neg (by omega)]
  rfl
theorem read_fact {S : Sg} {M : Md} {r : St} (hS : checkS S = 0) {i : Nat} (hi : i < S.F.length) (hv : M.V.getD i 0 < 2 ^ r.W) (h0 : r.W ≠ 0) (h64 : r.W ≤ 64) (hfa : r.fa i = false) :
    readP S r (some (lF S M i)) = ({ r with fa := fun j => decide (j = i) || r.fa j, V := r.V.set i (M.V.getD i 0) }, 0) := by
  have hok := checkS_ok hS
  have hat : S.F[i]? = some (S.F.getD i default) := by rw [List.getD_eq_getElem?_getD, List.getElem?_eq_getElem hi]; rfl
  have hnm := name_ok (hok.name (S.F.getD i default) (all_F (List.mem_of_getElem? hat))).1
  have hfm := fmt_ok (M.V.getD i 0)
  have hfs : findS S S.F (txt (itAt (lF S M i) 1)) = i := by
    unfold findS
    rw [if_pos hS]
    show Go.Lib.idxOfS S.F (txt (nm (S.F.getD i default))) = i
    rw [txt_data]
    refine idx_at ?_ hat
    have hd := hok.nodup
    unfold Go.Proofs.YtmnhgeggojgflaaGreatDoor.Sg.all at hd
    exact ((List.nodup_append.1 (List.nodup_append.1 hd).1).2).1
  have hf : formL (lF S M i) = true := by
    have h2 := kd_ne hnm.2.2
    have h3 := kd_s hfm.2.2
    unfold formL lF
    simp only [List.map_cons, List.map_nil, List.headD_cons, h3]
    generalize kd (nm (S.F.getD i default)) = q at *
    generalize kd wFact = q0
    cases q with
    | s => exact absurd rfl h2
    | n => cases q0 <;> decide
    | w => cases q0 <;> decide
  unfold readP
  simp only
  have hh : (lF S M i).headD [] = wFact := rfl
  rw [if_neg (by rw [hf, hh]; simp [h0]; decide), if_neg (by rw [hh]; decide), if_pos hh]
  unfold factP
  have hs : setsP r.W ((lF S M i).drop 2) = ([M.V.getD i 0], 0) := setsP_one hv h64
  simp only [hfs, hs, Int.toNat_natCast]
  rw [if_neg (by omega), if_neg (by simp), if_neg (by rw [hfa]; simp)]
  rfl
theorem read_agent {S : Sg} {M : Md} {r : St} (hS : checkS S = 0) {p : Nat × Nat} (hi : p.1 < S.A.length) (hw : p.2 < r.W) (hv : (M.R.getD p.1 []).getD p.2 0 < 2 ^ r.W) (h64 : r.W ≤ 64) (hat0 : r.at_ p = false) (hce : r.ce p.1 = false) :
    readP S r (some (lA S M p)) = ({ r with at_ := fun q => decide (q = p) || r.at_ q, so := fun j => decide (j = p.1) || r.so j, R := r.R.set p.1 ((r.R.getD p.1 []).set p.2 ((M.R.getD p.1 []).getD p.2 0)) }, 0) := by
  have hok := checkS_ok hS
  have hat : S.A[p.1]? = some (S.A.getD p.1 default) := by rw [List.getD_eq_getElem?_getD, List.getElem?_eq_getElem hi]; rfl
  have hnm := name_ok (hok.name (S.A.getD p.1 default) (all_A (List.mem_of_getElem? hat))).1
  have hfm := fmt_ok ((M.R.getD p.1 []).getD p.2 0)
  obtain ⟨d1, d2, d3, d4⟩ := dec_ok (n := p.2) (by omega)
  have hfs : findS S S.A (txt (itAt (lA S M p) 1)) = p.1 := by
    unfold findS
    rw [if_pos hS]
    show Go.Lib.idxOfS S.A (txt (nm (S.A.getD p.1 default))) = p.1
    rw [txt_data]
    refine idx_at ?_ hat
    have hd := hok.nodup
    unfold Go.Proofs.YtmnhgeggojgflaaGreatDoor.Sg.all at hd
    exact (List.nodup_append.1 (List.nodup_append.1 hd).1).1
  have hf : formL (lA S M p) = true := by
    have h2 := kd_ne hnm.2.2
    have h3 := kd_s hfm.2.2
    have h4 := kd_n d4 d1
    unfold formL lA
    simp only [List.map_cons, List.map_nil, List.headD_cons, h3, h4]
    generalize kd (nm (S.A.getD p.1 default)) = q at *
    generalize kd wAgent = q0
    cases q with
    | s => exact absurd rfl h2
    | n => cases q0 <;> decide
    | w => cases q0 <;> decide
  unfold readP
  simp only
  have hh : (lA S M p).headD [] = wAgent := rfl
  have h0 : r.W ≠ 0 := by omega
  rw [if_neg (by rw [hf, hh]; simp [h0]; decide), if_neg (by rw [hh]; decide), if_neg (by rw [hh]; decide), if_pos hh]
  unfold agentP
  have hs : setsP r.W ((lA S M p).drop 3) = ([(M.R.getD p.1 []).getD p.2 0], 0) := setsP_one hv h64
  have hnit : nIt (lA S M p) 2 = p.2 := by
    show (numB (dec p.2)).getD 0 = p.2
    rw [d1]
    rfl
  simp only [hfs, hs, hnit, Int.toNat_natCast]
  rw [if_neg (by omega), if_neg (by omega), if_neg (by simp), if_neg (by rw [hat0, hce]; simp)]
  rfl
/-! ### One line after another -/
def vOf (M : Md) (n : Nat) (Q : List Nat) : List Nat := (List.range n).map fun i => if i ∈ Q then M.V.getD i 0 else 0
def rOf (M : Md) (a : Nat) (P : List (Nat × Nat)) : List (List Nat) := (List.range a).map fun i => (List.range M.n).map fun w => if (i, w) ∈ P then (M.R.getD i []).getD w 0 else 0
def stF (S : Sg) (M : Md) (Q : List Nat) : St := ⟨M.n, vOf M S.F.length Q, List.replicate S.A.length (List.replicate M.n 0), fun j => decide (j ∈ Q), fun _ => false, fun _ => false, fun _ => false⟩
def stA (S : Sg) (M : Md) (Q : List Nat) (P : List (Nat × Nat)) : St := ⟨M.n, vOf M S.F.length Q, rOf M S.A.length P, fun j => decide (j ∈ Q), fun p => decide (p ∈ P), fun j => P.any fun p => decide (p.1 = j), fun _ => false⟩
theorem vOf_set (M : Md) (n : Nat) (Q : List Nat) (i : Nat) : (vOf M n Q).set i (M.V.getD i 0) = vOf M n (Q ++ [i]) := by
  unfold vOf
  apply List.ext_getElem?
  intro k
  rw [List.getElem?_set]
  by_cases hk : k < n
  · by_cases hik : i = k
    · subst hik
      simp [hk]
    · rw [if_neg hik]
      simp only [List.getElem?_map, List.getElem?_range hk, Option.map_some, List.mem_append, List.mem_singleton]
      congr 1
      have e : (k ∈ Q ∨ k = i) ↔ k ∈ Q := ⟨fun h => h.elim id fun e => absurd e.symm hik, .inl⟩
      simp only [e]
  · have h1 : (List.range n)[k]? = none := List.getElem?_eq_none (by simp; omega)
    simp only [List.getElem?_map, h1, Option.map_none, List.length_map, List.length_range]
    split
    · rw [if_neg (by omega)]
    · rfl
theorem rOf_set {M : Md} {a : Nat} {P : List (Nat × Nat)} {p : Nat × Nat} (hp : p.1 < a) : (rOf M a P).set p.1 (((rOf M a P).getD p.1 []).set p.2 ((M.R.getD p.1 []).getD p.2 0)) = rOf M a (P ++ [p]) := by
  obtain ⟨i, w⟩ := p
  simp only at hp ⊢
  have hrow : ∀ P : List (Nat × Nat), (rOf M a P).getD i [] = (List.range M.n).map fun w => if (i, w) ∈ P then (M.R.getD i []).getD w 0 else 0 := fun P => by
    unfold rOf
    rw [List.getD_eq_getElem?_getD, List.getElem?_map, List.getElem?_range hp]
    rfl
  apply List.ext_getElem?
  intro k
  rw [List.getElem?_set]
  by_cases hk : k < a
  · by_cases hik : i = k
    · subst hik
      have hl : i < (rOf M a P).length := by unfold rOf; simpa using hk
      rw [if_pos rfl, if_pos hl, hrow]
      unfold rOf
      rw [List.getElem?_map, List.getElem?_range hk]
      simp only [Option.map_some]
      congr 1
      apply List.ext_getElem?
      intro j
      rw [List.getElem?_set]
      by_cases hj : j < M.n
      · by_cases hwj : w = j
        · subst hwj
          simp [hj]
        · rw [if_neg hwj]
          simp only [List.getElem?_map, List.getElem?_range hj, Option.map_some, List.mem_append, List.mem_singleton, Prod.mk.injEq, true_and]
          congr 1
          have e : ((i, j) ∈ P ∨ j = w) ↔ (i, j) ∈ P := ⟨fun h => h.elim id fun e => absurd e.symm hwj, .inl⟩
          simp only [e]
      · have h1 : (List.range M.n)[j]? = none := List.getElem?_eq_none (by simp; omega)
        simp only [List.getElem?_map, h1, Option.map_none, List.length_map, List.length_range]
        split
        · rw [if_neg (by omega)]
        · rfl
    · rw [if_neg hik]
      unfold rOf
      simp only [List.getElem?_map, List.getElem?_range hk, Option.map_some, List.mem_append, List.mem_singleton, Prod.mk.injEq]
      congr 1
      apply List.map_congr_left
      intro j _
      have e : ((k, j) ∈ P ∨ k = i ∧ j = w) ↔ (k, j) ∈ P := ⟨fun h => h.elim id fun e => absurd e.1.symm hik, .inl⟩
      simp only [e]
  · have h1 : (List.range a)[k]? = none := List.getElem?_eq_none (by simp; omega)
    unfold rOf
    simp only [List.getElem?_map, h1, Option.map_none, List.length_map, List.length_range]
    split
    · omega
    · rfl
theorem good_lF (S : Sg) (M : Md) {i : Nat} (hS : checkS S = 0) (hi : i < S.F.length) : (∀ w ∈ lF S M i, Good w ∧ No10 w) := by
  have hat : S.F[i]? = some (S.F.getD i default) := by rw [List.getD_eq_getElem?_getD, List.getElem?_eq_getElem hi]; rfl
  have hnm := name_ok ((checkS_ok hS).name (S.F.getD i default) (all_F (List.mem_of_getElem? hat))).1
  intro w hw
  simp only [lF, List.mem_cons, List.not_mem_nil, or_false] at hw
  rcases hw with rfl | rfl | rfl
  · exact ⟨.inl ⟨by decide, by decide⟩, by unfold No10; decide⟩
  · exact ⟨hnm.1, hnm.2.1⟩
  · exact ⟨(fmt_ok _).1, (fmt_ok _).2.1⟩
theorem good_lA (S : Sg) (M : Md) {p : Nat × Nat} (hS : checkS S = 0) (hi : p.1 < S.A.length) (hw : p.2 < 100) : (∀ w ∈ lA S M p, Good w ∧ No10 w) := by
  have hat : S.A[p.1]? = some (S.A.getD p.1 default) := by rw [List.getD_eq_getElem?_getD, List.getElem?_eq_getElem hi]; rfl
  have hnm := name_ok ((checkS_ok hS).name (S.A.getD p.1 default) (all_A (List.mem_of_getElem? hat))).1
  intro w hw'
  simp only [lA, List.mem_cons, List.not_mem_nil, or_false] at hw'
  rcases hw' with rfl | rfl | rfl | rfl
  · exact ⟨.inl ⟨by decide, by decide⟩, by unfold No10; decide⟩
  · exact ⟨hnm.1, hnm.2.1⟩
  · exact ⟨(dec_ok hw).2.1, (dec_ok hw).2.2.1⟩
  · exact ⟨(fmt_ok _).1, (fmt_ok _).2.1⟩
theorem lines_one {S : Sg} {w : List UInt8} {ws : List (List UInt8)} {rest : List (List UInt8)} {n : Nat} {r r' : St} (hg : ∀ x ∈ w :: ws, Good x ∧ No10 x) (h35 : w.headD 0 ≠ 35) (hr : readP S r (some (w :: ws)) = (r', 0)) : linesP S (jn (w :: ws) :: rest) n r = linesP S rest (n + 1) r' := by
  conv => lhs; unfold linesP
  rw [if_neg (by rw [skip_no (hg w (by simp)).1 h35]; simp), items_jn fun x hx => (hg x hx).1, hr, if_neg (by simp)]
theorem fold_facts {S : Sg} {M : Md} (hS : checkS S = 0) (hM : Okm M) (hl : M.V.length = S.F.length) (rest : List (List UInt8)) : ∀ (I Q : List Nat) (n : Nat), (Q ++ I).Nodup → (∀ i ∈ I, i < S.F.length) →
    linesP S (I.map (fun i => jn (lF S M i)) ++ rest) n (stF S M Q) = linesP S rest (n + I.length) (stF S M (Q ++ I))
  | [], Q, n, _, _ => by simp
  | i :: I, Q, n, hn, hi => by
    obtain ⟨n1, n2, n3⟩ := hM.n1
    have hiF := hi i (by simp)
    have hr : readP S (stF S M Q) (some (lF S M i)) = (stF S M (Q ++ [i]), 0) := by
      have h1 : M.V.getD i 0 < 2 ^ M.n := getD_lt hM.val
      have hnot : i ∉ Q := fun hq => by
        have := (List.nodup_append.1 hn).2.2 i hq i (by simp)
        exact this rfl
      rw [read_fact hS hiF h1 (by show M.n ≠ 0; omega) (by show M.n ≤ 64; omega) (by show decide (i ∈ Q) = false; simpa using hnot)]
      unfold stF
      simp only [vOf_set, Prod.mk.injEq, and_true, St.mk.injEq, true_and]
      funext j
      simp only [List.mem_append, List.mem_singleton, Bool.decide_or]
      rw [Bool.or_comm]
    rw [List.map_cons, List.cons_append]
    have := lines_one (S := S) (ws := [nm (S.F.getD i default), fmtS (M.V.getD i 0)]) (rest := I.map (fun i => jn (lF S M i)) ++ rest) (n := n) (good_lF S M hS hiF) (by decide) hr
    rw [show jn (lF S M i) = jn (wFact :: [nm (S.F.getD i default), fmtS (M.V.getD i 0)]) from rfl, this, fold_facts hS hM hl rest I (Q ++ [i]) (n + 1) (by simpa using hn) fun j hj => hi j (by simp [hj])]
    rw [List.append_assoc, List.length_cons]
    congr 1
    omega
theorem fold_agents {S : Sg} {M : Md} (hS : checkS S = 0) (hM : Okm M) (Q : List Nat) (rest : List (List UInt8)) : ∀ (I P : List (Nat × Nat)) (n : Nat), (P ++ I).Nodup → (∀ p ∈ I, p.1 < S.A.length ∧ p.2 < M.n) →
    linesP S (I.map (fun p => jn (lA S M p)) ++ rest) n (stA S M Q P) = linesP S rest (n + I.length) (stA S M Q (P ++ I))
  | [], P, n, _, _ => by simp
  | p :: I, P, n, hn, hi => by
    obtain ⟨n1, n2, n3⟩ := hM.n1
    obtain ⟨hp1, hp2⟩ := hi p (by simp)
    have hr : readP S (stA S M Q P) (some (lA S M p)) = (stA S M Q (P ++ [p]), 0) := by
      have h1 : (M.R.getD p.1 []).getD p.2 0 < 2 ^ M.n := getD_lt (row_in (P := fun l => ∀ x ∈ l, x < 2 ^ M.n) hM.row (by simp))
      have hnot : p ∉ P := fun hq => by
        have := (List.nodup_append.1 hn).2.2 p hq p (by simp)
        exact this rfl
      rw [read_agent hS hp1 hp2 h1 (by show M.n ≤ 64; omega) (by show decide (p ∈ P) = false; simpa using hnot) rfl]
      unfold stA
      simp only [rOf_set hp1, Prod.mk.injEq, and_true, St.mk.injEq, true_and]
      refine ⟨?_, ?_⟩
      · funext j
        simp only [List.mem_append, List.mem_singleton, Bool.decide_or]
        rw [Bool.or_comm]
      · funext j
        rw [List.any_append, Bool.or_comm]
        congr 1
        simp only [List.any_cons, List.any_nil, Bool.or_false]
        by_cases h : p.1 = j
        · simp [h]
        · simp [h, Ne.symm h]
    rw [List.map_cons, List.cons_append]
    have := lines_one (S := S) (ws := [nm (S.A.getD p.1 default), dec p.2, fmtS ((M.R.getD p.1 []).getD p.2 0)]) (rest := I.map (fun p => jn (lA S M p)) ++ rest) (n := n) (good_lA S M hS hp1 (by omega)) (by decide) hr
    rw [show jn (lA S M p) = jn (wAgent :: [nm (S.A.getD p.1 default), dec p.2, fmtS ((M.R.getD p.1 []).getD p.2 0)]) from rfl, this, fold_agents hS hM Q rest I (P ++ [p]) (n + 1) (by simpa using hn) fun q hq => hi q (by simp [hq])]
    rw [List.append_assoc, List.length_cons]
    congr 1
    omega
/-! ### The law Restores -/
theorem pairs_mem {a n : Nat} {p : Nat × Nat} : p ∈ pairs a n ↔ p.1 < a ∧ p.2 < n := by
  obtain ⟨i, w⟩ := p
  simp [pairs]
theorem pairs_succ (a n : Nat) : pairs (a + 1) n = pairs a n ++ (List.range n).map fun w => (a, w) := by
  unfold pairs
  rw [List.range_succ, List.flatMap_append]
  simp
theorem pairs_nodup (n : Nat) : ∀ a, (pairs a n).Nodup
  | 0 => by simp [pairs]
  | a + 1 => by
    rw [pairs_succ, List.nodup_append]
    refine ⟨pairs_nodup n a, ?_, fun p hp q hq e => ?_⟩
    · rw [List.nodup_iff_pairwise_ne, List.pairwise_map]
      exact List.pairwise_lt_range.imp fun h e => by
        injection e with _ e
        omega
    · subst e
      have h1 := (pairs_mem.1 hp).1
      obtain ⟨w, _, rfl⟩ := List.mem_map.1 hq
      exact absurd h1 (by simp)
theorem pairs_len (a n : Nat) : (pairs a n).length = a * n := by
  induction a with
  | zero => simp [pairs]
  | succ a ih => rw [pairs_succ, List.length_append, ih, List.length_map, List.length_range, Nat.succ_mul]
theorem vOf_all {M : Md} {n : Nat} (h : M.V.length = n) : vOf M n (List.range n) = M.V := by
  unfold vOf
  apply List.ext_getElem?
  intro k
  by_cases hk : k < n
  · rw [List.getElem?_map, List.getElem?_range hk, Option.map_some, if_pos (List.mem_range.2 hk), List.getD_eq_getElem?_getD, List.getElem?_eq_getElem (by omega)]
    rfl
  · rw [List.getElem?_eq_none (by simp; omega), List.getElem?_eq_none (by omega)]
theorem rOf_all {M : Md} {a : Nat} (h : M.R.length = a) (hr : ∀ l ∈ M.R, l.length = M.n) : rOf M a (pairs a M.n) = M.R := by
  unfold rOf
  apply List.ext_getElem?
  intro k
  by_cases hk : k < a
  · have hkR : k < M.R.length := by omega
    have hl := hr _ (List.getElem_mem hkR)
    rw [List.getElem?_map, List.getElem?_range hk, Option.map_some, List.getElem?_eq_getElem hkR]
    congr 1
    apply List.ext_getElem?
    intro j
    by_cases hj : j < M.n
    · rw [List.getElem?_map, List.getElem?_range hj, Option.map_some, if_pos (pairs_mem.2 ⟨hk, hj⟩), List.getD_eq_getElem?_getD (l := M.R), List.getElem?_eq_getElem hkR]
      show some ((M.R[k]).getD j 0) = _
      rw [List.getD_eq_getElem?_getD, List.getElem?_eq_getElem (by omega)]
      rfl
    · rw [List.getElem?_eq_none (by simp; omega), List.getElem?_eq_none (by omega)]
  · rw [List.getElem?_eq_none (by simp; omega), List.getElem?_eq_none (by omega)]
theorem vOf_nil (M : Md) (n : Nat) : vOf M n [] = List.replicate n 0 := by
  unfold vOf
  simp only [List.not_mem_nil, if_false]
  rw [List.map_const', List.length_range]
theorem rOf_nil (M : Md) (a : Nat) : rOf M a [] = List.replicate a (List.replicate M.n 0) := by
  unfold rOf
  simp only [List.not_mem_nil, if_false]
  rw [List.map_const', List.map_const', List.length_range, List.length_range]
theorem sum_le (c : Nat) : ∀ l : List Nat, (∀ x ∈ l, x ≤ c) → l.sum ≤ l.length * c
  | [], _ => by simp
  | x :: l, h => by
    have h1 := h x (by simp)
    have h2 := sum_le c l fun y hy => h y (by simp [hy])
    rw [List.sum_cons, List.length_cons, Nat.succ_mul]
    omega
theorem name_len {x : ByteArray} (h : nameB x = true) : (nm x).length ≤ 8 := by
  unfold nameB nameL at h
  rw [Bool.and_eq_true] at h
  exact (of_decide_eq_true h.1).2.1
theorem fmt_len (s : Nat) : (fmtS s).length ≤ 200 := by
  have h1 := Go.Proofs.YtmnhgeggojgflaaGreatDoor.Ws.joinT_len (mem s) (mem100 s)
  have h2 := Go.Proofs.YtmnhgeggojgflaaGreatDoor.Ws.mem_len s
  have e : (fmtS s).length = 1 + (joinT (mem s)).length + 1 := by unfold fmtS; simp [List.length_append]; omega
  omega
theorem dec_len' {n : Nat} (h : n < 100) : (dec n).length ≤ 2 := (dec_all ⟨n, h⟩).2.2.2.2.2
theorem text_len {S : Sg} {M : Md} (hS : checkS S = 0) (hM : Okm M) (hV : M.V.length = S.F.length) (hR : M.R.length = S.A.length) : (textM S M).length ≤ 100000 := by
  obtain ⟨n1, n2, n3⟩ := hM.n1
  have hcount : (linesM S M).length ≤ 265 := by
    unfold linesM
    rw [List.length_cons, List.length_append, List.length_map, List.length_map, List.length_range, pairs_len]
    have h1 := hM.rl
    have h2 := hM.vl
    have h3 : M.R.length * M.n ≤ 4 * 64 := Nat.mul_le_mul h1 n2
    omega
  have hok := checkS_ok hS
  have hline : ∀ l ∈ linesM S M, (jn l ++ [10]).length ≤ 230 := fun l hl => by
    unfold linesM at hl
    rcases List.mem_cons.1 hl with rfl | hl
    · have := dec_len' (n := M.n) (by omega)
      show ((wWorlds ++ 32 :: dec M.n) ++ [10]).length ≤ 230
      simp [wWorlds]
      omega
    · rcases List.mem_append.1 hl with hl | hl
      · obtain ⟨i, hi, rfl⟩ := List.mem_map.1 hl
        have hiF : i < S.F.length := by have := List.mem_range.1 hi; omega
        have hat : S.F[i]? = some (S.F.getD i default) := by rw [List.getD_eq_getElem?_getD, List.getElem?_eq_getElem hiF]; rfl
        have h1 := name_len (hok.name (S.F.getD i default) (all_F (List.mem_of_getElem? hat))).1
        have h2 := fmt_len (M.V.getD i 0)
        show ((wFact ++ 32 :: (nm (S.F.getD i default) ++ 32 :: fmtS (M.V.getD i 0))) ++ [10]).length ≤ 230
        generalize nm (S.F.getD i default) = x at *
        generalize fmtS (M.V.getD i 0) = y at *
        simp [wFact]
        omega
      · obtain ⟨p, hp, rfl⟩ := List.mem_map.1 hl
        obtain ⟨p1, p2⟩ := pairs_mem.1 hp
        have hat : S.A[p.1]? = some (S.A.getD p.1 default) := by rw [List.getD_eq_getElem?_getD, List.getElem?_eq_getElem (by omega)]; rfl
        have h1 := name_len (hok.name (S.A.getD p.1 default) (all_A (List.mem_of_getElem? hat))).1
        have h2 := fmt_len ((M.R.getD p.1 []).getD p.2 0)
        have h3 := dec_len' (n := p.2) (by omega)
        show ((wAgent ++ 32 :: (nm (S.A.getD p.1 default) ++ 32 :: (dec p.2 ++ 32 :: fmtS ((M.R.getD p.1 []).getD p.2 0)))) ++ [10]).length ≤ 230
        generalize nm (S.A.getD p.1 default) = x at *
        generalize fmtS ((M.R.getD p.1 []).getD p.2 0) = y at *
        generalize dec p.2 = z at *
        simp [wAgent]
        omega
  unfold textM
  rw [List.length_flatten, List.map_map]
  have h := sum_le 230 ((linesM S M).map (List.length ∘ fun l => jn l ++ [10])) fun x hx => by
    obtain ⟨l, hl, rfl⟩ := List.mem_map.1 hx
    exact hline l hl
  rw [List.length_map] at h
  have := Nat.mul_le_mul_right 230 hcount
  omega
theorem restores_law {S : Sg} {M : Md} (hS : checkS S = 0) (hM : Okm M) (hV : M.V.length = S.F.length) (hR : M.R.length = S.A.length) : parseM S (textM S M) = (M, 0, 0) := by
  obtain ⟨n1, n2, n3⟩ := hM.n1
  have hlines : lnL (textM S M) = (linesM S M).map jn ++ [[]] := by
    have e : textM S M = (((linesM S M).map jn).map (· ++ [10])).flatten := by unfold textM; rw [List.map_map]; rfl
    rw [e, lnL_flat]
    intro l hl
    obtain ⟨ws, hws, rfl⟩ := List.mem_map.1 hl
    apply jn_no10
    intro w hw
    unfold linesM at hws
    rcases List.mem_cons.1 hws with rfl | hws
    · simp only [lW, List.mem_cons, List.not_mem_nil, or_false] at hw
      rcases hw with rfl | rfl
      · unfold No10; decide
      · exact (dec_ok (n := M.n) (by omega)).2.2.1
    · rcases List.mem_append.1 hws with hws | hws
      · obtain ⟨i, hi, rfl⟩ := List.mem_map.1 hws
        exact (good_lF S M hS (by have := List.mem_range.1 hi; omega) w hw).2
      · obtain ⟨p, hp, rfl⟩ := List.mem_map.1 hws
        obtain ⟨p1, p2⟩ := pairs_mem.1 hp
        exact (good_lA S M hS (by omega) (by omega) w hw).2
  have hW : ∀ x ∈ lW M, Good x ∧ No10 x := fun w hw => by
    simp only [lW, List.mem_cons, List.not_mem_nil, or_false] at hw
    rcases hw with rfl | rfl
    · exact ⟨.inl ⟨by decide, by decide⟩, by unfold No10; decide⟩
    · exact ⟨(dec_ok (n := M.n) (by omega)).2.1, (dec_ok (n := M.n) (by omega)).2.2.1⟩
  have h1 : readP S .zero (some (lW M)) = (stF S M [], 0) := by
    rw [show lW M = [wWorlds, dec M.n] from rfl, read_worlds S n1 n2]
    unfold stF
    rw [vOf_nil]
    simp
  have hall : linesP S (lnL (textM S M)) 0 .zero = (stA S M (List.range S.F.length) (pairs S.A.length M.n), 1 + S.F.length + (pairs S.A.length M.n).length + 1, 0) := by
    rw [hlines]
    unfold linesM
    rw [List.map_cons, List.map_append, List.map_map, List.map_map, List.cons_append, List.append_assoc]
    have e1 := lines_one (S := S) (ws := [dec M.n]) (rest := (List.range M.V.length).map (jn ∘ lF S M) ++ ((pairs M.R.length M.n).map (jn ∘ lA S M) ++ [[]])) (n := 0) hW (by decide) h1
    rw [show jn (lW M) = jn (wWorlds :: [dec M.n]) from rfl, e1, hV, hR]
    have e2 := fold_facts hS hM hV ((pairs S.A.length M.n).map (jn ∘ lA S M) ++ [[]]) (List.range S.F.length) [] (0 + 1) (by rw [List.nil_append]; exact List.nodup_range) fun i hi => List.mem_range.1 hi
    rw [List.nil_append] at e2
    rw [show ((List.range S.F.length).map (jn ∘ lF S M)) = (List.range S.F.length).map (fun i => jn (lF S M i)) from rfl, e2, List.length_range]
    have e0 : stF S M (List.range S.F.length) = stA S M (List.range S.F.length) [] := by
      unfold stF stA
      rw [rOf_nil]
      simp
    have e3 := fold_agents hS hM (List.range S.F.length) [[]] (pairs S.A.length M.n) [] (0 + 1 + S.F.length) (by rw [List.nil_append]; exact pairs_nodup _ _) fun p hp => pairs_mem.1 hp
    rw [List.nil_append] at e3
    rw [e0, show ((pairs S.A.length M.n).map (jn ∘ lA S M)) = (pairs S.A.length M.n).map (fun p => jn (lA S M p)) from rfl, e3]
    simp [linesP, skipL]
  unfold parseM
  rw [if_neg (by omega), if_neg (by have := text_len hS hM hV hR; omega), hall]
  simp only
  rw [if_neg (by simp), if_neg (show ¬ (stA S M (List.range S.F.length) (pairs S.A.length M.n)).W = 0 from by show ¬ M.n = 0; omega)]
  show ((⟨(M.n : Int), vOf M S.F.length (List.range S.F.length), rOf M S.A.length (pairs S.A.length M.n)⟩ : Md), 0, (0 : Int)) = (M, 0, 0)
  rw [vOf_all hV, rOf_all hR hM.len, n3]
end Mt
