/- Names and reserved words: what the program's functions do. Conditions: the variable of reserved words and the library's lie as they are read. -/
import Derived.Test.YtmnhgeggojgflaaGreatDoorSgA
import Derived.Test.YtmnhgeggojgflaaGreatDoorMtSh
import Derived.Shelf.Strings.SlTrimAscii
import Derived.Lib.Hide
import Derived.Test.YtmnhgeggojgflaaGreatDoorChecked
import Derived.Deep.DeepCutAuto
import Derived.Deep.RegionHeld3
import Derived.Deep.RegionLaw
import Derived.BigQuiet
import Derived.Deep.QuietTactic
set_option linter.unusedVariables false
set_option linter.unusedSimpArgs false
namespace Go.Proofs.YtmnhgeggojgflaaGreatDoor
open Go.RowKit

/-- The variables that are read. -/
def Tab (w : World) : Prop := (∀ (k : Nat) x, resW[k]? = some x → w.cell? ⟨1, k, none⟩ = some (.string x)) ∧ ∃ m, w.cell? ⟨0, 0, none⟩ = some (.int .i64 m)
theorem Tab.keep {F : Nat → Prop} {w w' : World} (h : Tab w) (hk : Keep F w w') (hf : ∀ k, k < 9 → ¬ F k) : Tab w' := by
  obtain ⟨h1, m, h2⟩ := h
  exact ⟨fun j x hj => hk.cellv (h1 j x hj) (hf 1 (by omega)), m, hk.cellv h2 (hf 0 (by omega))⟩
theorem Tab.keep0 {w w' : World} (h : Tab w) (hk : Keep NoF w w') : Tab w' := h.keep hk fun _ _ h => h
theorem Tab.size {w : World} (h : Tab w) : 0 + 1 ≤ w.heap.size := by
  obtain ⟨h1, m, h2⟩ := h
  exact World.block_lt_of_cell? w _ h2
theorem Tab.drewN {w : World} (h : Tab w) (n : Nat) : Tab (w.drewN n) := h
theorem Keep0.of_below {w w' : World} (h : Below w.heap.size w w') : Keep NoF w w' := Keep.of_below h NoF

/-- Strings as cells. -/
abbrev strs (l : List ByteArray) : List Value := l.map Value.string
theorem infoStr : (Tryz.prog.info? 9).map (fun i => (i.zero, i.size, i.bytes)) = some (some (.string ⟨#[]⟩), 1, 16) := by kernel_rfl
theorem eStrs : ElemT Tryz.prog 22 9 (.string ⟨#[]⟩) 1 16 := ⟨Tryz.underlying22, info_parts infoStr, rfl, by omega⟩
theorem Rd.str {w : World} {A : Option Addr} {n c : Nat} {l : List ByteArray} (h : Rd w (.slice A n c) 1 l.length (strs l)) {k : Nat} {x : ByteArray} (hk : l[k]? = some x) : n = l.length ∧ n ≤ c ∧ ∃ bl off, A = some ⟨bl, off, none⟩ ∧ w.cell? ⟨bl, off + k, none⟩ = some (.string x) := by
  have hlt : k < l.length := (List.getElem?_eq_some_iff.1 hk).1
  obtain ⟨hn, hcc, bl, off, rfl, hc⟩ := h.at_ (by omega)
  exact ⟨hn, by omega, bl, off, rfl, hc k _ (by simp [hk])⟩
theorem Rd.form {w : World} {v : Value} {n : Nat} {xs : List Value} (h : Rd w v 1 n xs) : ∃ A c, v = .slice A n c ∧ n ≤ c := by
  obtain ⟨_, A, c, rfl, hc, _⟩ := h
  exact ⟨A, c, rfl, hc⟩
theorem getD_str {l : List ByteArray} {j : Nat} (h : j < l.length) : l[j]? = some (l.getD j ByteArray.empty) := by
  rw [List.getElem?_eq_getElem h, List.getD_eq_getElem?_getD, List.getElem?_eq_getElem h]
  rfl
/-- The library's Index and Contains on the first k strings of a slice. -/
theorem index_any (l : List ByteArray) (A : Option Addr) (c : Nat) (x : ByteArray) (w : World) (hl : l.length ≤ 9223372036854775807) (h : Rd w (.slice A l.length c) 1 l.length (strs l)) :
    Calls Tryz.prog 90 #[.slice A l.length c, .string x] w fun e w' => e = .returned (.int .i64 (Lib.idxOfS l x)) ∧ w' = w := by
  cases l with
  | nil => exact Tryz.slices_Index_string_empty A c x w
  | cons y r =>
    obtain ⟨_, _, bl, off, rfl, hc⟩ := h.at_ (by simp)
    have := Tryz.slices_Index_string bl off (y :: r).length c (y :: r) x w (Nat.le_refl _) hl (fun j hj => hc j _ (by rw [List.getElem?_map, getD_str hj]; rfl))
    rwa [List.take_length] at this
theorem contains_any (l : List ByteArray) (k : Nat) (hk : k ≤ l.length) (bl off c : Nat) (x : ByteArray) (w : World) (hl : l.length ≤ 9223372036854775807) (hc : ∀ (j : Nat) y, l[j]? = some y → w.cell? ⟨bl, off + j, none⟩ = some (.string y)) :
    Calls Tryz.prog 54 #[.slice (some ⟨bl, off, none⟩) k c, .string x] w fun e w' => e = .returned (.bool (Lib.containsS (l.take k) x)) ∧ w' = w :=
  Tryz.slices_Contains_string bl off k c l x w hk (by omega) fun j hj => hc j _ (getD_str hj)

theorem byte_at (t : ByteArray) (i : Nat) (h : i < t.size) : ∃ b : UInt8, t[i] = b ∧ t.data.toList.drop i = b :: t.data.toList.drop (i + 1) := by
  refine ⟨t[i], rfl, ?_⟩
  have hl : i < t.data.toList.length := by rw [data_len]; exact h
  rw [List.drop_eq_getElem_cons hl]
  rfl
theorem headD_at (t : ByteArray) (h : 0 < t.size) : t.data.toList.headD 0 = t[0] := by
  obtain ⟨b, hb, hd⟩ := byte_at t 0 h
  rw [List.drop_zero] at hd
  rw [hd, hb]
  rfl
theorem name_no {t : ByteArray} (h : ¬ (1 ≤ t.size ∧ t.size ≤ 8 ∧ 97 ≤ (t.data.toList.headD 0).toNat ∧ (t.data.toList.headD 0).toNat ≤ 122)) : nameB t = false := by
  unfold nameB nameL
  rw [data_len, decide_eq_false h]
  rfl
theorem name_yes {t : ByteArray} (h : 1 ≤ t.size ∧ t.size ≤ 8 ∧ 97 ≤ (t.data.toList.headD 0).toNat ∧ (t.data.toList.headD 0).toNat ≤ 122) : nameB t = t.data.toList.all isNC := by
  unfold nameB nameL
  rw [data_len, decide_eq_true h]
  rfl
theorem info116 : (Tryz.prog.info? (Tryz.lays160_ren.t 116)).map (fun i => (i.zero, i.size)) = some (some (.agg (Array.replicate 256 (.bool false))), 256) := by kernel_rfl
theorem trim_any (s : ByteArray) (w : World) (hs : s.size ≤ 9223372036854775807) :
    Calls Tryz.prog 89 #[.string s, .string ⟨#[97, 98, 99, 100, 101, 102, 103, 104, 105, 106, 107, 108, 109, 110, 111, 112, 113, 114, 115, 116, 117, 118, 119, 120, 121, 122, 48, 49, 50, 51, 52, 53, 54, 55, 56, 57, 95]⟩] w fun e w' => ∃ r : ByteArray, e = .returned (.string r) ∧ (r.toList == []) = s.data.toList.all isNC ∧ Keep NoF w w' := by
  have h := Any.strings_Trim_laid Tryz.lays160 info116 s setNC w hs (by decide) (ascii_of_all (by decide +kernel))
  refine h.mono ?_
  rintro e w' ⟨rfl, hb⟩
  refine ⟨_, rfl, ?_, Keep0.of_below hb⟩
  rw [ByteArray.toList_eq]
  cases ha : s.data.toList.all isNC with
  | true => rw [(trim_nil _).2 ha]; rfl
  | false =>
    rw [beq_eq_false_iff_ne]
    intro e
    have : Lib.trimS s.data.toList setNC.data.toList = [] := by simpa using e
    rw [(trim_nil _).1 this] at ha
    cases ha

section
set_option maxRecDepth 100000
set_option maxHeartbeats 1000000
theorem IsName_any (t : ByteArray) (w : World) (ht : t.size ≤ 9223372036854775807) :
    Calls Tryz.prog 52 #[.string t] w fun e w' => e = .returned (.bool (nameB t)) ∧ Keep NoF w w' := by
  by_cases h1 : t.size < 1
  · rw [name_no (by omega)]
    go_enter Tryz.func52, Tryz.ntmps52
    go_wp2
    go_ret
    exact ⟨rfl, Keep.refl _ _⟩
  · by_cases h8 : 8 < t.size
    · rw [name_no (by omega)]
      go_enter Tryz.func52, Tryz.ntmps52
      go_wp2
      go_ret
      exact ⟨rfl, Keep.refl _ _⟩
    · have hs0 : 0 < t.size := by omega
      have hh := headD_at t hs0
      by_cases ha : t[0].toNat < 97
      · rw [name_no (by rw [hh]; omega)]
        clear hh
        go_enter Tryz.func52, Tryz.ntmps52
        go_wp2
        go_ret
        exact ⟨rfl, Keep.refl _ _⟩
      · by_cases hz : 122 < t[0].toNat
        · rw [name_no (by rw [hh]; omega)]
          clear hh
          go_enter Tryz.func52, Tryz.ntmps52
          go_wp2
          go_ret
          exact ⟨rfl, Keep.refl _ _⟩
        · rw [name_yes (by rw [hh]; omega)]
          have HT := Lib.hid (trim_any t w ht)
          generalize t.data.toList.all isNC = r at *
          clear hh
          go_enter Tryz.func52, Tryz.ntmps52
          go_wp2_with (go_at_call 89; (with_reducible refine HT.out.mono ?_); rintro e w' ⟨q, rfl, hq, hk⟩)
          go_ret
          exact ⟨by first | rfl | rw [hq], hk⟩
theorem Reserved_any (t : ByteArray) (w : World) (hT : Tab w) : Calls Tryz.prog 53 #[.string t] w fun e w' => e = .returned (.bool (reserved t)) ∧ w' = w := by
  have hC := contains_any resW 7 (by decide) 1 0 7 t w (by decide) (fun j y hj => by rw [Nat.zero_add]; exact hT.1 j y hj)
  rw [show resW.take 7 = resW from rfl] at hC
  have HC := Lib.hid hC
  unfold reserved
  clear hC
  generalize Lib.containsS resW t = r at *
  go_enter Tryz.func53, Tryz.ntmps53
  go_wp2_with (go_at_call 54; (with_reducible refine HC.out.mono ?_); rintro e w' ⟨rfl, hw'⟩; obtain rfl := hw'.symm)
  go_ret
  exact ⟨rfl, rfl⟩
end
end Go.Proofs.YtmnhgeggojgflaaGreatDoor
