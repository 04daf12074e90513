/- Words with spaces between them: what spread makes. Conditions: the words are short. -/
import Derived.Test.YtdhdcenjiopofaaDoorPaY
import Derived.Test.YtdhdcenjiopofaaDoorPc2
set_option linter.unusedVariables false
set_option linter.unusedSimpArgs false
namespace Go.Proofs.YtdhdcenjiopofaaDoor
open Go.RowKit

theorem spread_snoc : ∀ (k : Nat) (ws : List (List UInt8)) (x : List UInt8), spreadL k (ws ++ [x]) = spreadL k ws ++ piece (k + ws.length) x
  | k, [], x => by simp [spreadL]
  | k, w :: ws, x => by
    rw [List.cons_append, spreadL, spreadL, spread_snoc (k + 1) ws x, List.append_assoc, List.length_cons, show k + 1 + ws.length = k + (ws.length + 1) by omega]
theorem spread_take_le (k : Nat) (ws : List (List UInt8)) (j : Nat) : (spreadL k (ws.take j)).length ≤ (spreadL k ws).length := by
  rw [spread_len, spread_len]
  have h : ∀ (l : List (List UInt8)) (j : Nat), ((l.take j).map List.length).sum ≤ (l.map List.length).sum ∧ (l.take j).length ≤ l.length := fun l => by
    induction l with
    | nil => intro j; simp
    | cons a l ih =>
      intro j
      cases j with
      | zero => simp
      | succ j => have := ih j; simp only [List.take_succ_cons, List.map_cons, List.sum_cons, List.length_cons] at *; omega
  have := h ws j
  omega
theorem piece_len (k : Nat) (w : List UInt8) : (piece k w).length = w.length + 2 := by unfold piece; split; simp; split <;> simp
def dataL (l : List ByteArray) : List (List UInt8) := l.map (·.data.toList)
section
set_option maxRecDepth 100000
set_option maxHeartbeats 2000000
theorem spread_any (l : List ByteArray) (A : Option Addr) (c n : Nat) (w : World) (hn : n < 256) (hl : l.length ≤ 4000) (hs : (spreadL n (dataL l)).length ≤ 4000) (h1 : Rd w (.slice A l.length c) 1 l.length (strs l)) :
    Calls Tryd.prog 15 #[.slice A l.length c, .int .u8 (n : Int)] w fun e w' => e = .returned (.string (txt (spreadL n (dataL l)))) ∧ Keep NoF w w' := by
  have HS := Lib.hid hs
  clear hs
  go_enter Tryd.func15, Tryd.ntmps15
  go_wp2
  go_loopw [5, 10] (fun ov i wr => ∃ (k : Nat) (o : ByteArray), ov = .string o ∧ i = .int .i64 (k : Int) ∧ k ≤ l.length ∧ Hid (o = txt (spreadL n ((dataL l).take k))) ∧ wr = w) (fun _ i _ => l.length - (intOf i).toNat)
  case atStart => exact ⟨0, ⟨#[]⟩, rfl, rfl, by omega, Lib.hid rfl, rfl⟩
  case round =>
    obtain ⟨k, o, rfl, rfl, hk, HO, hw⟩ := hrel
    obtain rfl := hw.symm; clear hw
    have ho4 : o.size ≤ 4000 := by
      rw [HO.out, txt_size]
      exact Nat.le_trans (spread_take_le _ _ _) HS.out
    by_cases hlt : k < l.length
    · have hx : l[k]? = some l[k] := List.getElem?_eq_getElem hlt
      obtain ⟨-, hcc, bl, off, rfl, hc⟩ := h1.str hx
      have hdx : (dataL l)[k]? = some l[k].data.toList := by unfold dataL; rw [List.getElem?_map, hx]; rfl
      have htk : (dataL l).take (k + 1) = (dataL l).take k ++ [l[k].data.toList] := by rw [List.take_add_one, hdx]; rfl
      have hlk : ((dataL l).take k).length = k := by rw [List.length_take]; unfold dataL; rw [List.length_map]; omega
      have hsn := spread_snoc n ((dataL l).take k) l[k].data.toList
      rw [← htk, hlk] at hsn
      have HSN := Lib.hid hsn
      have hx4 : l[k].size ≤ 4000 := by
        have h2 := spread_take_le n (dataL l) (k + 1)
        rw [hsn, List.length_append] at h2
        have hp : l[k].data.toList.length ≤ (piece (n + k) l[k].data.toList).length := by rw [piece_len]; omega
        have := HS.out
        rw [data_len] at hp
        omega
      clear hx hdx htk hlk hsn
      generalize l[k] = x at *
      have hm3 : (n + k) % 3 = 0 ∨ (n + k) % 3 = 1 ∨ (n + k) % 3 = 2 := by omega
      have hz : (0 : Int) ≤ (n : Int) + (k : Int) := by omega
      have HG : Hid (∀ o' : ByteArray, o'.data.toList = o.data.toList ++ piece (n + k) x.data.toList → o' = txt (spreadL n ((dataL l).take (k + 1)))) := Lib.hid fun o' h => by
        refine ba_ext ?_
        rw [h, data_txt, HSN.out, HO.out, data_txt]
      rcases hm3 with hm | hm | hm
      · have q0 : (((n : Int) + (k : Int)) % 3 == 0) = true := beq_iff_eq.2 (by omega)
        have HP : Hid (piece (n + k) x.data.toList = 32 :: (x.data.toList ++ [9])) := Lib.hid (by unfold piece; rw [if_pos hm])
        clear hm
        go_wp2
        go_roundw
        case rel => exact ⟨k + 1, _, rfl, by go_num, by omega, Lib.hid (HG.out _ (by rw [HP.out]; simp)), by trivial⟩
        case measure => simp only [intOf]; omega
      · have q0 : (((n : Int) + (k : Int)) % 3 == 0) = false := beq_eq_false_iff_ne.2 (by omega)
        have q1 : (((n : Int) + (k : Int)) % 3 == 1) = true := beq_iff_eq.2 (by omega)
        have HP : Hid (piece (n + k) x.data.toList = x.data.toList ++ [32, 32]) := Lib.hid (by unfold piece; rw [if_neg (by omega), if_pos hm])
        clear hm
        go_wp2
        go_roundw
        case rel => exact ⟨k + 1, _, rfl, by go_num, by omega, Lib.hid (HG.out _ (by rw [HP.out]; simp)), by trivial⟩
        case measure => simp only [intOf]; omega
      · have q0 : (((n : Int) + (k : Int)) % 3 == 0) = false := beq_eq_false_iff_ne.2 (by omega)
        have q1 : (((n : Int) + (k : Int)) % 3 == 1) = false := beq_eq_false_iff_ne.2 (by omega)
        have HP : Hid (piece (n + k) x.data.toList = 10 :: (x.data.toList ++ [32])) := Lib.hid (by unfold piece; rw [if_neg (by omega), if_neg (by omega)])
        clear hm
        go_wp2
        go_roundw
        case rel => exact ⟨k + 1, _, rfl, by go_num, by omega, Lib.hid (HG.out _ (by rw [HP.out]; simp)), by trivial⟩
        case measure => simp only [intOf]; omega
    · have hkl : k = l.length := by omega
      have HE : Hid (o = txt (spreadL n (dataL l))) := Lib.hid (by rw [HO.out, List.take_of_length_le (by unfold dataL; rw [List.length_map]; omega)])
      clear HO
      subst hkl
      go_wp2
      refine bodyPost_ret (v := .string o) (by simp [results, Tryd.results15, go_sem]) rfl ?_
      exact ⟨by rw [HE.out], Keep.refl _ _⟩
end
end Go.Proofs.YtdhdcenjiopofaaDoor
