/- Names and reserved words: what the reference's functions do. No condition. -/
import Derived.Test.YtbidfbojealmlaaGreatDoorSgB
set_option linter.unusedVariables false
set_option linter.unusedSimpArgs false
namespace Go.Proofs.YtbidfbojealmlaaGreatDoor
open Go.RowKit

theorem idx_go {l : List ByteArray} {k : Nat} {x y : ByteArray} (hy : l[k]? = some y) (hb : ∀ j, j < k → l[j]? ≠ some x) : (y = x → Lib.idxOfS l x = k) ∧ (y ≠ x → ∀ j, j < k + 1 → l[j]? ≠ some x) := by
  constructor
  · rintro rfl
    rcases idx_cases l y with ⟨_, h⟩ | ⟨i, h1, _, h2, h3⟩
    · exact absurd (List.mem_of_getElem? hy) h
    · have h4 : ¬ i < k := fun h => hb i h h2
      have h5 : ¬ k < i := fun h => h3 k h hy
      rw [h1]
      congr 1
      omega
  · intro hne j hj
    by_cases h : j = k
    · subst h
      rw [hy]
      intro e
      exact hne (Option.some.inj e)
    · exact hb j (by omega)
theorem idx_end {l : List ByteArray} {x : ByteArray} (hb : ∀ j, j < l.length → l[j]? ≠ some x) : Lib.idxOfS l x = -1 := by
  refine idx_none fun h => ?_
  obtain ⟨i, hi⟩ := List.mem_iff_getElem?.1 h
  exact hb i (List.getElem?_eq_some_iff.1 hi).1 hi
section
set_option maxRecDepth 100000
set_option maxHeartbeats 1000000
theorem rfind_any (l : List ByteArray) (A : Option Addr) (c : Nat) (x : ByteArray) (w : World) (hl : l.length ≤ 9223372036854775807) (hrd : Rd w (.slice A l.length c) 1 l.length (strs l)) :
    Calls Tryz.prog 58 #[.slice A l.length c, .string x] w fun e w' => e = .returned (.int .i64 (Lib.idxOfS l x)) ∧ w' = w := by
  generalize hr : Lib.idxOfS l x = r
  have HR := Lib.hid hr
  clear hr
  go_enter Tryz.func58, Tryz.ntmps58
  go_wp2
  go_loopw [5] (fun i wr => ∃ k : Nat, i = .int .i64 k ∧ k ≤ l.length ∧ Hid (∀ j, j < k → l[j]? ≠ some x) ∧ wr = w) (fun i _ => l.length - (intOf i).toNat)
  case atStart => exact ⟨0, rfl, by omega, Lib.hid (fun j h => absurd h (by omega)), rfl⟩
  case round =>
    obtain ⟨k, rfl, hk, ho, hw⟩ := hrel
    obtain rfl := hw.symm; clear hw
    by_cases hlt : k < l.length
    · have hy : l[k]? = some l[k] := List.getElem?_eq_getElem hlt
      obtain ⟨-, hcc, bl, off, rfl, hc⟩ := hrd.str hy
      have h2 := idx_go hy ho.out
      clear hy
      generalize l[k] = y at *
      by_cases hyx : y = x
      · have HX : Hid (r = k) := Lib.hid (by rw [← HR.out]; exact h2.1 hyx)
        subst hyx
        clear h2 ho
        go_wp2
        go_ret
        exact ⟨by rw [HX.out] <;> rfl, rfl⟩
      · have HO := Lib.hid (h2.2 hyx)
        have hb := (Lib.bytes_beq_false_iff y x).2 hyx
        clear h2 ho hyx
        go_wp2
        go_roundw
        case rel => exact ⟨k + 1, by go_num, by omega, HO, by trivial⟩
        case measure => simp only [intOf]; omega
    · obtain rfl : k = l.length := by omega
      have HX : Hid (r = -1) := Lib.hid (by rw [← HR.out]; exact idx_end ho.out)
      clear ho
      go_wp2
      go_ret
      exact ⟨by rw [HX.out] <;> rfl, rfl⟩
theorem all_step {t : ByteArray} {k : Nat} {b : UInt8} (hd : t.data.toList.drop k = b :: t.data.toList.drop (k + 1)) : (t.data.toList.drop k).all isNC = (isNC b && (t.data.toList.drop (k + 1)).all isNC) := by rw [hd]; rfl
theorem nc_no {b : UInt8} (h : ¬ ((97 ≤ b.toNat ∧ b.toNat ≤ 122) ∨ (48 ≤ b.toNat ∧ b.toNat ≤ 57) ∨ b.toNat = 95)) : isNC b = false := decide_eq_false h
theorem nc_yes {b : UInt8} (h : (97 ≤ b.toNat ∧ b.toNat ≤ 122) ∨ (48 ≤ b.toNat ∧ b.toNat ≤ 57) ∨ b.toNat = 95) : isNC b = true := decide_eq_true h
theorem rIsName_any (t : ByteArray) (w : World) (ht : t.size ≤ 9223372036854775807) :
    Calls Tryz.prog 56 #[.string t] w fun e w' => e = .returned (.bool (nameB t)) ∧ Keep NoF w w' := by
  by_cases h1 : t.size < 1
  · rw [name_no (by omega)]
    go_enter Tryz.func56, Tryz.ntmps56
    go_wp2
    go_ret
    exact ⟨rfl, Keep.refl _ _⟩
  · by_cases h8 : 8 < t.size
    · rw [name_no (by omega)]
      go_enter Tryz.func56, Tryz.ntmps56
      go_wp2
      go_ret
      exact ⟨rfl, Keep.refl _ _⟩
    · have hs0 : 0 < t.size := by omega
      have hh := headD_at t hs0
      by_cases ha : t[0].toNat < 97
      · rw [name_no (by rw [hh]; omega)]
        clear hh
        go_enter Tryz.func56, Tryz.ntmps56
        go_wp2
        go_ret
        exact ⟨rfl, Keep.refl _ _⟩
      · by_cases hz : 122 < t[0].toNat
        · rw [name_no (by rw [hh]; omega)]
          clear hh
          go_enter Tryz.func56, Tryz.ntmps56
          go_wp2
          go_ret
          exact ⟨rfl, Keep.refl _ _⟩
        · rw [name_yes (by rw [hh]; omega)]
          generalize hr : t.data.toList.all isNC = r
          have HR := Lib.hid hr
          clear hh hr
          go_enter Tryz.func56, Tryz.ntmps56
          go_wp2
          go_loopw [3] (fun i wr => ∃ k : Nat, i = .int .i64 k ∧ k ≤ t.size ∧ Hid (r = (t.data.toList.drop k).all isNC) ∧ Keep NoF w wr) (fun i _ => t.size - (intOf i).toNat)
          case atStart => exact ⟨0, rfl, by omega, Lib.hid HR.out.symm, Keep.refl _ _⟩
          case round =>
            obtain ⟨k, rfl, hk, ho, hkr⟩ := hrel
            by_cases hlt : k < t.size
            · obtain ⟨b, hb, hd⟩ := byte_at t k hlt
              have ho1 := ho.out
              rw [all_step hd] at ho1
              clear ho hd HR
              have hb2 : t[k].toNat = b.toNat := congrArg UInt8.toNat hb
              clear hb
              by_cases hnc : (97 ≤ b.toNat ∧ b.toNat ≤ 122) ∨ (48 ≤ b.toNat ∧ b.toNat ≤ 57) ∨ b.toNat = 95
              · rw [nc_yes hnc, Bool.true_and] at ho1
                have HO := Lib.hid ho1
                clear ho1
                generalize b.toNat = c at *
                rcases hnc with ⟨h3, h4⟩ | ⟨h3, h4⟩ | rfl
                · go_wp2
                  go_roundw
                  case rel => exact ⟨k + 1, by go_num, by omega, HO, hkr⟩
                  case measure => simp only [intOf]; omega
                · go_wp2
                  go_roundw
                  case rel => exact ⟨k + 1, by go_num, by omega, HO, hkr⟩
                  case measure => simp only [intOf]; omega
                · go_wp2
                  go_roundw
                  case rel => exact ⟨k + 1, by go_num, by omega, HO, hkr⟩
                  case measure => simp only [intOf]; omega
              · rw [nc_no hnc, Bool.false_and] at ho1
                have HO := Lib.hid ho1
                clear ho1
                generalize b.toNat = c at *
                have h95 : ((c : Int) != 95) = true := by simp; omega
                have hcl : (c < 48) ∨ (57 < c ∧ c < 97) ∨ (122 < c) := by omega
                clear hnc
                rcases hcl with h3 | ⟨h3, h4⟩ | h3
                · go_wp2
                  go_ret
                  exact ⟨by rw [HO.out] <;> rfl, hkr⟩
                · go_wp2
                  go_ret
                  exact ⟨by rw [HO.out] <;> rfl, hkr⟩
                · go_wp2
                  go_ret
                  exact ⟨by rw [HO.out] <;> rfl, hkr⟩
            · obtain rfl : k = t.size := by omega
              have HX : Hid (r = true) := Lib.hid (by rw [ho.out, List.drop_eq_nil_of_le (by rw [data_len]; exact Nat.le_refl _)]; rfl)
              clear ho HR
              go_wp2
              go_ret
              exact ⟨by rw [HX.out] <;> rfl, hkr⟩
theorem rReserved_any (t : ByteArray) (w : World) : Calls Tryz.prog 57 #[.string t] w fun e w' => e = .returned (.bool (reserved t)) ∧ w' = w := by
  by_cases hm : t ∈ resW
  · have hr : reserved t = true := (Lib.containsS_iff _ _).2 hm
    rw [hr]
    clear hr
    simp only [resW, List.mem_cons, List.not_mem_nil, or_false] at hm
    rcases hm with rfl | rfl | rfl | rfl | rfl | rfl | rfl <;>
    · go_enter Tryz.func57, Tryz.ntmps57
      go_wp2
      go_ret
      exact ⟨rfl, rfl⟩
  · have hr : reserved t = false := by
      cases h : reserved t with
      | false => rfl
      | true => exact absurd ((Lib.containsS_iff _ _).1 h) hm
    rw [hr]
    clear hr
    have hne : ∀ y, y ∈ resW → (t.toList == y.data.toList) = false := fun y hy => by rw [← ByteArray.toList_eq y]; exact (Lib.bytes_beq_false_iff t y).2 fun e => hm (e ▸ hy)
    have e1 : (t.toList == [116, 114, 117, 101]) = false := hne ⟨#[116, 114, 117, 101]⟩ (by simp [resW])
    have e2 : (t.toList == [102, 97, 108, 115, 101]) = false := hne ⟨#[102, 97, 108, 115, 101]⟩ (by simp [resW])
    have e3 : (t.toList == [110, 101, 120, 116]) = false := hne ⟨#[110, 101, 120, 116]⟩ (by simp [resW])
    have e4 : (t.toList == [112, 114, 101, 118]) = false := hne ⟨#[112, 114, 101, 118]⟩ (by simp [resW])
    have e5 : (t.toList == [117, 110, 116, 105, 108]) = false := hne ⟨#[117, 110, 116, 105, 108]⟩ (by simp [resW])
    have e6 : (t.toList == [115, 105, 110, 99, 101]) = false := hne ⟨#[115, 105, 110, 99, 101]⟩ (by simp [resW])
    have e7 : (t.toList == [100, 111]) = false := hne ⟨#[100, 111]⟩ (by simp [resW])
    clear hne hm
    go_enter Tryz.func57, Tryz.ntmps57
    go_wp2
    go_ret
    exact ⟨rfl, rfl⟩
end
end Go.Proofs.YtbidfbojealmlaaGreatDoor
