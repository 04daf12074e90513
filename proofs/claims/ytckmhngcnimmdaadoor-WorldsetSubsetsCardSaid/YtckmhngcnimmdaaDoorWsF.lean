/- A set as text: what the reference's Format does. No condition. -/
import Derived.Test.YtckmhngcnimmdaaDoorWsS
import Derived.Lib.ItoaNum
set_option linter.unusedVariables false
set_option linter.unusedSimpArgs false
namespace Go.Proofs.YtckmhngcnimmdaaDoor
open Go.RowKit Go.Shelf

/-- The numbers of a list, with spaces between. -/
def joinT (l : List Nat) : List UInt8 := Lib.join (l.map Lib.decDigits) [32]
theorem joinT_nil : joinT [] = [] := rfl
theorem joinT_one (x : Nat) : joinT [x] = Lib.decDigits x := Lib.join_one _ _
theorem joinT_snoc (y : Nat) (r : List Nat) (x : Nat) : joinT (y :: r ++ [x]) = joinT (y :: r) ++ [32] ++ Lib.decDigits x := by
  simp [joinT, Lib.join_cons, Lib.joinTail]
theorem dec_len {x : Nat} (h : x < 100) : (Lib.decDigits x).length ≤ 2 := by
  by_cases h1 : x < 10
  · rw [Lib.decDigits_one h1]; simp
  · rw [Lib.decDigits_two h1 h]; simp
theorem joinT_len : ∀ l : List Nat, (∀ x ∈ l, x < 100) → (joinT l).length ≤ 3 * l.length
  | [], _ => by simp [joinT_nil]
  | x :: r, h => by
    have h1 := dec_len (h x (by simp))
    have : ∀ r : List Nat, (∀ x ∈ r, x < 100) → (Lib.joinTail [32] (r.map Lib.decDigits)).length ≤ 3 * r.length := by
      intro r
      induction r with
      | nil => intro _; simp [Lib.joinTail]
      | cons y r ih =>
        intro hr
        have h2 := dec_len (hr y (by simp))
        have h3 := ih fun z hz => hr z (by simp [hz])
        simp only [Lib.joinTail, List.map_cons, List.flatten_cons, List.length_append, List.length_cons, List.length_nil] at h3 ⊢
        omega
    have h2 := this r fun y hy => h y (by simp [hy])
    rw [joinT, List.map_cons, Lib.join_cons, List.length_append, List.length_cons]
    omega
def txt (l : List UInt8) : ByteArray := ⟨l.toArray⟩
theorem txt_app (a b : List UInt8) : txt a ++ txt b = txt (a ++ b) := by
  apply ByteArray.ext
  simp [txt]
theorem txt_size (a : List UInt8) : (txt a).size = a.length := by simp [txt, ByteArray.size]
def fmtS (s : Nat) : List UInt8 := [123] ++ joinT (mem s) ++ [125]
theorem itoa_any (x : Nat) (hx : x < 100) (w : World) : Calls Tryd.prog 45 #[.int .i64 x] w fun e w' => e = .returned (.string (txt (Lib.decDigits x))) ∧ w' = w := Tryd.strconv_Itoa_small x hx w

section
set_option maxRecDepth 100000
set_option maxHeartbeats 1000000
theorem rFormat_any (s : Nat) (w : World) (hs : s < 18446744073709551616) :
    Calls Tryd.prog 30 #[.int .u64 s] w fun e w' => e = .returned (.string (txt (fmtS s))) ∧ Keep NoF w w' := by
  unfold fmtS
  have HM := Lib.hid (rMembers_any s hs w)
  have hml := mem_len s
  have hmm : ∀ k x, (mem s)[k]? = some x → x < 64 := fun k x h => (mem_lt (List.mem_of_getElem? h)).1
  have HMM := Lib.hid hmm
  clear hmm
  generalize mem s = l at *
  go_enter Tryd.func30, Tryd.ntmps30
  go_upto_region 2 with (go_at_call 18
                         (with_reducible refine HM.out.mono ?_)
                         rintro e w1 ⟨v, rfl, ho, hk1⟩
                         obtain ⟨B, cb, rfl⟩ := own_form ho)
  have hrl := Rd.of_own ho
  rw [inV_zV] at hrl
  go_wp2
  go_loopw [4, 5] (fun s i wr => ∃ (k : Nat) (b : ByteArray), i = .int .i64 k ∧ s = .string b ∧ Hid (b = txt ([123] ++ joinT (l.take k))) ∧ k ≤ l.length ∧ wr = w1) (fun _ i _ => l.length - (intOf i).toNat)
  case atStart => exact ⟨0, _, rfl, rfl, Lib.hid rfl, by omega, rfl⟩
  case round =>
    obtain ⟨k, b, rfl, rfl, hb, hk, hw⟩ := hrel
    obtain rfl := hw.symm; clear hw
    have hsz : b.size ≤ 300 := by
      have h1 := joinT_len (l.take k) fun x hx => by
        obtain ⟨j, hj⟩ := List.mem_iff_getElem?.1 (List.mem_of_mem_take hx)
        have := HMM.out j x hj
        omega
      rw [hb.out, txt_size, List.length_append, List.length_singleton]
      rw [List.length_take] at h1
      omega
    by_cases hlt : k < l.length
    · have hx : l[k]? = some l[k] := List.getElem?_eq_getElem hlt
      obtain ⟨-, bl, off, rfl, hc⟩ := Rd.int (l := l.map Int.ofNat) (k := k) (x := (l[k] : Nat)) (by simpa using hrl) (by simp [hx])
      have hx64 := HMM.out k _ hx
      have htk : Hid (l.take (k + 1) = l.take k ++ [l[k]]) := Lib.hid (by rw [List.take_add_one, hx]; rfl)
      clear hx hrl
      generalize l[k] = x at *
      have HI := Lib.hid (itoa_any x (by omega) w1)
      have hd := dec_len (show x < 100 by omega)
      rw [← txt_size] at hd
      generalize hD : txt (Lib.decDigits x) = d at *
      have HD := Lib.hid hD
      clear hD
      by_cases hk0 : k = 0
      · subst hk0
        rw [Nat.add_zero] at hc
        have HB : Hid (b ++ d = txt ([123] ++ joinT (l.take (0 + 1)))) := Lib.hid (by
          rw [hb.out, ← HD.out, txt_app, htk.out]
          simp [joinT_nil, joinT_one])
        clear hb htk
        go_wp2_with (go_at_call 45; (with_reducible refine HI.out.mono ?_); rintro e w' ⟨rfl, hw'⟩; obtain rfl := hw'.symm)
        go_roundw
        case rel => exact ⟨1, b ++ d, by go_num, rfl, HB, by omega, by trivial⟩
        case measure => simp only [intOf]; omega
      · have HB : Hid (b ++ ⟨#[32]⟩ ++ d = txt ([123] ++ joinT (l.take (k + 1)))) := Lib.hid (by
          rw [hb.out, ← HD.out, show (⟨#[32]⟩ : ByteArray) = txt [32] from rfl, txt_app, txt_app, htk.out]
          cases hl : l.take k with
          | nil =>
            have h1 := congrArg List.length hl
            rw [List.length_take, List.length_nil] at h1
            omega
          | cons y r => rw [joinT_snoc]; simp)
        clear hb htk
        go_wp2_with (go_at_call 45; (with_reducible refine HI.out.mono ?_); rintro e w' ⟨rfl, hw'⟩; obtain rfl := hw'.symm)
        go_roundw
        case rel => exact ⟨k + 1, b ++ ⟨#[32]⟩ ++ d, by go_num, rfl, HB, by omega, by trivial⟩
        case measure => simp only [intOf]; omega
    · obtain rfl : k = l.length := by omega
      have HB : Hid (b ++ ⟨#[125]⟩ = txt ([123] ++ joinT l ++ [125])) := Lib.hid (by
        rw [hb.out, show (⟨#[125]⟩ : ByteArray) = txt [125] from rfl, txt_app, List.take_length])
      clear hb
      go_wp2
      go_ret
      exact ⟨congrArg Ending.returned (congrArg Value.string HB.out), hk1⟩
end
end Go.Proofs.YtckmhngcnimmdaaDoor
