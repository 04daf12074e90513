/- Package formula: the masks of Agents and Facts; whether a formula fits. No condition. -/
import Derived.Test.YtmjdbbfoihadoaaPcA
set_option linter.unusedVariables false
set_option linter.unusedSimpArgs false
namespace Go.Proofs.Ytmjdbbfoihadoaa
open Go.RowKit
open Fm (Nd checkE compactL cl usesX usesY usesAgent usesFact usesGroup usesEvent put ins Form)
/-- The masks of a list of nodes. -/
def orA (l : List Nd) : Nat := l.foldl (fun m n => m ||| mA n) 0
def orF (l : List Nd) : Nat := l.foldl (fun m n => m ||| mF n) 0
theorem take_snoc1 {l : List Nd} {k : Nat} {n : Nd} (h : l[k]? = some n) : l.take (k + 1) = l.take k ++ [n] := by rw [List.take_add_one, h]; rfl
theorem orA_snoc {l : List Nd} {k : Nat} {n : Nd} (h : l[k]? = some n) : orA (l.take (k + 1)) = orA (l.take k) ||| mA n := by rw [take_snoc1 h]; simp [orA]
theorem orF_snoc {l : List Nd} {k : Nat} {n : Nd} (h : l[k]? = some n) : orF (l.take (k + 1)) = orF (l.take k) ||| mF n := by rw [take_snoc1 h]; simp [orF]
theorem mA_lt {n : Nd} (h : Fm.own n.op n.i n.e n.g = true) : mA n < 2 ^ 8 := by
  obtain ⟨h1, h2, h3, h4, h5⟩ := own_ranges h
  unfold mA
  split
  · next ha =>
    obtain ⟨a1, a2⟩ := h1 ha
    have : n.i.toNat = 0 ∨ n.i.toNat = 1 ∨ n.i.toNat = 2 ∨ n.i.toNat = 3 := by omega
    rcases this with h | h | h | h <;> rw [h] <;> decide
  · omega
theorem mF_lt {n : Nd} (h : Fm.own n.op n.i n.e n.g = true) : mF n < 2 ^ 8 := by
  obtain ⟨h1, h2, h3, h4, h5⟩ := own_ranges h
  unfold mF
  split
  · next ha =>
    obtain ⟨a1, a2⟩ := h2 ha
    exact Nat.pow_lt_pow_right (by decide) (by omega)
  · decide
theorem or_le_iff {f : Nd → Nat} {b : Nat} : ∀ (l : List Nd) (m : Nat), l.foldl (fun m n => m ||| f n) m < 2 ^ b ↔ m < 2 ^ b ∧ ∀ n ∈ l, f n < 2 ^ b
  | [], m => by simp
  | n :: l, m => by
    rw [List.foldl_cons, or_le_iff l]
    constructor
    · rintro ⟨h1, h2⟩
      refine ⟨Nat.lt_of_le_of_lt Nat.left_le_or h1, fun x hx => ?_⟩
      rcases List.mem_cons.1 hx with rfl | hx
      · exact Nat.lt_of_le_of_lt Nat.right_le_or h1
      · exact h2 x hx
    · rintro ⟨h1, h2⟩
      exact ⟨Nat.or_lt_two_pow h1 (h2 n (by simp)), fun x hx => h2 x (by simp [hx])⟩
theorem orA_lt {l : List Nd} {b : Nat} : orA l < 2 ^ b ↔ ∀ n ∈ l, mA n < 2 ^ b := by
  unfold orA
  rw [or_le_iff]
  exact ⟨fun h => h.2, fun h => ⟨Nat.two_pow_pos b, h⟩⟩
theorem orF_lt {l : List Nd} {b : Nat} : orF l < 2 ^ b ↔ ∀ n ∈ l, mF n < 2 ^ b := by
  unfold orF
  rw [or_le_iff]
  exact ⟨fun h => h.2, fun h => ⟨Nat.two_pow_pos b, h⟩⟩
theorem compact_own {f : List Nd} : ∀ n ∈ compactL f, Fm.own n.op n.i n.e n.g = true := by
  by_cases h : checkE f = 0
  · intro n hn
    obtain ⟨k, hk⟩ := List.getElem?_of_mem hn
    exact Fm.compactL_own h k n hk
  · rw [Fm.compactL_bad h]
    intro n hn
    cases hn
theorem compact_200 (f : List Nd) : (compactL f).length ≤ 200 := by
  by_cases h : checkE f = 0
  · exact (Fm.compactL_len h).1
  · rw [Fm.compactL_bad h]; simp
section
set_option maxRecDepth 100000
set_option maxHeartbeats 4000000
theorem unionAx (f : List Nd) (A : Option Addr) (c : Nat) (w : World) (hll : f.length ≤ 9223372036854775807) (hrd : Rd w (.slice A f.length c) 6 f.length (fmC f))
    (hm : ∀ n ∈ compactL f, Fm.own n.op n.i n.e n.g = true) :
    Calls Try.prog 48 #[.slice A f.length c, .func (.func 66) #[] #[]] w fun e w' => e = .returned (.int .i64 (orA (compactL f) : Nat)) ∧ Keep NoF w w' := by
  have HC := Lib.hid (Compact_any f A c w hll hrd)
  have HM := Lib.hid hm
  have hl200 := compact_200 f
  have HU := Lib.hid fun (o : Int) (W : World) => uses_any W o
  clear hrd hm
  generalize compactL f = L at *
  generalize f.length = fl at *
  go_enter Try.func48, Try.ntmps48
  go_wp2_with (go_at_call 7; (with_reducible refine HC.out.mono ?_); rintro e w1 ⟨A1, c1, rfl, R1, K1, F1⟩)
  have HR := Lib.hid R1
  clear R1 F1
  go_loopw [5, 13] (fun v i wr => ∃ k m : Nat, v = .int .i64 (m : Int) ∧ i = .int .i64 (k : Int) ∧ k ≤ L.length ∧ m < 256 ∧ Hid (m = orA (L.take k)) ∧ Keep NoF w1 wr) (fun _ i _ => L.length - (intOf i).toNat)
  case atStart => exact ⟨0, 0, rfl, rfl, by omega, by omega, Lib.hid rfl, Keep.refl _ _⟩
  case round =>
    obtain ⟨k, m, rfl, rfl, hk, hm, HE, hkw⟩ := hrel
    by_cases hlt : k < L.length
    · have hx : L[k]? = some L[k] := List.getElem?_eq_getElem hlt
      obtain ⟨bl, off, rfl, _, hc1, x0, x1, x2, x3, x4, x5⟩ := (HR.out.kept hkw fun _ _ h => h).nd hx
      have ho := HM.out _ (List.getElem_mem hlt)
      have hmk := mA_lt ho
      have HE2 : Hid (m ||| mA L[k] = orA (L.take (k + 1))) := Lib.hid (by rw [HE.out, orA_snoc hx])
      clear hx
      generalize L[k] = n at *
      have HK := Lib.hid fun W : World => agents1_any n W ho
      have hor := or_small (a := m) (b := mA n) (by omega) (by omega)
      have hlt2 : m ||| mA n < 256 := Nat.or_lt_two_pow (n := 8) hm hmk
      have HO := Lib.hid fun W : World => HU.out n.op W
      generalize mA n = mm at *
      obtain ⟨op, i, e0, g, x, y⟩ := n
      simp only [useV, useC] at *
      clear ho
      generalize Fm.isOp op = bb at *
      generalize usesX op = b0 at *
      generalize usesY op = b1 at *
      generalize usesFact op = b2 at *
      generalize usesAgent op = b3 at *
      generalize usesGroup op = b4 at *
      generalize usesEvent op = b5 at *
      generalize fragN op = fr at *
      go_wp2_with (first
        | (go_at_call 38; (with_reducible refine (HO.out _).mono ?_); rintro e w2 ⟨rfl, K2⟩; obtain ⟨y0, y1, y2, y3, y4, y5, ysz⟩ := box6 K2; have ysl : wr.heap.size < w2.heap.size := ysz; have ysn : ¬ wr.heap.size = w2.heap.size := (by omega); have ysm : ¬ w2.heap.size = wr.heap.size := (by omega))
        | (go_at_call 66; (with_reducible refine (HK.out _).mono ?_); rintro e w3 ⟨rfl, K3⟩))
      go_roundw
      case rel => exact ⟨k + 1, m ||| mm, by go_num, by go_num, by omega, hlt2, HE2, (((hkw.alloc _).trans K2 fun _ _ h => h).alloc _).trans K3 fun _ _ h => h⟩
      case measure => simp only [intOf]; omega
    · go_wp2
      go_ret
      obtain rfl : k = L.length := by omega
      have he := HE.out
      rw [List.take_length] at he
      exact ⟨by rw [he]; rfl, K1.trans hkw fun _ _ h => h⟩
theorem fmAgents_ex (f : List Nd) (A : Option Addr) (c : Nat) (w : World) (hll : f.length ≤ 9223372036854775807) (hrd : Rd w (.slice A f.length c) 6 f.length (fmC f))
    (hm : ∀ n ∈ compactL f, Fm.own n.op n.i n.e n.g = true) :
    Calls Try.prog 51 #[.slice A f.length c] w fun e w' => e = .returned (.int .i64 (orA (compactL f) : Nat)) ∧ Keep NoF w w' := by
  have HU := Lib.hid (unionAx f A c w hll hrd hm)
  clear hrd hm
  generalize f.length = n at *
  go_enter Try.func51, Try.ntmps51
  go_wp2_with (go_at_call 48; (with_reducible refine HU.out.mono ?_); rintro e w1 ⟨rfl, K1⟩)
  go_ret
  exact ⟨rfl, K1⟩
theorem unionFx (f : List Nd) (A : Option Addr) (c : Nat) (w : World) (hll : f.length ≤ 9223372036854775807) (hrd : Rd w (.slice A f.length c) 6 f.length (fmC f))
    (hm : ∀ n ∈ compactL f, Fm.own n.op n.i n.e n.g = true) :
    Calls Try.prog 48 #[.slice A f.length c, .func (.func 67) #[] #[]] w fun e w' => e = .returned (.int .i64 (orF (compactL f) : Nat)) ∧ Keep NoF w w' := by
  have HC := Lib.hid (Compact_any f A c w hll hrd)
  have HM := Lib.hid hm
  have hl200 := compact_200 f
  have HU := Lib.hid fun (o : Int) (W : World) => uses_any W o
  clear hrd hm
  generalize compactL f = L at *
  generalize f.length = fl at *
  go_enter Try.func48, Try.ntmps48
  go_wp2_with (go_at_call 7; (with_reducible refine HC.out.mono ?_); rintro e w1 ⟨A1, c1, rfl, R1, K1, F1⟩)
  have HR := Lib.hid R1
  clear R1 F1
  go_loopw [5, 13] (fun v i wr => ∃ k m : Nat, v = .int .i64 (m : Int) ∧ i = .int .i64 (k : Int) ∧ k ≤ L.length ∧ m < 256 ∧ Hid (m = orF (L.take k)) ∧ Keep NoF w1 wr) (fun _ i _ => L.length - (intOf i).toNat)
  case atStart => exact ⟨0, 0, rfl, rfl, by omega, by omega, Lib.hid rfl, Keep.refl _ _⟩
  case round =>
    obtain ⟨k, m, rfl, rfl, hk, hm, HE, hkw⟩ := hrel
    by_cases hlt : k < L.length
    · have hx : L[k]? = some L[k] := List.getElem?_eq_getElem hlt
      obtain ⟨bl, off, rfl, _, hc1, x0, x1, x2, x3, x4, x5⟩ := (HR.out.kept hkw fun _ _ h => h).nd hx
      have ho := HM.out _ (List.getElem_mem hlt)
      have hmk := mF_lt ho
      have HE2 : Hid (m ||| mF L[k] = orF (L.take (k + 1))) := Lib.hid (by rw [HE.out, orF_snoc hx])
      clear hx
      generalize L[k] = n at *
      have HK := Lib.hid fun W : World => facts1_any n W ho
      have hor := or_small (a := m) (b := mF n) (by omega) (by omega)
      have hlt2 : m ||| mF n < 256 := Nat.or_lt_two_pow (n := 8) hm hmk
      have HO := Lib.hid fun W : World => HU.out n.op W
      generalize mF n = mm at *
      obtain ⟨op, i, e0, g, x, y⟩ := n
      simp only [useV, useC] at *
      clear ho
      generalize Fm.isOp op = bb at *
      generalize usesX op = b0 at *
      generalize usesY op = b1 at *
      generalize usesFact op = b2 at *
      generalize usesAgent op = b3 at *
      generalize usesGroup op = b4 at *
      generalize usesEvent op = b5 at *
      generalize fragN op = fr at *
      go_wp2_with (first
        | (go_at_call 38; (with_reducible refine (HO.out _).mono ?_); rintro e w2 ⟨rfl, K2⟩; obtain ⟨y0, y1, y2, y3, y4, y5, ysz⟩ := box6 K2; have ysl : wr.heap.size < w2.heap.size := ysz; have ysn : ¬ wr.heap.size = w2.heap.size := (by omega); have ysm : ¬ w2.heap.size = wr.heap.size := (by omega))
        | (go_at_call 67; (with_reducible refine (HK.out _).mono ?_); rintro e w3 ⟨rfl, K3⟩))
      go_roundw
      case rel => exact ⟨k + 1, m ||| mm, by go_num, by go_num, by omega, hlt2, HE2, (((hkw.alloc _).trans K2 fun _ _ h => h).alloc _).trans K3 fun _ _ h => h⟩
      case measure => simp only [intOf]; omega
    · go_wp2
      go_ret
      obtain rfl : k = L.length := by omega
      have he := HE.out
      rw [List.take_length] at he
      exact ⟨by rw [he]; rfl, K1.trans hkw fun _ _ h => h⟩
theorem fmFacts_ex (f : List Nd) (A : Option Addr) (c : Nat) (w : World) (hll : f.length ≤ 9223372036854775807) (hrd : Rd w (.slice A f.length c) 6 f.length (fmC f))
    (hm : ∀ n ∈ compactL f, Fm.own n.op n.i n.e n.g = true) :
    Calls Try.prog 52 #[.slice A f.length c] w fun e w' => e = .returned (.int .i64 (orF (compactL f) : Nat)) ∧ Keep NoF w w' := by
  have HU := Lib.hid (unionFx f A c w hll hrd hm)
  clear hrd hm
  generalize f.length = n at *
  go_enter Try.func52, Try.ntmps52
  go_wp2_with (go_at_call 48; (with_reducible refine HU.out.mono ?_); rintro e w1 ⟨rfl, K1⟩)
  go_ret
  exact ⟨rfl, K1⟩
theorem fits1_ex (m n : Nat) (w : World) (hm : m < 256) (hn : n ≤ 8) : Calls Try.prog 50 #[.int .i64 (m : Int), .int .i64 (n : Int)] w fun e w' => e = .returned (.bool (decide (m < 2 ^ n))) ∧ Keep NoF w w' := by
  have h31 : ¬ (31 : Int) ≤ (n : Int) := by omega
  have hz : ¬ (n : Int) < 0 := by omega
  have hz' : (0 : Int) ≤ (n : Int) := by omega
  have h64 : (n : Int) < 64 := by omega
  have hd : (((m : Int) / 2 ^ n) == 0) = decide (m < 2 ^ n) := by
    have e : (m : Int) / 2 ^ n = ((m / 2 ^ n : Nat) : Int) := by simp
    rw [e]
    by_cases h : m < 2 ^ n
    · rw [Nat.div_eq_of_lt h, decide_eq_true h]; rfl
    · rw [decide_eq_false h]
      have : 0 < m / 2 ^ n := Nat.div_pos (by omega) (Nat.two_pow_pos n)
      exact beq_eq_false_iff_ne.2 (by omega)
  generalize decide (m < 2 ^ n) = b at *
  go_enter Try.func50, Try.ntmps50
  go_wp2
  go_ret
  exact ⟨rfl, Keep.refl _ _⟩
/-- Whether a formula fits. -/
def fitsB (f : List Nd) (a b : Nat) : Bool := decide (checkE f = 0) && (decide (orA (compactL f) < 2 ^ a) && decide (orF (compactL f) < 2 ^ b))
theorem Fits_ex (f : List Nd) (A : Option Addr) (c a b : Nat) (w : World) (hll : f.length ≤ 9223372036854775807) (hrd : Rd w (.slice A f.length c) 6 f.length (fmC f)) (ha : a ≤ 8) (hb : b ≤ 8) :
    Calls Try.prog 25 #[.slice A f.length c, .int .i64 (a : Int), .int .i64 (b : Int)] w fun e w' => e = .returned (.bool (fitsB f a b)) ∧ Keep NoF w w' := by
  have hoA : orA (compactL f) < 256 := (orA_lt (b := 8)).2 fun n hn => mA_lt (compact_own n hn)
  have hoF : orF (compactL f) < 256 := (orF_lt (b := 8)).2 fun n hn => mF_lt (compact_own n hn)
  have HA := Lib.hid fun W (hk : Keep NoF w W) => fmAgents_ex f A c W hll (hrd.kept hk fun _ _ h => h) compact_own
  have HF := Lib.hid fun W (hk : Keep NoF w W) => fmFacts_ex f A c W hll (hrd.kept hk fun _ _ h => h) compact_own
  have HC := Lib.hid (fmCheck_any f A c w hll hrd)
  have H1 := Lib.hid fun W => fits1_ex (orA (compactL f)) a W hoA ha
  have H2 := Lib.hid fun W => fits1_ex (orF (compactL f)) b W hoF hb
  unfold fitsB
  generalize checkE f = x at *
  generalize orA (compactL f) = mA at *
  generalize orF (compactL f) = mF at *
  generalize decide (mA < 2 ^ a) = p at *
  generalize decide (mF < 2 ^ b) = q at *
  clear hrd
  generalize f.length = n at *
  by_cases hx : x = 0
  · subst hx
    cases p
    · go_enter Try.func25, Try.ntmps25
      go_wp2_with (first
        | (go_at_call 21; (with_reducible refine HC.out.mono ?_); rintro e w1 ⟨rfl, K1⟩)
        | (go_at_call 51; (with_reducible refine (HA.out _ K1).mono ?_); rintro e w2 ⟨rfl, K2⟩; have k2 := K1.trans K2 fun _ _ h => h)
        | (go_at_call 50; (with_reducible refine (H1.out _).mono ?_); rintro e w3 ⟨rfl, K3⟩; have k3 := k2.trans K3 fun _ _ h => h))
      go_ret
      exact ⟨rfl, k3⟩
    · go_enter Try.func25, Try.ntmps25
      go_wp2_with (first
        | (go_at_call 21; (with_reducible refine HC.out.mono ?_); rintro e w1 ⟨rfl, K1⟩)
        | (go_at_call 51; (with_reducible refine (HA.out _ K1).mono ?_); rintro e w2 ⟨rfl, K2⟩; have k2 := K1.trans K2 fun _ _ h => h)
        | (go_at_call 50; (with_reducible refine (H1.out _).mono ?_); rintro e w3 ⟨rfl, K3⟩; have k3 := k2.trans K3 fun _ _ h => h; clear H1)
        | (go_at_call 52; (with_reducible refine (HF.out _ k3).mono ?_); rintro e w4 ⟨rfl, K4⟩; have k4 := k3.trans K4 fun _ _ h => h)
        | (go_at_call 50; (with_reducible refine (H2.out _).mono ?_); rintro e w5 ⟨rfl, K5⟩; have k5 := k4.trans K5 fun _ _ h => h))
      go_ret
      exact ⟨rfl, k5⟩
  · have hx' : (x == 0) = false := by simpa using hx
    have hd : decide (x = 0) = false := decide_eq_false hx
    rw [hd]
    go_enter Try.func25, Try.ntmps25
    go_wp2_with (go_at_call 21; (with_reducible refine HC.out.mono ?_); rintro e w1 ⟨rfl, K1⟩)
    go_ret
    exact ⟨rfl, K1⟩
end
end Go.Proofs.Ytmjdbbfoihadoaa
