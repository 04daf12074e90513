/- The number of worlds of a set: what the program's Count does. No condition. -/
import Derived.Test.YtckmhngcnimmdaaDoorWsM
set_option linter.unusedVariables false
set_option linter.unusedSimpArgs false
namespace Go.Proofs.YtckmhngcnimmdaaDoor
open Go.RowKit

/-! The bits of a number are counted in eight parts at once. -/
def m0 : Nat → Nat | 0 => 0 | n + 1 => 2 ^ 8 * m0 n + 85
def m1 : Nat → Nat | 0 => 0 | n + 1 => 2 ^ 8 * m1 n + 51
def m2 : Nat → Nat | 0 => 0 | n + 1 => 2 ^ 8 * m2 n + 15
def st1 (n x : Nat) : Nat := (x / 2 &&& m0 n) + (x &&& m0 n)
def st2 (n x : Nat) : Nat := (x / 4 &&& m1 n) + (x &&& m1 n)
def st3 (n x : Nat) : Nat := (x / 16 + x) &&& m2 n
def s1 (b : Nat) : Nat := (b / 2 &&& 85) + (b &&& 85)
def s2 (b : Nat) : Nat := (b / 4 &&& 51) + (b &&& 51)
def s3 (b : Nat) : Nat := (b / 16 + b) &&& 15

theorem and_split (y M b c : Nat) (hb : b < 2 ^ 8) (hc : c < 2 ^ 8) : (2 ^ 8 * y + b) &&& (2 ^ 8 * M + c) = 2 ^ 8 * (y &&& M) + (b &&& c) := by
  apply Nat.eq_of_testBit_eq
  intro i
  rw [Nat.testBit_and, Nat.testBit_two_pow_mul_add _ hb, Nat.testBit_two_pow_mul_add _ hc, Nat.testBit_two_pow_mul_add _ (Nat.and_lt_two_pow _ hc)]
  by_cases h : i < 8
  · simp [h]
  · simp [h]
theorem d1 : ∀ b, b < 256 → ∀ k, k < 2 → (b / 2 + 128 * k) &&& 85 = b / 2 &&& 85 := by decide +kernel
theorem d2 : ∀ b, b < 256 → ∀ k, k < 4 → (b / 4 + 64 * k) &&& 51 = b / 4 &&& 51 := by decide +kernel
theorem d3 : ∀ b, b < 103 → ∀ k, k < 7 → (b / 16 + 16 * k + b) &&& 15 = (b / 16 + b) &&& 15 := by decide +kernel
theorem s1_le : ∀ b, b < 256 → s1 b < 256 := by decide +kernel
theorem s2_le : ∀ b, b < 256 → s2 b < 103 := by decide +kernel
theorem st1_step (n y b : Nat) (hb : b < 256) : st1 (n + 1) (2 ^ 8 * y + b) = 2 ^ 8 * st1 n y + s1 b := by
  unfold st1 s1
  rw [show (2 ^ 8 * y + b) / 2 = 2 ^ 8 * (y / 2) + (b / 2 + 128 * (y % 2)) by omega, show m0 (n + 1) = 2 ^ 8 * m0 n + 85 from rfl, and_split _ _ _ _ (by omega) (by omega), and_split _ _ _ _ (by omega) (by omega), d1 b hb _ (by omega)]
  omega
theorem st2_step (n y b : Nat) (hb : b < 256) : st2 (n + 1) (2 ^ 8 * y + b) = 2 ^ 8 * st2 n y + s2 b := by
  unfold st2 s2
  rw [show (2 ^ 8 * y + b) / 4 = 2 ^ 8 * (y / 4) + (b / 4 + 64 * (y % 4)) by omega, show m1 (n + 1) = 2 ^ 8 * m1 n + 51 from rfl, and_split _ _ _ _ (by omega) (by omega), and_split _ _ _ _ (by omega) (by omega), d2 b hb _ (by omega)]
  omega
theorem m1_mod (n : Nat) : m1 n % 2 ^ 4 ≤ 3 := by
  cases n with
  | zero => decide
  | succ n => rw [show m1 (n + 1) = 2 ^ 8 * m1 n + 51 from rfl]; omega
theorem st2_mod (n x : Nat) : st2 n x % 16 ≤ 6 := by
  have h : ∀ z, (z &&& m1 n) % 2 ^ 4 ≤ 3 := fun z => by
    rw [Nat.and_mod_two_pow]
    exact Nat.le_trans Nat.and_le_right (m1_mod n)
  have h1 := h (x / 4)
  have h2 := h x
  unfold st2
  omega
theorem st3_step (n y b : Nat) (hb : b < 103) (hy : y % 16 ≤ 6) : st3 (n + 1) (2 ^ 8 * y + b) = 2 ^ 8 * st3 n y + s3 b := by
  unfold st3 s3
  rw [show (2 ^ 8 * y + b) / 16 + (2 ^ 8 * y + b) = 2 ^ 8 * (y / 16 + y) + (b / 16 + 16 * (y % 16) + b) by omega, show m2 (n + 1) = 2 ^ 8 * m2 n + 15 from rfl, and_split _ _ _ _ (by omega) (by omega), d3 b hb _ (by omega)]
def cn (n x : Nat) : Nat := st3 n (st2 n (st1 n x))
def pop8 (b : Nat) : Nat := s3 (s2 (s1 b))
theorem cn_step (n x : Nat) : cn (n + 1) x = 2 ^ 8 * cn n (x / 256) + pop8 (x % 256) := by
  unfold cn pop8
  have hb : x % 256 < 256 := Nat.mod_lt _ (by omega)
  have hx : st1 (n + 1) x = 2 ^ 8 * st1 n (x / 256) + s1 (x % 256) := by
    rw [← st1_step n _ _ hb]
    congr 1
    omega
  rw [hx, st2_step _ _ _ (s1_le _ hb), st3_step _ _ _ (s2_le _ (s1_le _ hb)) (st2_mod _ _)]
theorem cn_zero (x : Nat) : cn 0 x = 0 := Nat.and_zero _
theorem pop8_eq : ∀ b, b < 256 → pop8 b = (memTo b 8).length := by decide +kernel
theorem memTo_congr {s t k : Nat} (h : ∀ i, i < k → s.testBit i = t.testBit i) : memTo s k = memTo t k := by
  unfold memTo
  exact List.filter_congr fun i hi => h i (List.mem_range.1 hi)
theorem mem_part (x n : Nat) : (memTo x (8 + n)).length = pop8 (x % 256) + (memTo (x / 256) n).length := by
  have h1 : memTo x (8 + n) = memTo x 8 ++ ((List.range n).map (8 + ·)).filter x.testBit := by
    unfold memTo
    rw [List.range_add, List.filter_append]
  rw [h1, List.length_append, pop8_eq _ (Nat.mod_lt _ (by omega))]
  congr 1
  · rw [memTo_congr (s := x) (t := x % 256)]
    intro i hi
    rw [show (256 : Nat) = 2 ^ 8 from rfl, Nat.testBit_mod_two_pow]
    simp [hi]
  · rw [List.filter_map, List.length_map, memTo]
    congr 1
    apply List.filter_congr
    intro i _
    simp only [Function.comp]
    rw [show (256 : Nat) = 2 ^ 8 from rfl, Nat.testBit_div_two_pow]
    congr 1
    omega
theorem pop8_le (b : Nat) : pop8 (b % 256) ≤ 8 := by
  rw [pop8_eq _ (Nat.mod_lt _ (by omega))]
  exact memTo_len _ _

/-- The eight parts are added up. -/
theorem dv (a q B : Nat) (h : a < B) : (a + B * q) / B = q := by
  rw [Nat.add_mul_div_left _ _ (by omega), Nat.div_eq_of_lt h, Nat.zero_add]
theorem sumA (p0 p1 p2 p3 p4 p5 p6 p7 : Nat) :
    p0 + 256 * (p1 + 256 * p2 + 65536 * p3 + 16777216 * p4 + 4294967296 * p5 + 1099511627776 * p6 + 281474976710656 * p7) + (p1 + 256 * p2 + 65536 * p3 + 16777216 * p4 + 4294967296 * p5 + 1099511627776 * p6 + 281474976710656 * p7) =
    ((p0 + p1) + 256 * (p1 + p2)) + 65536 * ((p2 + p3) + 256 * (p3 + p4) + 65536 * (p4 + p5) + 16777216 * (p5 + p6) + 4294967296 * (p6 + p7) + 1099511627776 * p7) := by omega
theorem sumB (p0 p1 p2 p3 p4 p5 p6 p7 : Nat) :
    ((p0 + p1) + 256 * (p1 + p2)) + 65536 * ((p2 + p3) + 256 * (p3 + p4) + 65536 * (p4 + p5) + 16777216 * (p5 + p6) + 4294967296 * (p6 + p7) + 1099511627776 * p7) + ((p2 + p3) + 256 * (p3 + p4) + 65536 * (p4 + p5) + 16777216 * (p5 + p6) + 4294967296 * (p6 + p7) + 1099511627776 * p7) =
    ((p0 + p1 + p2 + p3) + 256 * (p1 + p2 + p3 + p4) + 65536 * (p2 + p3 + p4 + p5) + 16777216 * (p3 + p4 + p5 + p6)) + 4294967296 * ((p4 + p5 + p6 + p7) + 256 * (p5 + p6 + p7) + 65536 * (p6 + p7) + 16777216 * p7) := by omega
theorem sumC (p0 p1 p2 p3 p4 p5 p6 p7 : Nat) :
    ((p0 + p1 + p2 + p3) + 256 * (p1 + p2 + p3 + p4) + 65536 * (p2 + p3 + p4 + p5) + 16777216 * (p3 + p4 + p5 + p6)) + 4294967296 * ((p4 + p5 + p6 + p7) + 256 * (p5 + p6 + p7) + 65536 * (p6 + p7) + 16777216 * p7) + ((p4 + p5 + p6 + p7) + 256 * (p5 + p6 + p7) + 65536 * (p6 + p7) + 16777216 * p7) =
    (p0 + p1 + p2 + p3 + p4 + p5 + p6 + p7) + 128 * (2 * (p1 + p2 + p3 + p4) + 512 * (p2 + p3 + p4 + p5) + 131072 * (p3 + p4 + p5 + p6) + 33554432 * ((p4 + p5 + p6 + p7) + 256 * (p5 + p6 + p7) + 65536 * (p6 + p7) + 16777216 * p7) + (2 * (p5 + p6 + p7) + 512 * (p6 + p7) + 131072 * p7)) := by omega
theorem sum8 (p0 p1 p2 p3 p4 p5 p6 p7 y z u v : Nat) (h0 : p0 ≤ 8) (h1 : p1 ≤ 8) (h2 : p2 ≤ 8) (h3 : p3 ≤ 8) (h4 : p4 ≤ 8) (h5 : p5 ≤ 8) (h6 : p6 ≤ 8) (h7 : p7 ≤ 8)
    (hy : y = p0 + 256 * (p1 + 256 * p2 + 65536 * p3 + 16777216 * p4 + 4294967296 * p5 + 1099511627776 * p6 + 281474976710656 * p7))
    (hz : z = y + y / 256) (hu : u = z + z / 65536) (hv : v = u + u / 4294967296) : v % 128 = p0 + p1 + p2 + p3 + p4 + p5 + p6 + p7 ∧ v < 18446744073709551616 := by
  rw [hy, dv _ _ 256 (by omega), sumA] at hz
  rw [hz, dv _ _ 65536 (by omega), sumB] at hu
  have hlow : (p0 + p1 + p2 + p3) + 256 * (p1 + p2 + p3 + p4) + 65536 * (p2 + p3 + p4 + p5) + 16777216 * (p3 + p4 + p5 + p6) < 4294967296 := by clear hu hz hy hv; omega
  rw [hu, dv _ _ 4294967296 hlow, sumC] at hv
  constructor
  · rw [hv, Nat.add_mul_mod_self_left, Nat.mod_eq_of_lt]
    clear hu hz hy hv hlow
    omega
  · rw [hv]
    clear hu hz hy hv hlow
    omega

theorem count_plain (s x1 x2 x3 x4 x5 x6 : Nat) (h1 : x1 = st1 8 s) (h2 : x2 = st2 8 x1) (h3 : x3 = st3 8 x2) (h4 : x4 = x3 + x3 / 256) (h5 : x5 = x4 + x4 / 65536) (h6 : x6 = x5 + x5 / 4294967296) :
    x6 % 128 = (mem s).length ∧ x6 < 18446744073709551616 := by
  have e : x3 = cn 8 s := by rw [h3, h2, h1]; rfl
  have hm : (mem s).length = (memTo s (8 + (8 + (8 + (8 + (8 + (8 + (8 + (8 + 0)))))))) ).length := rfl
  rw [mem_part, mem_part, mem_part, mem_part, mem_part, mem_part, mem_part, mem_part] at hm
  rw [cn_step, cn_step, cn_step, cn_step, cn_step, cn_step, cn_step, cn_step, cn_zero] at e
  have b0 := pop8_le s
  have b1 := pop8_le (s / 256)
  have b2 := pop8_le (s / 256 / 256)
  have b3 := pop8_le (s / 256 / 256 / 256)
  have b4 := pop8_le (s / 256 / 256 / 256 / 256)
  have b5 := pop8_le (s / 256 / 256 / 256 / 256 / 256)
  have b6 := pop8_le (s / 256 / 256 / 256 / 256 / 256 / 256)
  have b7 := pop8_le (s / 256 / 256 / 256 / 256 / 256 / 256 / 256)
  rw [hm]
  generalize pop8 (s % 256) = p0 at *
  generalize pop8 (s / 256 % 256) = p1 at *
  generalize pop8 (s / 256 / 256 % 256) = p2 at *
  generalize pop8 (s / 256 / 256 / 256 % 256) = p3 at *
  generalize pop8 (s / 256 / 256 / 256 / 256 % 256) = p4 at *
  generalize pop8 (s / 256 / 256 / 256 / 256 / 256 % 256) = p5 at *
  generalize pop8 (s / 256 / 256 / 256 / 256 / 256 / 256 % 256) = p6 at *
  generalize pop8 (s / 256 / 256 / 256 / 256 / 256 / 256 / 256 % 256) = p7 at *
  have h0 : ∀ z, (memTo z 0).length = 0 := fun _ => rfl
  rw [h0]
  have := sum8 p0 p1 p2 p3 p4 p5 p6 p7 x3 x4 x5 x6 b0 b1 b2 b3 b4 b5 b6 b7 (by rw [e]; clear hm e b0 b1 b2 b3 b4 b5 b6 b7 h1 h2 h3 h4 h5 h6; omega) h4 h5 h6
  exact ⟨by rw [this.1]; clear this hm e b0 b1 b2 b3 b4 b5 b6 b7 h1 h2 h3 h4 h5 h6; omega, this.2⟩
end Go.Proofs.YtckmhngcnimmdaaDoor
