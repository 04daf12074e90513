/- Package formula: the masks of Agents and Facts; whether a formula fits. What Print answers, plain. The printer: a formula's text, whole; what Print answers. Conditions: the variables lie as they are read. The laws about the printer: names, prints, awake, few; the reference's Equal at equal lists. Conditions: the variables lie as they are read. No condition. -/
import Derived.Test.YtbidfbojealmlaaGreatDoorPcA
import Derived.Test.YtbidfbojealmlaaGreatDoorPrT
import Derived.Test.YtbidfbojealmlaaGreatDoorPrW
import Derived.Test.YtbidfbojealmlaaGreatDoorPaX
import Derived.Test.YtbidfbojealmlaaGreatDoorSgN
import Derived.Test.YtbidfbojealmlaaGreatDoorFmJL
set_option linter.unusedVariables false
set_option linter.unusedSimpArgs false
namespace Go.Proofs.YtbidfbojealmlaaGreatDoor
open Go.RowKit
open Fm (Nd checkE compactL cl usesX usesY usesAgent usesFact usesGroup usesEvent put ins Form)
/-- The masks of a list of nodes. -/
def orA (l : List Nd) : Nat := l.foldl (fun m n => m ||| mA n) 0
def orF (l : List Nd) : Nat := l.foldl (fun m n => m ||| mF n) 0
theorem take_snoc1 {l : List Nd} {k : Nat} {n : Nd} (h : l[k]? = some n) : l.take (k + 1) = l.take k ++ [n] := by rw [List.take_add_one, h]; rfl
theorem orA_snoc {l : List Nd} {k : Nat} {n : Nd} (h : l[k]? = some n) : orA (l.take (k + 1)) = orA (l.take k) ||| mA n := by rw [take_snoc1 h]; simp [orA]
theorem orF_snoc {l : List Nd} {k : Nat} {n : Nd} (h : l[k]? = some n) : orF (l.take (k + 1)) = orF (l.take k) ||| mF n := by rw [take_snoc1 h]; simp [orF]
theorem mA_lt {n : Nd} (h : Fm.own n.op n.i n.e n.g = true) : mA n < 2 ^ 8 := by
  obtain ⟨h1, h2, h3, h4, h5⟩ := own_ranges h
  unfold mA
  split
  · next ha =>
    obtain ⟨a1, a2⟩ := h1 ha
    have : n.i.toNat = 0 ∨ n.i.toNat = 1 ∨ n.i.toNat = 2 ∨ n.i.toNat = 3 := by omega
    rcases this with h | h | h | h <;> rw [h] <;> decide
  · omega
theorem mF_lt {n : Nd} (h : Fm.own n.op n.i n.e n.g = true) : mF n < 2 ^ 8 := by
  obtain ⟨h1, h2, h3, h4, h5⟩ := own_ranges h
  unfold mF
  split
  · next ha =>
    obtain ⟨a1, a2⟩ := h2 ha
    exact Nat.pow_lt_pow_right (by decide) (by omega)
  · decide
theorem or_le_iff {f : Nd → Nat} {b : Nat} : ∀ (l : List Nd) (m : Nat), l.foldl (fun m n => m ||| f n) m < 2 ^ b ↔ m < 2 ^ b ∧ ∀ n ∈ l, f n < 2 ^ b
  | [], m => by simp
  | n :: l, m => by
    rw [List.foldl_cons, or_le_iff l]
    constructor
    · rintro ⟨h1, h2⟩
      refine ⟨Nat.lt_of_le_of_lt Nat.left_le_or h1, fun x hx => ?_⟩
      rcases List.mem_cons.1 hx with rfl | hx
      · exact Nat.lt_of_le_of_lt Nat.right_le_or h1
      · exact h2 x hx
    · rintro ⟨h1, h2⟩
      exact ⟨Nat.or_lt_two_pow h1 (h2 n (by simp)), fun x hx => h2 x (by simp [hx])⟩
theorem orA_lt {l : List Nd} {b : Nat} : orA l < 2 ^ b ↔ ∀ n ∈ l, mA n < 2 ^ b := by
  unfold orA
  rw [or_le_iff]
  exact ⟨fun h => h.2, fun h => ⟨Nat.two_pow_pos b, h⟩⟩
theorem orF_lt {l : List Nd} {b : Nat} : orF l < 2 ^ b ↔ ∀ n ∈ l, mF n < 2 ^ b := by
  unfold orF
  rw [or_le_iff]
  exact ⟨fun h => h.2, fun h => ⟨Nat.two_pow_pos b, h⟩⟩
theorem compact_own {f : List Nd} : ∀ n ∈ compactL f, Fm.own n.op n.i n.e n.g = true := by
  by_cases h : checkE f = 0
  · intro n hn
    obtain ⟨k, hk⟩ := List.getElem?_of_mem hn
    exact Fm.compactL_own h k n hk
  · rw [Fm.compactL_bad h]
    intro n hn
    cases hn
theorem compact_200 (f : List Nd) : (compactL f).length ≤ 200 := by
  by_cases h : checkE f = 0
  · exact (Fm.compactL_len h).1
  · rw [Fm.compactL_bad h]; simp
section
set_option maxRecDepth 100000
set_option maxHeartbeats 4000000
theorem unionAx (f : List Nd) (A : Option Addr) (c : Nat) (w : World) (hll : f.length ≤ 9223372036854775807) (hrd : Rd w (.slice A f.length c) 6 f.length (fmC f))
    (hm : ∀ n ∈ compactL f, Fm.own n.op n.i n.e n.g = true) :
    Calls Tryz.prog 41 #[.slice A f.length c, .func (.func 43) #[] #[]] w fun e w' => e = .returned (.int .i64 (orA (compactL f) : Nat)) ∧ Keep NoF w w' := by
  have HC := Lib.hid (Compact_any f A c w hll hrd)
  have HM := Lib.hid hm
  have hl200 := compact_200 f
  have HU := Lib.hid fun (o : Int) (W : World) => uses_any W o
  clear hrd hm
  generalize compactL f = L at *
  generalize f.length = fl at *
  go_enter Tryz.func41, Tryz.ntmps41
  go_wp2_with (go_at_call 16; (with_reducible refine HC.out.mono ?_); rintro e w1 ⟨A1, c1, rfl, R1, K1, F1⟩)
  have HR := Lib.hid R1
  clear R1 F1
  go_loopw [5, 13] (fun v i wr => ∃ k m : Nat, v = .int .i64 (m : Int) ∧ i = .int .i64 (k : Int) ∧ k ≤ L.length ∧ m < 256 ∧ Hid (m = orA (L.take k)) ∧ Keep NoF w1 wr) (fun _ i _ => L.length - (intOf i).toNat)
  case atStart => exact ⟨0, 0, rfl, rfl, by omega, by omega, Lib.hid rfl, Keep.refl _ _⟩
  case round =>
    obtain ⟨k, m, rfl, rfl, hk, hm, HE, hkw⟩ := hrel
    by_cases hlt : k < L.length
    · have hx : L[k]? = some L[k] := List.getElem?_eq_getElem hlt
      obtain ⟨bl, off, rfl, _, hc1, x0, x1, x2, x3, x4, x5⟩ := (HR.out.kept hkw fun _ _ h => h).nd hx
      have ho := HM.out _ (List.getElem_mem hlt)
      have hmk := mA_lt ho
      have HE2 : Hid (m ||| mA L[k] = orA (L.take (k + 1))) := Lib.hid (by rw [HE.out, orA_snoc hx])
      clear hx
      generalize L[k] = n at *
      have HK := Lib.hid fun W : World => agents1_any n W ho
      have hor := or_small (a := m) (b := mA n) (by omega) (by omega)
      have hlt2 : m ||| mA n < 256 := Nat.or_lt_two_pow (n := 8) hm hmk
      have HO := Lib.hid fun W : World => HU.out n.op W
      generalize mA n = mm at *
      obtain ⟨op, i, e0, g, x, y⟩ := n
      simp only [useV, useC] at *
      clear ho
      generalize Fm.isOp op = bb at *
      generalize usesX op = b0 at *
      generalize usesY op = b1 at *
      generalize usesFact op = b2 at *
      generalize usesAgent op = b3 at *
      generalize usesGroup op = b4 at *
      generalize usesEvent op = b5 at *
      generalize fragN op = fr at *
      go_wp2_with (first
        | (go_at_call 75; (with_reducible refine (HO.out _).mono ?_); rintro e w2 ⟨rfl, K2⟩; obtain ⟨y0, y1, y2, y3, y4, y5, ysz⟩ := box6 K2; have ysl : wr.heap.size < w2.heap.size := ysz; have ysn : ¬ wr.heap.size = w2.heap.size := (by omega); have ysm : ¬ w2.heap.size = wr.heap.size := (by omega))
        | (go_at_call 43; (with_reducible refine (HK.out _).mono ?_); rintro e w3 ⟨rfl, K3⟩))
      go_roundw
      case rel => exact ⟨k + 1, m ||| mm, by go_num, by go_num, by omega, hlt2, HE2, (((hkw.alloc _).trans K2 fun _ _ h => h).alloc _).trans K3 fun _ _ h => h⟩
      case measure => simp only [intOf]; omega
    · go_wp2
      go_ret
      obtain rfl : k = L.length := by omega
      have he := HE.out
      rw [List.take_length] at he
      exact ⟨by rw [he]; rfl, K1.trans hkw fun _ _ h => h⟩
theorem fmAgents_ex (f : List Nd) (A : Option Addr) (c : Nat) (w : World) (hll : f.length ≤ 9223372036854775807) (hrd : Rd w (.slice A f.length c) 6 f.length (fmC f))
    (hm : ∀ n ∈ compactL f, Fm.own n.op n.i n.e n.g = true) :
    Calls Tryz.prog 20 #[.slice A f.length c] w fun e w' => e = .returned (.int .i64 (orA (compactL f) : Nat)) ∧ Keep NoF w w' := by
  have HU := Lib.hid (unionAx f A c w hll hrd hm)
  clear hrd hm
  generalize f.length = n at *
  go_enter Tryz.func20, Tryz.ntmps20
  go_wp2_with (go_at_call 41; (with_reducible refine HU.out.mono ?_); rintro e w1 ⟨rfl, K1⟩)
  go_ret
  exact ⟨rfl, K1⟩
theorem unionFx (f : List Nd) (A : Option Addr) (c : Nat) (w : World) (hll : f.length ≤ 9223372036854775807) (hrd : Rd w (.slice A f.length c) 6 f.length (fmC f))
    (hm : ∀ n ∈ compactL f, Fm.own n.op n.i n.e n.g = true) :
    Calls Tryz.prog 41 #[.slice A f.length c, .func (.func 42) #[] #[]] w fun e w' => e = .returned (.int .i64 (orF (compactL f) : Nat)) ∧ Keep NoF w w' := by
  have HC := Lib.hid (Compact_any f A c w hll hrd)
  have HM := Lib.hid hm
  have hl200 := compact_200 f
  have HU := Lib.hid fun (o : Int) (W : World) => uses_any W o
  clear hrd hm
  generalize compactL f = L at *
  generalize f.length = fl at *
  go_enter Tryz.func41, Tryz.ntmps41
  go_wp2_with (go_at_call 16; (with_reducible refine HC.out.mono ?_); rintro e w1 ⟨A1, c1, rfl, R1, K1, F1⟩)
  have HR := Lib.hid R1
  clear R1 F1
  go_loopw [5, 13] (fun v i wr => ∃ k m : Nat, v = .int .i64 (m : Int) ∧ i = .int .i64 (k : Int) ∧ k ≤ L.length ∧ m < 256 ∧ Hid (m = orF (L.take k)) ∧ Keep NoF w1 wr) (fun _ i _ => L.length - (intOf i).toNat)
  case atStart => exact ⟨0, 0, rfl, rfl, by omega, by omega, Lib.hid rfl, Keep.refl _ _⟩
  case round =>
    obtain ⟨k, m, rfl, rfl, hk, hm, HE, hkw⟩ := hrel
    by_cases hlt : k < L.length
    · have hx : L[k]? = some L[k] := List.getElem?_eq_getElem hlt
      obtain ⟨bl, off, rfl, _, hc1, x0, x1, x2, x3, x4, x5⟩ := (HR.out.kept hkw fun _ _ h => h).nd hx
      have ho := HM.out _ (List.getElem_mem hlt)
      have hmk := mF_lt ho
      have HE2 : Hid (m ||| mF L[k] = orF (L.take (k + 1))) := Lib.hid (by rw [HE.out, orF_snoc hx])
      clear hx
      generalize L[k] = n at *
      have HK := Lib.hid fun W : World => facts1_any n W ho
      have hor := or_small (a := m) (b := mF n) (by omega) (by omega)
      have hlt2 : m ||| mF n < 256 := Nat.or_lt_two_pow (n := 8) hm hmk
      have HO := Lib.hid fun W : World => HU.out n.op W
      generalize mF n = mm at *
      obtain ⟨op, i, e0, g, x, y⟩ := n
      simp only [useV, useC] at *
      clear ho
      generalize Fm.isOp op = bb at *
      generalize usesX op = b0 at *
      generalize usesY op = b1 at *
      generalize usesFact op = b2 at *
      generalize usesAgent op = b3 at *
      generalize usesGroup op = b4 at *
      generalize usesEvent op = b5 at *
      generalize fragN op = fr at *
      go_wp2_with (first
        | (go_at_call 75; (with_reducible refine (HO.out _).mono ?_); rintro e w2 ⟨rfl, K2⟩; obtain ⟨y0, y1, y2, y3, y4, y5, ysz⟩ := box6 K2; have ysl : wr.heap.size < w2.heap.size := ysz; have ysn : ¬ wr.heap.size = w2.heap.size := (by omega); have ysm : ¬ w2.heap.size = wr.heap.size := (by omega))
        | (go_at_call 42; (with_reducible refine (HK.out _).mono ?_); rintro e w3 ⟨rfl, K3⟩))
      go_roundw
      case rel => exact ⟨k + 1, m ||| mm, by go_num, by go_num, by omega, hlt2, HE2, (((hkw.alloc _).trans K2 fun _ _ h => h).alloc _).trans K3 fun _ _ h => h⟩
      case measure => simp only [intOf]; omega
    · go_wp2
      go_ret
      obtain rfl : k = L.length := by omega
      have he := HE.out
      rw [List.take_length] at he
      exact ⟨by rw [he]; rfl, K1.trans hkw fun _ _ h => h⟩
theorem fmFacts_ex (f : List Nd) (A : Option Addr) (c : Nat) (w : World) (hll : f.length ≤ 9223372036854775807) (hrd : Rd w (.slice A f.length c) 6 f.length (fmC f))
    (hm : ∀ n ∈ compactL f, Fm.own n.op n.i n.e n.g = true) :
    Calls Tryz.prog 19 #[.slice A f.length c] w fun e w' => e = .returned (.int .i64 (orF (compactL f) : Nat)) ∧ Keep NoF w w' := by
  have HU := Lib.hid (unionFx f A c w hll hrd hm)
  clear hrd hm
  generalize f.length = n at *
  go_enter Tryz.func19, Tryz.ntmps19
  go_wp2_with (go_at_call 41; (with_reducible refine HU.out.mono ?_); rintro e w1 ⟨rfl, K1⟩)
  go_ret
  exact ⟨rfl, K1⟩
theorem fits1_ex (m n : Nat) (w : World) (hm : m < 256) (hn : n ≤ 8) : Calls Tryz.prog 40 #[.int .i64 (m : Int), .int .i64 (n : Int)] w fun e w' => e = .returned (.bool (decide (m < 2 ^ n))) ∧ Keep NoF w w' := by
  have h31 : ¬ (31 : Int) ≤ (n : Int) := by omega
  have hz : ¬ (n : Int) < 0 := by omega
  have hz' : (0 : Int) ≤ (n : Int) := by omega
  have h64 : (n : Int) < 64 := by omega
  have hd : (((m : Int) / 2 ^ n) == 0) = decide (m < 2 ^ n) := by
    have e : (m : Int) / 2 ^ n = ((m / 2 ^ n : Nat) : Int) := by simp
    rw [e]
    by_cases h : m < 2 ^ n
    · rw [Nat.div_eq_of_lt h, decide_eq_true h]; rfl
    · rw [decide_eq_false h]
      have : 0 < m / 2 ^ n := Nat.div_pos (by omega) (Nat.two_pow_pos n)
      exact beq_eq_false_iff_ne.2 (by omega)
  generalize decide (m < 2 ^ n) = b at *
  go_enter Tryz.func40, Tryz.ntmps40
  go_wp2
  go_ret
  exact ⟨rfl, Keep.refl _ _⟩
/-- Whether a formula fits. -/
def fitsB (f : List Nd) (a b : Nat) : Bool := decide (checkE f = 0) && (decide (orA (compactL f) < 2 ^ a) && decide (orF (compactL f) < 2 ^ b))
theorem Fits_ex (f : List Nd) (A : Option Addr) (c a b : Nat) (w : World) (hll : f.length ≤ 9223372036854775807) (hrd : Rd w (.slice A f.length c) 6 f.length (fmC f)) (ha : a ≤ 8) (hb : b ≤ 8) :
    Calls Tryz.prog 18 #[.slice A f.length c, .int .i64 (a : Int), .int .i64 (b : Int)] w fun e w' => e = .returned (.bool (fitsB f a b)) ∧ Keep NoF w w' := by
  have hoA : orA (compactL f) < 256 := (orA_lt (b := 8)).2 fun n hn => mA_lt (compact_own n hn)
  have hoF : orF (compactL f) < 256 := (orF_lt (b := 8)).2 fun n hn => mF_lt (compact_own n hn)
  have HA := Lib.hid fun W (hk : Keep NoF w W) => fmAgents_ex f A c W hll (hrd.kept hk fun _ _ h => h) compact_own
  have HF := Lib.hid fun W (hk : Keep NoF w W) => fmFacts_ex f A c W hll (hrd.kept hk fun _ _ h => h) compact_own
  have HC := Lib.hid (fmCheck_any f A c w hll hrd)
  have H1 := Lib.hid fun W => fits1_ex (orA (compactL f)) a W hoA ha
  have H2 := Lib.hid fun W => fits1_ex (orF (compactL f)) b W hoF hb
  unfold fitsB
  generalize checkE f = x at *
  generalize orA (compactL f) = mA at *
  generalize orF (compactL f) = mF at *
  generalize decide (mA < 2 ^ a) = p at *
  generalize decide (mF < 2 ^ b) = q at *
  clear hrd
  generalize f.length = n at *
  by_cases hx : x = 0
  · subst hx
    cases p
    · go_enter Tryz.func18, Tryz.ntmps18
      go_wp2_with (first
        | (go_at_call 21; (with_reducible refine HC.out.mono ?_); rintro e w1 ⟨rfl, K1⟩)
        | (go_at_call 20; (with_reducible refine (HA.out _ K1).mono ?_); rintro e w2 ⟨rfl, K2⟩; have k2 := K1.trans K2 fun _ _ h => h)
        | (go_at_call 40; (with_reducible refine (H1.out _).mono ?_); rintro e w3 ⟨rfl, K3⟩; have k3 := k2.trans K3 fun _ _ h => h))
      go_ret
      exact ⟨rfl, k3⟩
    · go_enter Tryz.func18, Tryz.ntmps18
      go_wp2_with (first
        | (go_at_call 21; (with_reducible refine HC.out.mono ?_); rintro e w1 ⟨rfl, K1⟩)
        | (go_at_call 20; (with_reducible refine (HA.out _ K1).mono ?_); rintro e w2 ⟨rfl, K2⟩; have k2 := K1.trans K2 fun _ _ h => h)
        | (go_at_call 40; (with_reducible refine (H1.out _).mono ?_); rintro e w3 ⟨rfl, K3⟩; have k3 := k2.trans K3 fun _ _ h => h; clear H1)
        | (go_at_call 19; (with_reducible refine (HF.out _ k3).mono ?_); rintro e w4 ⟨rfl, K4⟩; have k4 := k3.trans K4 fun _ _ h => h)
        | (go_at_call 40; (with_reducible refine (H2.out _).mono ?_); rintro e w5 ⟨rfl, K5⟩; have k5 := k4.trans K5 fun _ _ h => h))
      go_ret
      exact ⟨rfl, k5⟩
  · have hx' : (x == 0) = false := by simpa using hx
    have hd : decide (x = 0) = false := decide_eq_false hx
    rw [hd]
    go_enter Tryz.func18, Tryz.ntmps18
    go_wp2_with (go_at_call 21; (with_reducible refine HC.out.mono ?_); rintro e w1 ⟨rfl, K1⟩)
    go_ret
    exact ⟨rfl, K1⟩
end
end Go.Proofs.YtbidfbojealmlaaGreatDoor
namespace Go.Proofs.YtbidfbojealmlaaGreatDoor
open Go.RowKit
open Fm (Nd own usesX usesY usesAgent usesFact usesGroup usesEvent put ins cl checkE compactL tr)
open Fm.Form

/-- What holds of all nodes of a formula. -/
def AllR (R : Int → Int → Int → Int → Prop) : Fm.Form → Prop
  | leaf op i e g => R op i e g
  | un op i e g x => R op i e g ∧ AllR R x
  | bin op i e g x y => R op i e g ∧ AllR R x ∧ AllR R y
theorem put_in (n : Nd) (o : List Nd) : n ∈ (put n o).2 := List.mem_of_getElem? (Fm.put_at n o)
theorem all_ins {R : Int → Int → Int → Int → Prop} : ∀ (t : Fm.Form) (o : List Nd), (∀ n ∈ (ins t o).2, R n.op n.i n.e n.g) → AllR R t
  | leaf op i e g, o, h => h _ (put_in ⟨op, i, e, g, 0, 0⟩ o)
  | un op i e g x, o, h => ⟨h _ (put_in ⟨op, i, e, g, ((ins x o).1 : Nat), 0⟩ (ins x o).2), all_ins x o fun n hn => h n ((Fm.put_prefix _ _).subset hn)⟩
  | bin op i e g x y, o, h => ⟨h _ (put_in ⟨op, i, e, g, ((ins x o).1 : Nat), ((ins y (ins x o).2).1 : Nat)⟩ (ins y (ins x o).2).2),
    all_ins x o fun n hn => h n ((Fm.put_prefix _ _).subset ((Fm.ins_prefix y _).subset hn)), all_ins y (ins x o).2 fun n hn => h n ((Fm.put_prefix _ _).subset hn)⟩
theorem nm_all {S : Sg} : ∀ {t : Fm.Form}, Fm.Good t → AllR (QS S) t → Nm S t
  | leaf .., h, q => ⟨h.1, q⟩
  | un .., h, q => ⟨h.1, h.2.1, q.1, nm_all h.2.2.2 q.2⟩
  | bin .., h, q => ⟨h.1, q.1, nm_all h.2.2.1 q.2.1, nm_all h.2.2.2 q.2.2⟩
/-- Whether all agents, facts and actions have names. -/
def actsB (l : List Nd) (c : Nat) : Bool := l.all fun n => !(decide (n.op = 17) && decide ((c : Int) ≤ n.i))
def okN (S : Sg) (l : List Nd) : Bool := fitsB l S.A.length S.F.length && actsB (compactL l) S.C.length
theorem nm_of {S : Sg} {l : List Nd} (h : okN S l = true) : Nm S (tr l) ∧ checkE l = 0 ∧ (cl (tr l)).length ≤ 200 := by
  unfold okN fitsB actsB at h
  simp only [Bool.and_eq_true, decide_eq_true_eq, List.all_eq_true, Bool.not_eq_true', Bool.and_eq_false_iff, decide_eq_false_iff_not] at h
  obtain ⟨⟨h0, hA, hF⟩, hC⟩ := h
  have hl := (Fm.compactL_len h0).1
  have hown := compact_own (f := l)
  rw [Fm.compactL_ok h0] at hA hF hC hl hown
  refine ⟨nm_all (Fm.tr_good h0) (all_ins _ [] fun n hn => ?_), h0, hl⟩
  have ho := hown n hn
  have ha := orA_lt.1 hA n hn
  have hf := orF_lt.1 hF n hn
  have hc := hC n hn
  obtain ⟨r1, r2, r3, r4, r5⟩ := own_ranges ho
  unfold mA at ha
  unfold mF at hf
  have pw : ∀ {a b : Nat}, 2 ^ a < 2 ^ b → a < b := fun h => (Nat.pow_lt_pow_iff_right (by decide)).1 h
  refine ⟨⟨ho, fun hu => ?_, fun hu => ?_, fun hu => ?_⟩, fun hu => ?_⟩
  · rw [if_pos hu] at ha
    have := pw ha
    have := r1 hu
    omega
  · rw [if_pos hu] at hf
    have := pw hf
    have := r2 hu
    omega
  · have hna : usesAgent n.op = false := by
      simp only [usesGroup, usesAgent, Bool.or_eq_true, decide_eq_true_eq, Bool.or_eq_false_iff, decide_eq_false_iff_not] at hu ⊢
      omega
    rw [if_neg (by rw [hna]; simp)] at ha
    have : ((n.g.toNat : Nat) : Int) < ((2 ^ S.A.length : Nat) : Int) := by exact_mod_cast ha
    rw [Int.toNat_of_nonneg r3] at this
    simpa using this
  · have h17 : n.op = 17 := by simpa [usesEvent] using hu
    rcases hc with h | h
    · exact absurd h17 h
    · omega
/-- What Print answers: the text, and the error. -/
def printF (S : Sg) (l : List Nd) : List UInt8 × Int := if checkS S ≠ 0 then ([], (checkS S : Int)) else if checkE l ≠ 0 then ([], checkE l) else if okN S l = false then ([], 2)
  else if 4000 < (prL S (tr l)).length then ([], 8) else (prL S (tr l), 0)
end Go.Proofs.YtbidfbojealmlaaGreatDoor
namespace Go.Proofs.YtbidfbojealmlaaGreatDoor
open Go.RowKit
open Fm (Nd own usesX usesY Rep cl checkE compactL tr)
open Fm.Form

theorem node_any {E : WE} (hE : E.Ok) (hF : FTab E.w0) : ∀ (t : Fm.Form), Nm E.S t → NdC E t
  | leaf op i e g, h => fun n k w o hrep hn hw => by
    obtain rfl : n = ⟨op, i, e, g, 0, 0⟩ := Option.some.inj (hn.symm.trans hrep)
    rcases leaf_cases h.1 h.2 with ⟨rfl | rfl, rfl, rfl, rfl⟩ | ⟨rfl, rfl, rfl, a, rfl, ha⟩
    · exact node_1 hE hF hw
    · exact node_2 hE hF hw
    · exact node_3 hE hF hw ha
  | un op i e g x, h => fun n k w o hrep hn hw => by
    obtain ⟨a, hx, h2⟩ := hrep
    obtain rfl : n = ⟨op, i, e, g, (a : Int), 0⟩ := Option.some.inj (hn.symm.trans h2)
    exact node_un hE hF hw h.1 h.2.1 h.2.2.1 hx (operand_of hE hF (node_any hE hF x h.2.2.2))
  | bin op i e g x y, h => fun n k w o hrep hn hw => by
    obtain ⟨a, b, hx, hy, h2⟩ := hrep
    obtain rfl : n = ⟨op, i, e, g, (a : Int), (b : Int)⟩ := Option.some.inj (hn.symm.trans h2)
    have HX := operand_of hE hF (node_any hE hF x h.2.2.1)
    have HY := operand_of hE hF (node_any hE hF y h.2.2.2)
    rcases bin_cases h.1 h.2.1 with ⟨ho, rfl, rfl, rfl⟩ | ⟨rfl, rfl, rfl, n, rfl, h0, hn16⟩ | ⟨rfl, rfl, rfl, a, rfl, ha⟩
    · by_cases h16 : op = 16
      · subst h16
        have e1 : prL E.S (bin 16 0 0 0 x y) = [91, 33] ++ (prL E.S x ++ ([93] ++ parL (lvO (top y)) 5 (prL E.S y))) := by rw [prL, if_pos rfl]
        rw [e1]
        exact node_16 hE hF hw hx hy HX HY
      · have hin : isIn op = true := by
          have hops : op = 5 ∨ op = 6 ∨ op = 7 ∨ op = 8 ∨ op = 19 ∨ op = 21 := by omega
          rcases hops with rfl | rfl | rfl | rfl | rfl | rfl <;> rfl
        have e1 : prL E.S (bin op 0 0 0 x y) = parL (lvO (top x)) (ltO op) (prL E.S x) ++ (sgL op ++ parL (lvO (top y)) (rtO op) (prL E.S y)) := by rw [prL, if_neg h16, if_neg (by omega)]
        rw [e1]
        exact node_in hE hF hw hin hx hy HX HY
    · have e1 : prL E.S (bin 13 0 0 (n : Int) x y) = cnL E.S 13 0 (n : Int) ++ (cdL x (prL E.S x) ++ ([93] ++ parL (lvO (top y)) 5 (prL E.S y))) := by rw [prL, if_neg (by decide), if_pos (.inl rfl)]
      rw [e1]
      have hA := (checkS_ok hE.chk).lA
      exact node_13 hE hF hw (Nat.lt_of_lt_of_le hn16 (Nat.pow_le_pow_right (n := 2) (by omega) hA)) hx hy HX HY
    · have e1 : prL E.S (bin 14 (a : Int) 0 0 x y) = cnL E.S 14 (a : Int) 0 ++ (cdL x (prL E.S x) ++ ([93] ++ parL (lvO (top y)) 5 (prL E.S y))) := by rw [prL, if_neg (by decide), if_pos (.inr rfl)]
      rw [e1]
      exact node_14 hE hF hw ha hx hy HX HY
theorem hd_ne (S : Sg) (op i e g : Int) : hdL S op i e g ≠ [] := by
  unfold hdL
  repeat' split
  all_goals simp
theorem prL_ne {S : Sg} (hS : checkS S = 0) : ∀ t : Fm.Form, Nm S t → prL S t ≠ []
  | leaf op i e g, h => by
    rcases leaf_cases h.1 h.2 with ⟨rfl | rfl, rfl, rfl, rfl⟩ | ⟨rfl, rfl, rfl, a, rfl, ha⟩
    · exact (by decide : ([116, 114, 117, 101] : List UInt8) ≠ [])
    · exact (by decide : ([102, 97, 108, 115, 101] : List UInt8) ≠ [])
    · exact (wd_name (nm_ok hS subF ha)).ne
  | un op i e g x, h => by
    rw [prL]
    intro e2
    exact hd_ne S op i e g (List.append_eq_nil_iff.1 e2).1
  | bin op i e g x y, h => by
    rw [prL]
    split
    · simp
    · split
      · simp
      · have : sgL op ≠ [] := by
          unfold sgL
          repeat' split
          all_goals simp
        intro e2
        exact this (List.append_eq_nil_iff.1 (List.append_eq_nil_iff.1 e2).2).1
def PrPost (S : Sg) (l : List Nd) (w : World) (e : Ending) (w' : World) : Prop := e = .returned (.tuple #[.string (txt (printF S l).1), .int .i64 (printF S l).2]) ∧ Keep NoF w w'
theorem PrPost.err {S : Sg} {l : List Nd} {w w' : World} {x : Int} (h : printF S l = ([], x)) (hk : Keep NoF w w') : PrPost S l w (.returned (.tuple #[.string ⟨#[]⟩, .int .i64 x])) w' := ⟨by rw [h]; rfl, hk⟩
section
set_option maxRecDepth 100000
set_option maxHeartbeats 4000000
theorem Print_any (S : Sg) (a f c : Option Addr) (ca cf cc : Nat) (l : List Nd) (A : Option Addr) (cA : Nat) (w : World) (hS : SigR w S a ca f cf c cc) (hT : Tab w) (hF : FTab w) (hll : l.length ≤ 9223372036854775807) (hrd : Rd w (.slice A l.length cA) 6 l.length (fmC l)) :
    Calls Tryz.prog 12 #[.agg #[.slice a S.A.length ca, .slice f S.F.length cf, .slice c S.C.length cc], .slice A l.length cA] w (PrPost S l w) := by
  have hK0 : Keep NoF w (w.alloc (.cells (boxS S a ca f cf c cc) 24)) := (Keep.refl _ _).alloc _
  have HC := Lib.hid (Check_any S a f c ca cf cc _ (hS.keep hK0) (hT.keep0 hK0))
  have HB := Lib.hid (fun w' => @box_cells w w' S a f c ca cf cc 24)
  have HS := Lib.hid hS
  have HT := Lib.hid hT
  have HRD := Lib.hid hrd
  have HFC := Lib.hid fun W (hk : Keep NoF w W) => fmCheck_any l A cA W hll (hrd.kept hk fun _ _ h => h)
  have HCO := Lib.hid fun W (hk : Keep NoF w W) => Compact_any l A cA W hll (hrd.kept hk fun _ _ h => h)
  unfold boxS at *
  have HKW : Hid (∀ v, Keep NoF (w.alloc (.cells #[.slice a S.A.length ca, .slice f S.F.length cf, .slice c S.C.length cc] 24)) v → Keep NoF w v) := Lib.hid fun v h => hK0.trans h fun _ _ h => h
  by_cases h0 : checkS S = 0
  · have hOk := checkS_ok h0
    have HFT := Lib.hid fun W (hk : Keep NoF w W) => Fits_ex l A cA S.A.length S.F.length W hll (hrd.kept hk fun _ _ h => h) (by have := hOk.lA; omega) hOk.lF
    have HH0 := Lib.hid h0
    have HFT0 := Lib.hid hF
    rw [h0] at HC
    clear h0 hS hT hrd hF hOk
    by_cases h1 : checkE l = 0
    · have HE0 := Lib.hid h1
      rw [h1] at HFC
      have hcl : compactL l = cl (tr l) := Fm.compactL_ok h1
      have HCL := Lib.hid hcl
      have h200 := (Fm.compactL_len h1).1
      have hpos := (Fm.compactL_len h1).2
      generalize hL : compactL l = L at *
      have HLL := Lib.hid hL
      clear h1 hcl hL
      generalize hll' : l.length = ll at *
      cases hb : fitsB l S.A.length S.F.length with
      | false =>
        have HPF : Hid (printF S l = ([], 2)) := Lib.hid (by
          unfold printF
          rw [if_neg (by rw [HH0.out]; simp), if_neg (by rw [HE0.out]; simp), if_pos]
          unfold okN
          rw [hb]; rfl)
        rw [hb] at HFT
        clear hb hll'
        go_enter Tryz.func12, Tryz.ntmps12
        go_wp2_with (first
          | (go_at_call 27; (with_reducible refine HC.out.mono ?_); rintro e w1 ⟨rfl, K1⟩; obtain ⟨c0, c1, c2, hsz⟩ := HB.out w1 K1; have k1 := HKW.out _ K1)
          | (go_at_call 21; (with_reducible refine (HFC.out _ k1).mono ?_); rintro e w2 ⟨rfl, K2⟩; have k2 := k1.trans K2 fun _ _ h => h)
          | (go_at_call 16; (with_reducible refine (HCO.out _ k2).mono ?_); rintro e w3 ⟨A3, a3, rfl, R3, K3, F3⟩; have k3 := k2.trans K3 fun _ _ h => h; have k13 := K2.trans K3 fun _ _ h => h; obtain ⟨d0, d1, d2, hsz3⟩ := HB.out w3 (K1.trans k13 fun _ _ h => h))
          | (go_at_call 18; (with_reducible refine (HFT.out _ k3).mono ?_); rintro e w4 ⟨rfl, K4⟩; have k4 := k3.trans K4 fun _ _ h => h))
        refine bodyPost_ret (v := .tuple #[.string ⟨#[]⟩, .int .i64 2]) (by simp [results, Tryz.results12, go_sem]) rfl ?_
        exact PrPost.err HPF.out k4
      | true =>
        have HFB := Lib.hid hb
        rw [hb] at HFT
        clear hb hll'
        go_enter Tryz.func12, Tryz.ntmps12
        go_upto_region 11 with (first
          | (go_at_call 27; (with_reducible refine HC.out.mono ?_); rintro e w1 ⟨rfl, K1⟩; obtain ⟨c0, c1, c2, hsz⟩ := HB.out w1 K1; have k1 := HKW.out _ K1)
          | (go_at_call 21; (with_reducible refine (HFC.out _ k1).mono ?_); rintro e w2 ⟨rfl, K2⟩; have k2 := k1.trans K2 fun _ _ h => h)
          | (go_at_call 16; (with_reducible refine (HCO.out _ k2).mono ?_); rintro e w3 ⟨A3, a3, rfl, R3, K3, F3⟩; have k3 := k2.trans K3 fun _ _ h => h; have k13 := K2.trans K3 fun _ _ h => h; obtain ⟨d0, d1, d2, hsz3⟩ := HB.out w3 (K1.trans k13 fun _ _ h => h))
          | (go_at_call 18; (with_reducible refine (HFT.out _ k3).mono ?_); rintro e w4 ⟨rfl, K4⟩; have k4 := k3.trans K4 fun _ _ h => h; have k14 := (K1.trans k13 fun _ _ h => h).trans K4 fun _ _ h => h; have HR4 := Lib.hid (R3.kept K4 fun _ _ h => h)))
        clear R3 F3 c0 c1 c2 d0 d1 d2
        go_loopw [35] (fun kv wr => ∃ k : Nat, kv = .int .i64 (k : Int) ∧ k ≤ L.length ∧ Hid (∀ j n, j < k → L[j]? = some n → ¬ (n.op = 17 ∧ (S.C.length : Int) ≤ n.i)) ∧ Keep NoF w4 wr) (fun kv _ => L.length - (intOf kv).toNat)
        case atStart => exact ⟨0, rfl, by omega, Lib.hid fun j n hj => by omega, Keep.refl _ _⟩
        case round =>
          obtain ⟨k, rfl, hk, HN, hkr⟩ := hrel
          have kwr := k14.trans hkr fun _ _ h => h
          obtain ⟨e0, e1, e2, hsz4⟩ := HB.out wr kwr
          have kW := k4.trans hkr fun _ _ h => h
          have l1 : w.heap.size < wr.heap.size := by omega
          have l2 : ¬ w.heap.size = wr.heap.size := by omega
          have l3 : ¬ wr.heap.size = w.heap.size := by omega
          by_cases hlt : k < L.length
          · have hx : L[k]? = some L[k] := List.getElem?_eq_getElem hlt
            obtain ⟨bl, off, hA3, _, hc1, x0, x1, x2, x3, x4, x5⟩ := (HR4.out.kept hkr fun _ _ h => h).nd hx
            have HX := Lib.hid hx
            rw [hA3]
            clear hx hA3
            generalize L[k] = n at *
            have b1 : (0 : Int) ≤ (k : Int) := by omega
            have b2 : (k : Int) < (L.length : Int) := by omega
            obtain ⟨op, i, ee, g, x, y⟩ := n
            simp only at x0 x1 x2 x3 x4 x5
            by_cases hop : op = 17
            · subst hop
              by_cases hi : (S.C.length : Int) ≤ i
              · have HPF : Hid (printF S l = ([], 2)) := Lib.hid (by
                  unfold printF
                  rw [if_neg (by rw [HH0.out]; simp), if_neg (by rw [HE0.out]; simp), if_pos]
                  unfold okN
                  rw [HFB.out, HLL.out, Bool.true_and]
                  unfold actsB
                  rw [List.all_eq_false]
                  exact ⟨_, List.mem_of_getElem? HX.out, by simp [hi]⟩)
                go_wp2
                refine bodyPost_ret (v := .tuple #[.string ⟨#[]⟩, .int .i64 2]) (by simp [results, Tryz.results12, go_sem]) rfl ?_
                exact PrPost.err HPF.out (kW.alloc _)
              · have HN2 : Hid (∀ j n, j < k + 1 → L[j]? = some n → ¬ (n.op = 17 ∧ (S.C.length : Int) ≤ n.i)) := Lib.hid fun j n hj hn => if h : j < k then HN.out j n h hn else (by
                  obtain rfl : j = k := by omega
                  obtain rfl := Option.some.inj (hn.symm.trans HX.out)
                  exact fun h => hi h.2)
                go_wp2
                go_roundw
                case rel => exact ⟨k + 1, by go_num, by omega, HN2, hkr.alloc _⟩
                case measure => simp only [intOf]; omega
            · have HN2 : Hid (∀ j n, j < k + 1 → L[j]? = some n → ¬ (n.op = 17 ∧ (S.C.length : Int) ≤ n.i)) := Lib.hid fun j n hj hn => if h : j < k then HN.out j n h hn else (by
                obtain rfl : j = k := by omega
                obtain rfl := Option.some.inj (hn.symm.trans HX.out)
                exact fun h => hop h.1)
              go_wp2
              go_roundw
              case rel => exact ⟨k + 1, by go_num, by omega, HN2, hkr.alloc _⟩
              case measure => simp only [intOf]; omega
          · obtain rfl : k = L.length := by omega
            have hok : okN S l = true := by
              unfold okN
              rw [HFB.out, HLL.out, Bool.true_and]
              unfold actsB
              rw [List.all_eq_true]
              intro n hn
              obtain ⟨j, hj⟩ := List.getElem?_of_mem hn
              have := HN.out j n (List.getElem?_eq_some_iff.1 hj).1 hj
              by_cases h17 : n.op = 17
              · have : ¬ (S.C.length : Int) ≤ n.i := fun h => this ⟨h17, h⟩
                simp [this]
              · simp [h17]
            have hNm := (nm_of hok).1
            have hne := prL_ne HH0.out (tr l) hNm
            have hE : WE.Ok ⟨wr, wr.heap.size, S, a, ca, f, cf, c, cc, L, A3, a3⟩ := ⟨Nat.le_refl _, HS.out.keep kW, HR4.out.kept hkr fun _ _ h => h, HH0.out, h200⟩
            have hrep : Rep (tr l) L (L.length - 1) := by
              have := Fm.cl_rep (t := tr l) (Fm.tr_good HE0.out).fit
              rwa [← HCL.out] at this
            have hfin : printF S l = if 4000 < (prL S (tr l)).length then ([], 8) else (prL S (tr l), 0) := by
              unfold printF
              rw [if_neg (by rw [HH0.out]; simp), if_neg (by rw [HE0.out]; simp), if_neg (by rw [hok]; simp)]
            have hop := operand_of hE (HFT0.out.keep0 kW) (node_any hE (HFT0.out.keep0 kW) (tr l) hNm)
            generalize hEd : (⟨wr, wr.heap.size, S, a, ca, f, cf, c, cc, L, A3, a3⟩ : WE) = E at *
            have hEb : E.b = wr.heap.size := by rw [← hEd]
            have hEw : E.w0 = wr := by rw [← hEd]
            have hEs : E.S = S := by rw [← hEd]
            have hEo : E.o = L := by rw [← hEd]
            have hcells : E.cells (.pointer none) (.slice none 0 0) false = #[.slice a S.A.length ca, .slice f S.F.length cf, .slice c S.C.length cc, .slice A3 L.length a3, .pointer none, .slice none 0 0, .bool false] := by rw [← hEd]; rfl
            have hW : WS E (wr.alloc (.cells #[.slice a S.A.length ca, .slice f S.F.length cf, .slice c S.C.length cc, .slice A3 L.length a3, .pointer none, .slice none 0 0, .bool false] 56)) (some []) := by
              refine ⟨by simp, .pointer none, .slice none 0 0, .inl rfl, ?_, ?_, World.ownsRow_nil _ _ _ _⟩
              · rw [hEw]; exact (Keep.refl _ _).alloc _
              · rw [hcells, hEb]; exact Bk.new _ _ _
            have hptr : E.ptr = .pointer (some ⟨wr.heap.size, 0, none⟩) := by show Value.pointer (some ⟨E.b, 0, none⟩) = _; rw [hEb]
            have hbp : E.bp = .pointer (some ⟨wr.heap.size, 4, none⟩) := by show Value.pointer (some ⟨E.b, 4, none⟩) = _; rw [hEb]
            have HO := hop.zero (k := L.length - 1) (by rw [hEo]; exact hrep) hW
            rw [hptr, hEs, show ((L.length - 1 : Nat) : Int) = (L.length : Int) - 1 by omega] at HO
            have HCW : Hid (∀ v o, WS E v o → v.cell? ⟨wr.heap.size, 6, none⟩ = some (.bool o.isNone) ∧ Keep NoF w v) := Lib.hid fun v o h => by
              obtain ⟨bs, hb, hst⟩ := h.some_
              have c6 := hst.cells.2.2.2.2
              rw [hEb] at c6
              refine ⟨c6, kW.trans (by have := h.kp; rwa [hEw] at this) fun _ _ h => h⟩
            have HST : Hid (∀ v bs, WS E v (some bs) → bs ≠ [] → Calls Tryz.prog 29 #[.pointer (some ⟨wr.heap.size, 4, none⟩)] v fun e w' => e = .returned (.string (txt bs)) ∧ Keep NoF w w') := Lib.hid fun v bs h hn => by
              have := bString_any h.2 hE hn (by have := h.1; omega)
              rw [hbp, hEw] at this
              refine this.mono ?_
              rintro e w' ⟨rfl, hk⟩
              exact ⟨rfl, kW.trans hk fun _ _ h => h⟩
            have HO' := Lib.hid HO
            have HFN := Lib.hid hfin
            have HNE := Lib.hid hne
            clear HO hop hW hE hEd hEb hEw hEs hEo hcells hptr hbp hrep hfin hne hNm hok HN
            by_cases hbig : 4000 < (prL S (tr l)).length
            · have HPF : Hid (printF S l = ([], 8)) := Lib.hid (by rw [HFN.out, if_pos hbig])
              have hput : putO (some []) (prL S (tr l)) = none := by simp [putO, hbig]
              rw [hput] at HO'
              clear hbig hput HFN
              go_wp2_with (go_at_call 28; (with_reducible refine HO'.out.mono ?_); rintro e w5 ⟨rfl, h5, k5⟩; obtain ⟨c6', kw5⟩ := HCW.out _ _ h5; have c6 : w5.cell? ⟨wr.heap.size, 6, none⟩ = some (.bool true) := c6'; clear h5 k5 c6')
              refine bodyPost_ret (v := .tuple #[.string ⟨#[]⟩, .int .i64 8]) (by simp [results, Tryz.results12, go_sem]) rfl ?_
              exact PrPost.err HPF.out kw5
            · have HPF : Hid (printF S l = (prL S (tr l), 0)) := Lib.hid (by rw [HFN.out, if_neg hbig])
              have hput : putO (some []) (prL S (tr l)) = some (prL S (tr l)) := by simp [putO]; omega
              rw [hput] at HO'
              clear hbig hput HFN
              generalize prL S (tr l) = pt at *
              go_wp2_with (first
                | (go_at_call 28; (with_reducible refine HO'.out.mono ?_); rintro e w5 ⟨rfl, h5, k5⟩; obtain ⟨c6', kw5⟩ := HCW.out _ _ h5; have c6 : w5.cell? ⟨wr.heap.size, 6, none⟩ = some (.bool false) := c6'; have H6 := Lib.hid (HST.out w5 _ h5 HNE.out); clear h5 k5 c6')
                | (go_at_call 29; (with_reducible refine H6.out.mono ?_); rintro e w6 ⟨rfl, kw6⟩))
              refine bodyPost_ret (v := .tuple #[.string (txt pt), .int .i64 0]) (by simp [results, Tryz.results12, go_sem]) rfl ?_
              exact ⟨by rw [HPF.out], kw6⟩
    · have HPF : Hid (printF S l = ([], checkE l)) := Lib.hid (by unfold printF; rw [if_neg (by rw [HH0.out]; simp), if_pos h1])
      generalize checkE l = x at *
      have hx : (x != 0) = true := by simpa using h1
      clear h1
      generalize l.length = ll at *
      go_enter Tryz.func12, Tryz.ntmps12
      go_wp2_with (first
        | (go_at_call 27; (with_reducible refine HC.out.mono ?_); rintro e w1 ⟨rfl, K1⟩; obtain ⟨c0, c1, c2, hsz⟩ := HB.out w1 K1; have k1 := HKW.out _ K1)
        | (go_at_call 21; (with_reducible refine (HFC.out _ k1).mono ?_); rintro e w2 ⟨rfl, K2⟩; have k2 := k1.trans K2 fun _ _ h => h))
      refine bodyPost_ret (v := .tuple #[.string ⟨#[]⟩, .int .i64 x]) (by simp [results, Tryz.results12, go_sem]) rfl ?_
      exact PrPost.err HPF.out k2
  · have HPF : Hid (printF S l = ([], (checkS S : Int))) := Lib.hid (by unfold printF; rw [if_pos h0])
    generalize checkS S = n at *
    have hn : ((n : Int) != 0) = true := by simp; omega
    clear hS hT hF hrd
    generalize l.length = ll at *
    go_enter Tryz.func12, Tryz.ntmps12
    go_wp2_with (go_at_call 27; (with_reducible refine HC.out.mono ?_); rintro e w1 ⟨rfl, K1⟩; have k1 := HKW.out _ K1)
    refine bodyPost_ret (v := .tuple #[.string ⟨#[]⟩, .int .i64 (n : Int)]) (by simp [results, Tryz.results12, go_sem]) rfl ?_
    exact PrPost.err HPF.out k1
end
end Go.Proofs.YtbidfbojealmlaaGreatDoor
namespace Go.Proofs.YtbidfbojealmlaaGreatDoor
open Go.RowKit
open Fm (Nd cl checkE compactL tr)

/-- The variables that the printer's laws read. -/
structure Tabs (w : World) : Prop where
  t : Tab w
  f : FTab w
theorem Tabs.keep0 {w w' : World} (h : Tabs w) (hk : Keep NoF w w') : Tabs w' := ⟨h.t.keep0 hk, h.f.keep0 hk⟩
section
set_option maxRecDepth 100000
set_option maxHeartbeats 4000000
theorem print_eq {S : Sg} {a f c : Option Addr} {ca cf cc : Nat} {l : List Nd} {s : List UInt8} {x : Int} {A : Option Addr} {cA : Nat} {w : World} (hp : printF S l = (s, x)) (hS : SigR w S a ca f cf c cc) (hT : Tabs w) (hll : l.length ≤ 9223372036854775807) (hrd : Rd w (.slice A l.length cA) 6 l.length (fmC l)) :
    Calls Tryz.prog 12 #[.agg #[.slice a S.A.length ca, .slice f S.F.length cf, .slice c S.C.length cc], .slice A l.length cA] w fun e w' => e = .returned (.tuple #[.string (txt s), .int .i64 x]) ∧ Keep NoF w w' := by
  have := Print_any S a f c ca cf cc l A cA w hS hT.t hT.f hll hrd
  unfold PrPost at this
  rw [hp] at this
  exact this
theorem parse_eq7 {S : Sg} {a f c : Option Addr} {ca cf cc : Nat} {t : ByteArray} {l : List Nd} {p x : Int} {w : World} (hp : parseF S t = (l, p, x)) (hS : SigR w S a ca f cf c cc) (hT : Tabs w) (ht : t.size ≤ 9223372036854775807) :
    Calls Tryz.prog 14 #[.agg #[.slice a S.A.length ca, .slice f S.F.length cf, .slice c S.C.length cc], .string t] w fun e w' => ∃ (A : Option Addr) (c : Nat), e = .returned (.tuple #[.slice A l.length c, .int .i64 p, .int .i64 x]) ∧ Rd w' (.slice A l.length c) 6 l.length (fmC l) ∧ Keep NoF w w' := by
  have := Parse_any S a f c ca cf cc t w hS hT.t ht
  unfold ParPost at this
  rw [hp] at this
  exact this
theorem lawnames_any (w : World) : Calls Tryz.prog 47 #[] w fun e w' => ∃ a f c : Option Addr, e = .returned (.agg #[.slice a 2 2, .slice f 3 3, .slice c 1 1]) ∧ SigR w' SE a 2 f 3 c 1 ∧ Keep NoF w w' := by
  go_enter Tryz.func47, Tryz.ntmps47
  go_wp2
  refine bodyPost_ret (v := .agg #[.slice (some ⟨w.heap.size + 1, 0, none⟩) 2 2, .slice (some ⟨w.heap.size + 1 + 1, 0, none⟩) 3 3, .slice (some ⟨w.heap.size + 1 + 1 + 1, 0, none⟩) 1 1]) (by simp [results, Tryz.results47, go_sem]) rfl ?_
  have h1 := rd_litP (w.alloc (.cells #[.slice (some ⟨w.heap.size + 1, 0, none⟩) 2 2, .slice (some ⟨w.heap.size + 1 + 1, 0, none⟩) 3 3, .slice (some ⟨w.heap.size + 1 + 1 + 1, 0, none⟩) 1 1] 24)) SE.A 2 (by omega) rfl
  have h2 := rd_litP ((w.alloc (.cells #[.slice (some ⟨w.heap.size + 1, 0, none⟩) 2 2, .slice (some ⟨w.heap.size + 1 + 1, 0, none⟩) 3 3, .slice (some ⟨w.heap.size + 1 + 1 + 1, 0, none⟩) 1 1] 24)).alloc (.cells (strs SE.A).toArray 9)) SE.F 3 (by omega) rfl
  have h3 := rd_litP (((w.alloc (.cells #[.slice (some ⟨w.heap.size + 1, 0, none⟩) 2 2, .slice (some ⟨w.heap.size + 1 + 1, 0, none⟩) 3 3, .slice (some ⟨w.heap.size + 1 + 1 + 1, 0, none⟩) 1 1] 24)).alloc (.cells (strs SE.A).toArray 9)).alloc (.cells (strs SE.F).toArray 9)) SE.C 1 (by omega) rfl
  simp only [World.size_alloc] at h1 h2 h3
  refine ⟨_, _, _, rfl, ⟨?_, ?_, h3, by decide +kernel, by decide, by decide, by decide⟩, ((((Keep.refl _ _).alloc _).alloc _).alloc _).alloc _⟩
  · exact h1.kept (((Keep.refl NoF _).alloc _).alloc _) fun _ _ h => h
  · exact h2.kept ((Keep.refl NoF _).alloc _) fun _ _ h => h
theorem print_SE7 {a f c : Option Addr} {l : List Nd} {s : List UInt8} {x : Int} {A : Option Addr} {cA : Nat} {w : World} (hp : printF SE l = (s, x)) (hS : SigR w SE a 2 f 3 c 1) (hT : Tabs w) (hll : l.length ≤ 9223372036854775807) (hrd : Rd w (.slice A l.length cA) 6 l.length (fmC l)) :
    Calls Tryz.prog 12 #[.agg #[.slice a 2 2, .slice f 3 3, .slice c 1 1], .slice A l.length cA] w fun e w' => e = .returned (.tuple #[.string (txt s), .int .i64 x]) ∧ Keep NoF w w' := by
  have := print_eq (S := SE) (ca := 2) (cf := 3) (cc := 1) hp hS hT hll hrd
  exact this
theorem parse_SE7 {a f c : Option Addr} {t : ByteArray} {l : List Nd} {p x : Int} {w : World} (hp : parseF SE t = (l, p, x)) (hS : SigR w SE a 2 f 3 c 1) (hT : Tabs w) (ht : t.size ≤ 9223372036854775807) :
    Calls Tryz.prog 14 #[.agg #[.slice a 2 2, .slice f 3 3, .slice c 1 1], .string t] w fun e w' => ∃ (A : Option Addr) (c : Nat), e = .returned (.tuple #[.slice A l.length c, .int .i64 p, .int .i64 x]) ∧ Rd w' (.slice A l.length c) 6 l.length (fmC l) ∧ Keep NoF w w' := by
  have := parse_eq7 (S := SE) (ca := 2) (cf := 3) (cc := 1) hp hS hT ht
  exact this
theorem fewP_any (S : Sg) (a f c : Option Addr) (ca cf cc : Nat) (n : Nat) (A : Option Addr) (cA : Nat) (w : World) :
    Calls Tryz.prog 10 #[.agg #[.slice a S.A.length ca, .slice f S.F.length cf, .slice c S.C.length cc], .slice A n cA] w fun e w' => e = .returned (.bool (decide (n ≤ 60) && fewB S)) ∧ Keep NoF w w' := by
  have hK0 : Keep NoF w (w.alloc (.cells (boxS S a ca f cf c cc) 24)) := (Keep.refl _ _).alloc _
  have HF := Lib.hid (Few_any S a f c ca cf cc (w.alloc (.cells (boxS S a ca f cf c cc) 24)))
  unfold boxS at *
  generalize fewB S = b at *
  by_cases h : n ≤ 60
  · rw [decide_eq_true h]
    go_enter Tryz.func10, Tryz.ntmps10
    go_wp2_with (go_at_call 25; (with_reducible refine HF.out.mono ?_); rintro e w1 ⟨rfl, K1⟩)
    refine bodyPost_ret (v := .bool b) (by simp [results, Tryz.results10, go_sem]) rfl ?_
    exact ⟨by rw [Bool.true_and], hK0.trans K1 fun _ _ h => h⟩
  · rw [decide_eq_false h]
    go_enter Tryz.func10, Tryz.ntmps10
    go_wp2
    refine bodyPost_ret (v := .bool false) (by simp [results, Tryz.results10, go_sem]) rfl ?_
    exact ⟨rfl, hK0⟩
theorem prints_any (t s : ByteArray) (l : List Nd) (s' : List UInt8) (hs : s = txt s') (hp : parseF SE t = (l, 0, 0)) (hq : printF SE l = (s', 0)) (ht : t.size ≤ 1000) (hl : l.length ≤ 1000) (w : World) (hT : Tabs w) :
    Calls Tryz.prog 26 #[.string t, .string s] w fun e w' => e = .returned (.bool true) ∧ Keep NoF w w' := by
  have hss : (txt s').toList = s.toList := by rw [hs]
  clear hs
  have HN := Lib.hid fun W => lawnames_any W
  have HP := Lib.hid hp
  have HQ := Lib.hid hq
  have HT := Lib.hid hT
  clear hp hq hT
  go_enter Tryz.func26, Tryz.ntmps26
  go_wp2_with (first
    | (go_at_call 47; (with_reducible refine (HN.out w).mono ?_); rintro e w1 ⟨a, f, c, rfl, S1, K1⟩; have H2 := Lib.hid (parse_SE7 HP.out S1 (HT.out.keep0 K1) (by omega)))
    | (go_at_call 14; (with_reducible refine H2.out.mono ?_); rintro e w2 ⟨A2, c2, rfl, R2, K2⟩; have HR2 := Lib.hid R2; have k2 := K1.trans K2 fun _ _ h => h; clear R2)
    | (go_at_call 47; (with_reducible refine (HN.out w2).mono ?_); rintro e w3 ⟨a3, f3, c3, rfl, S3, K3⟩; have k3 := k2.trans K3 fun _ _ h => h; have H4 := Lib.hid (print_SE7 HQ.out S3 (HT.out.keep0 k3) (by omega) (HR2.out.kept K3 fun _ _ h => h)))
    | (go_at_call 12; (with_reducible refine H4.out.mono ?_); rintro e w4 ⟨rfl, K4⟩; have k4 := k3.trans K4 fun _ _ h => h))
  refine bodyPost_ret (v := .bool true) (by simp [results, Tryz.results26, go_sem]) rfl ?_
  exact ⟨rfl, k4⟩
theorem ex0 : ∃ l, parseF SE ⟨#[40, 40, 112, 32, 38, 32, 113, 41, 32, 38, 32, 40, 114, 41, 41]⟩ = (l, 0, 0) ∧ printF SE l = ([112, 32, 38, 32, 113, 32, 38, 32, 114], 0) ∧ l.length ≤ 1000 := ⟨(parseF SE ⟨#[40, 40, 112, 32, 38, 32, 113, 41, 32, 38, 32, 40, 114, 41, 41]⟩).1, by decide +kernel, by decide +kernel, by decide +kernel⟩
theorem ex1 : ∃ l, parseF SE ⟨#[112, 32, 38, 32, 40, 113, 32, 38, 32, 114, 41]⟩ = (l, 0, 0) ∧ printF SE l = ([112, 32, 38, 32, 40, 113, 32, 38, 32, 114, 41], 0) ∧ l.length ≤ 1000 := ⟨(parseF SE ⟨#[112, 32, 38, 32, 40, 113, 32, 38, 32, 114, 41]⟩).1, by decide +kernel, by decide +kernel, by decide +kernel⟩
theorem ex2 : ∃ l, parseF SE ⟨#[40, 112, 32, 45, 62, 32, 113, 41, 32, 45, 62, 32, 40, 113, 32, 45, 62, 32, 114, 41]⟩ = (l, 0, 0) ∧ printF SE l = ([40, 112, 32, 45, 62, 32, 113, 41, 32, 45, 62, 32, 113, 32, 45, 62, 32, 114], 0) ∧ l.length ≤ 1000 := ⟨(parseF SE ⟨#[40, 112, 32, 45, 62, 32, 113, 41, 32, 45, 62, 32, 40, 113, 32, 45, 62, 32, 114, 41]⟩).1, by decide +kernel, by decide +kernel, by decide +kernel⟩
theorem ex3 : ∃ l, parseF SE ⟨#[126, 40, 75, 91, 97, 93, 40, 112, 32, 124, 32, 113, 41, 41]⟩ = (l, 0, 0) ∧ printF SE l = ([126, 75, 91, 97, 93, 40, 112, 32, 124, 32, 113, 41], 0) ∧ l.length ≤ 1000 := ⟨(parseF SE ⟨#[126, 40, 75, 91, 97, 93, 40, 112, 32, 124, 32, 113, 41, 41]⟩).1, by decide +kernel, by decide +kernel, by decide +kernel⟩
theorem ex4 : ∃ l, parseF SE ⟨#[67, 91, 97, 44, 98, 124, 112, 32, 38, 32, 113, 93, 114]⟩ = (l, 0, 0) ∧ printF SE l = ([67, 91, 97, 44, 98, 124, 112, 32, 38, 32, 113, 93, 114], 0) ∧ l.length ≤ 1000 := ⟨(parseF SE ⟨#[67, 91, 97, 44, 98, 124, 112, 32, 38, 32, 113, 93, 114]⟩).1, by decide +kernel, by decide +kernel, by decide +kernel⟩
theorem ex5 : ∃ l, parseF SE ⟨#[67, 91, 97, 124, 116, 114, 117, 101, 93, 112]⟩ = (l, 0, 0) ∧ printF SE l = ([67, 91, 97, 93, 112], 0) ∧ l.length ≤ 1000 := ⟨(parseF SE ⟨#[67, 91, 97, 124, 116, 114, 117, 101, 93, 112]⟩).1, by decide +kernel, by decide +kernel, by decide +kernel⟩
theorem ex6 : ∃ l, parseF SE ⟨#[91, 33, 112, 93, 40, 113, 32, 60, 45, 62, 32, 114, 41]⟩ = (l, 0, 0) ∧ printF SE l = ([91, 33, 112, 93, 40, 113, 32, 60, 45, 62, 32, 114, 41], 0) ∧ l.length ≤ 1000 := ⟨(parseF SE ⟨#[91, 33, 112, 93, 40, 113, 32, 60, 45, 62, 32, 114, 41]⟩).1, by decide +kernel, by decide +kernel, by decide +kernel⟩
theorem ex7 : ∃ l, parseF SE ⟨#[110, 101, 120, 116, 32, 40, 112, 32, 117, 110, 116, 105, 108, 32, 113, 41]⟩ = (l, 0, 0) ∧ printF SE l = ([110, 101, 120, 116, 32, 40, 112, 32, 117, 110, 116, 105, 108, 32, 113, 41], 0) ∧ l.length ≤ 1000 := ⟨(parseF SE ⟨#[110, 101, 120, 116, 32, 40, 112, 32, 117, 110, 116, 105, 108, 32, 113, 41]⟩).1, by decide +kernel, by decide +kernel, by decide +kernel⟩
theorem ex8 : ∃ l, parseF SE ⟨#[91, 116, 101, 108, 108, 46, 49, 93, 126, 112]⟩ = (l, 0, 0) ∧ printF SE l = ([91, 116, 101, 108, 108, 46, 49, 93, 126, 112], 0) ∧ l.length ≤ 1000 := ⟨(parseF SE ⟨#[91, 116, 101, 108, 108, 46, 49, 93, 126, 112]⟩).1, by decide +kernel, by decide +kernel, by decide +kernel⟩
theorem awake7_any (w : World) (hT : Tabs w) : Calls Tryz.prog 11 #[] w fun e w' => e = .returned (.bool true) ∧ Keep NoF w w' := by
  have H0 : Hid (∀ W, Keep NoF w W → Calls Tryz.prog 26 #[.string ⟨#[40, 40, 112, 32, 38, 32, 113, 41, 32, 38, 32, 40, 114, 41, 41]⟩, .string ⟨#[112, 32, 38, 32, 113, 32, 38, 32, 114]⟩] W fun e w' => e = .returned (.bool true) ∧ Keep NoF W w') := Lib.hid fun W hk => by
    obtain ⟨l, h1, h2, h3⟩ := ex0
    exact prints_any ⟨#[40, 40, 112, 32, 38, 32, 113, 41, 32, 38, 32, 40, 114, 41, 41]⟩ ⟨#[112, 32, 38, 32, 113, 32, 38, 32, 114]⟩ l [112, 32, 38, 32, 113, 32, 38, 32, 114] rfl h1 h2 (by decide) h3 W (hT.keep0 hk)
  have H1 : Hid (∀ W, Keep NoF w W → Calls Tryz.prog 26 #[.string ⟨#[112, 32, 38, 32, 40, 113, 32, 38, 32, 114, 41]⟩, .string ⟨#[112, 32, 38, 32, 40, 113, 32, 38, 32, 114, 41]⟩] W fun e w' => e = .returned (.bool true) ∧ Keep NoF W w') := Lib.hid fun W hk => by
    obtain ⟨l, h1, h2, h3⟩ := ex1
    exact prints_any ⟨#[112, 32, 38, 32, 40, 113, 32, 38, 32, 114, 41]⟩ ⟨#[112, 32, 38, 32, 40, 113, 32, 38, 32, 114, 41]⟩ l [112, 32, 38, 32, 40, 113, 32, 38, 32, 114, 41] rfl h1 h2 (by decide) h3 W (hT.keep0 hk)
  have H2 : Hid (∀ W, Keep NoF w W → Calls Tryz.prog 26 #[.string ⟨#[40, 112, 32, 45, 62, 32, 113, 41, 32, 45, 62, 32, 40, 113, 32, 45, 62, 32, 114, 41]⟩, .string ⟨#[40, 112, 32, 45, 62, 32, 113, 41, 32, 45, 62, 32, 113, 32, 45, 62, 32, 114]⟩] W fun e w' => e = .returned (.bool true) ∧ Keep NoF W w') := Lib.hid fun W hk => by
    obtain ⟨l, h1, h2, h3⟩ := ex2
    exact prints_any ⟨#[40, 112, 32, 45, 62, 32, 113, 41, 32, 45, 62, 32, 40, 113, 32, 45, 62, 32, 114, 41]⟩ ⟨#[40, 112, 32, 45, 62, 32, 113, 41, 32, 45, 62, 32, 113, 32, 45, 62, 32, 114]⟩ l [40, 112, 32, 45, 62, 32, 113, 41, 32, 45, 62, 32, 113, 32, 45, 62, 32, 114] rfl h1 h2 (by decide) h3 W (hT.keep0 hk)
  have H3 : Hid (∀ W, Keep NoF w W → Calls Tryz.prog 26 #[.string ⟨#[126, 40, 75, 91, 97, 93, 40, 112, 32, 124, 32, 113, 41, 41]⟩, .string ⟨#[126, 75, 91, 97, 93, 40, 112, 32, 124, 32, 113, 41]⟩] W fun e w' => e = .returned (.bool true) ∧ Keep NoF W w') := Lib.hid fun W hk => by
    obtain ⟨l, h1, h2, h3⟩ := ex3
    exact prints_any ⟨#[126, 40, 75, 91, 97, 93, 40, 112, 32, 124, 32, 113, 41, 41]⟩ ⟨#[126, 75, 91, 97, 93, 40, 112, 32, 124, 32, 113, 41]⟩ l [126, 75, 91, 97, 93, 40, 112, 32, 124, 32, 113, 41] rfl h1 h2 (by decide) h3 W (hT.keep0 hk)
  have H4 : Hid (∀ W, Keep NoF w W → Calls Tryz.prog 26 #[.string ⟨#[67, 91, 97, 44, 98, 124, 112, 32, 38, 32, 113, 93, 114]⟩, .string ⟨#[67, 91, 97, 44, 98, 124, 112, 32, 38, 32, 113, 93, 114]⟩] W fun e w' => e = .returned (.bool true) ∧ Keep NoF W w') := Lib.hid fun W hk => by
    obtain ⟨l, h1, h2, h3⟩ := ex4
    exact prints_any ⟨#[67, 91, 97, 44, 98, 124, 112, 32, 38, 32, 113, 93, 114]⟩ ⟨#[67, 91, 97, 44, 98, 124, 112, 32, 38, 32, 113, 93, 114]⟩ l [67, 91, 97, 44, 98, 124, 112, 32, 38, 32, 113, 93, 114] rfl h1 h2 (by decide) h3 W (hT.keep0 hk)
  have H5 : Hid (∀ W, Keep NoF w W → Calls Tryz.prog 26 #[.string ⟨#[67, 91, 97, 124, 116, 114, 117, 101, 93, 112]⟩, .string ⟨#[67, 91, 97, 93, 112]⟩] W fun e w' => e = .returned (.bool true) ∧ Keep NoF W w') := Lib.hid fun W hk => by
    obtain ⟨l, h1, h2, h3⟩ := ex5
    exact prints_any ⟨#[67, 91, 97, 124, 116, 114, 117, 101, 93, 112]⟩ ⟨#[67, 91, 97, 93, 112]⟩ l [67, 91, 97, 93, 112] rfl h1 h2 (by decide) h3 W (hT.keep0 hk)
  have H6 : Hid (∀ W, Keep NoF w W → Calls Tryz.prog 26 #[.string ⟨#[91, 33, 112, 93, 40, 113, 32, 60, 45, 62, 32, 114, 41]⟩, .string ⟨#[91, 33, 112, 93, 40, 113, 32, 60, 45, 62, 32, 114, 41]⟩] W fun e w' => e = .returned (.bool true) ∧ Keep NoF W w') := Lib.hid fun W hk => by
    obtain ⟨l, h1, h2, h3⟩ := ex6
    exact prints_any ⟨#[91, 33, 112, 93, 40, 113, 32, 60, 45, 62, 32, 114, 41]⟩ ⟨#[91, 33, 112, 93, 40, 113, 32, 60, 45, 62, 32, 114, 41]⟩ l [91, 33, 112, 93, 40, 113, 32, 60, 45, 62, 32, 114, 41] rfl h1 h2 (by decide) h3 W (hT.keep0 hk)
  have H7 : Hid (∀ W, Keep NoF w W → Calls Tryz.prog 26 #[.string ⟨#[110, 101, 120, 116, 32, 40, 112, 32, 117, 110, 116, 105, 108, 32, 113, 41]⟩, .string ⟨#[110, 101, 120, 116, 32, 40, 112, 32, 117, 110, 116, 105, 108, 32, 113, 41]⟩] W fun e w' => e = .returned (.bool true) ∧ Keep NoF W w') := Lib.hid fun W hk => by
    obtain ⟨l, h1, h2, h3⟩ := ex7
    exact prints_any ⟨#[110, 101, 120, 116, 32, 40, 112, 32, 117, 110, 116, 105, 108, 32, 113, 41]⟩ ⟨#[110, 101, 120, 116, 32, 40, 112, 32, 117, 110, 116, 105, 108, 32, 113, 41]⟩ l [110, 101, 120, 116, 32, 40, 112, 32, 117, 110, 116, 105, 108, 32, 113, 41] rfl h1 h2 (by decide) h3 W (hT.keep0 hk)
  have H8 : Hid (∀ W, Keep NoF w W → Calls Tryz.prog 26 #[.string ⟨#[91, 116, 101, 108, 108, 46, 49, 93, 126, 112]⟩, .string ⟨#[91, 116, 101, 108, 108, 46, 49, 93, 126, 112]⟩] W fun e w' => e = .returned (.bool true) ∧ Keep NoF W w') := Lib.hid fun W hk => by
    obtain ⟨l, h1, h2, h3⟩ := ex8
    exact prints_any ⟨#[91, 116, 101, 108, 108, 46, 49, 93, 126, 112]⟩ ⟨#[91, 116, 101, 108, 108, 46, 49, 93, 126, 112]⟩ l [91, 116, 101, 108, 108, 46, 49, 93, 126, 112] rfl h1 h2 (by decide) h3 W (hT.keep0 hk)
  have k0 := Keep.refl NoF w
  clear hT
  go_enter Tryz.func11, Tryz.ntmps11
  go_wp2_with (first
    | (go_at_call 26; (with_reducible refine (H0.out _ k0).mono ?_); rintro e w1 ⟨rfl, K1⟩; have k1 := k0.trans K1 fun _ _ h => h; clear H0)
    | (go_at_call 26; (with_reducible refine (H1.out _ k1).mono ?_); rintro e w2 ⟨rfl, K2⟩; have k2 := k1.trans K2 fun _ _ h => h; clear H1)
    | (go_at_call 26; (with_reducible refine (H2.out _ k2).mono ?_); rintro e w3 ⟨rfl, K3⟩; have k3 := k2.trans K3 fun _ _ h => h; clear H2)
    | (go_at_call 26; (with_reducible refine (H3.out _ k3).mono ?_); rintro e w4 ⟨rfl, K4⟩; have k4 := k3.trans K4 fun _ _ h => h; clear H3)
    | (go_at_call 26; (with_reducible refine (H4.out _ k4).mono ?_); rintro e w5 ⟨rfl, K5⟩; have k5 := k4.trans K5 fun _ _ h => h; clear H4)
    | (go_at_call 26; (with_reducible refine (H5.out _ k5).mono ?_); rintro e w6 ⟨rfl, K6⟩; have k6 := k5.trans K6 fun _ _ h => h; clear H5)
    | (go_at_call 26; (with_reducible refine (H6.out _ k6).mono ?_); rintro e w7 ⟨rfl, K7⟩; have k7 := k6.trans K7 fun _ _ h => h; clear H6)
    | (go_at_call 26; (with_reducible refine (H7.out _ k7).mono ?_); rintro e w8 ⟨rfl, K8⟩; have k8 := k7.trans K8 fun _ _ h => h; clear H7)
    | (go_at_call 26; (with_reducible refine (H8.out _ k8).mono ?_); rintro e w9 ⟨rfl, K9⟩; have k9 := k8.trans K9 fun _ _ h => h; clear H8))
  refine bodyPost_ret (v := .bool true) (by simp [results, Tryz.results11, go_sem]) rfl ?_
  exact ⟨rfl, k9⟩
end
end Go.Proofs.YtbidfbojealmlaaGreatDoor
