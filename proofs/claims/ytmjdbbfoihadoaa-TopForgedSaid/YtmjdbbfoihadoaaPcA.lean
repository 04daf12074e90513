/- Package formula: the masks of the agents and of the facts of right nodes; Fits. Package formula: what union, Agents, Facts and Fits do at right nodes. No condition. -/
import Derived.Test.YtmjdbbfoihadoaaPaF
import Derived.Test.YtmjdbbfoihadoaaFmH
import Derived.Laws.Bits64b
import Derived.Deep.RegionHeld3
set_option linter.unusedVariables false
set_option linter.unusedSimpArgs false
namespace Go.Proofs.Ytmjdbbfoihadoaa
open Go.RowKit
open Fm (Nd checkE compactL cl usesX usesY usesAgent usesFact usesGroup usesEvent put ins)

def mA (n : Nd) : Nat := if usesAgent n.op = true then 2 ^ n.i.toNat else n.g.toNat
def mF (n : Nd) : Nat := if usesFact n.op = true then 2 ^ n.i.toNat else 0
def QAll (nA nF : Nat) (o : List Nd) : Prop := ∀ n ∈ o, Ps.Q nA nF n.op n.i n.e n.g
theorem put_q {nA nF : Nat} {n : Nd} {o : List Nd} (h : QAll nA nF o) (hn : Ps.Q nA nF n.op n.i n.e n.g) : QAll nA nF (put n o).2 := by
  unfold put
  split
  · exact h
  · intro m hm
    rcases List.mem_append.1 hm with hm | hm
    · exact h m hm
    · rw [List.mem_singleton.1 hm]; exact hn
theorem ins_q {nA nF : Nat} : ∀ {t : Fm.Form} {o : List Nd}, Ps.TG nA nF t → QAll nA nF o → QAll nA nF (ins t o).2
  | .leaf .., _, h, ho => put_q ho h.2
  | .un .., _, h, ho => put_q (ins_q h.2.2.2 ho) h.2.2.1
  | .bin .., _, h, ho => put_q (ins_q h.2.2.2 (ins_q h.2.2.1 ho)) h.2.1
theorem cl_q {nA nF : Nat} {t : Fm.Form} (h : Ps.TG nA nF t) : QAll nA nF (cl t) := ins_q h fun n hn => by simp at hn
theorem own_ranges {op i e g : Int} (h : Fm.own op i e g = true) : (usesAgent op = true → 0 ≤ i ∧ i ≤ 3) ∧ (usesFact op = true → 0 ≤ i ∧ i ≤ 7) ∧ 0 ≤ g ∧ g ≤ 15 ∧ (usesGroup op = false → g = 0) := by
  simp only [Fm.own, Fm.zeroed, Fm.ranged, Fm.within] at h
  revert h
  cases usesAgent op <;> cases usesFact op <;> cases usesEvent op <;> cases usesGroup op <;> simp <;> omega
theorem q_masks {nA nF : Nat} {op i e g x y : Int} (h : Ps.Q nA nF op i e g) : mA ⟨op, i, e, g, x, y⟩ < 2 ^ nA ∧ mF ⟨op, i, e, g, x, y⟩ < 2 ^ nF := by
  obtain ⟨ho, h1, h2, h3⟩ := h
  obtain ⟨r1, r2, r3, _, r4⟩ := own_ranges ho
  have hp1 := Nat.two_pow_pos nA
  have hp2 := Nat.two_pow_pos nF
  unfold mA mF
  constructor
  · split
    · rename_i ha
      have := h1 ha
      have := r1 ha
      exact Nat.pow_lt_pow_right (by omega) (by simp only; omega)
    · cases hg : usesGroup op with
      | true => have : g < ((2 ^ nA : Nat) : Int) := by exact_mod_cast h3 hg
                simp only; omega
      | false => rw [r4 hg]; exact hp1
  · split
    · rename_i hf
      have := h2 hf
      have := r2 hf
      exact Nat.pow_lt_pow_right (by omega) (by simp only; omega)
    · exact hp2
theorem or_small {a b : Nat} (ha : a < 256) (hb : b < 256) : bits .or .i64 (a : Int) (b : Int) = ((a ||| b : Nat) : Int) := by
  have hx : a ||| b < 2 ^ 8 := Nat.or_lt_two_pow (by omega) (by omega)
  have h1 : (BitVec.ofInt 64 (a : Int)).toNat = a := by
    rw [BitVec.ofInt_natCast, BitVec.toNat_ofNat]; exact Nat.mod_eq_of_lt (by omega)
  have h2 : (BitVec.ofInt 64 (b : Int)).toNat = b := by
    rw [BitVec.ofInt_natCast, BitVec.toNat_ofNat]; exact Nat.mod_eq_of_lt (by omega)
  show IntKind.i64.wrap ((BitVec.ofInt 64 (a : Int) ||| BitVec.ofInt 64 (b : Int)).toNat : Int) = _
  rw [BitVec.toNat_or, h1, h2, IntKind.wrap_i64]
  omega
section
set_option maxRecDepth 100000
set_option maxHeartbeats 4000000
theorem agents1_any (n : Nd) (w : World) (h : Fm.own n.op n.i n.e n.g = true) : Calls Try.prog 66 #[ndV n, useV n.op] w fun e w' => e = .returned (.int .i64 (mA n : Int)) ∧ Keep NoF w w' := by
  obtain ⟨op, i, e, g, x, y⟩ := n
  obtain ⟨r1, r2, r3, r5, r4⟩ := own_ranges h
  simp only [useV, useC, mA] at *
  generalize usesX op = u0 at *
  generalize usesY op = u1 at *
  generalize usesFact op = u2 at *
  generalize usesGroup op = u4 at *
  generalize usesEvent op = u5 at *
  generalize fragN op = fr at *
  cases ha : usesAgent op with
  | true =>
    obtain ⟨i0, i1⟩ := r1 ha
    have hi : i = 0 ∨ i = 1 ∨ i = 2 ∨ i = 3 := by omega
    clear h r1 r2 r4
    rcases hi with rfl | rfl | rfl | rfl
    all_goals
      go_enter Try.func66, Try.ntmps66
      go_wp2
      go_ret
      exact ⟨rfl, ((Keep.refl _ _).alloc _).alloc _⟩
  | false =>
    have hg : ((g.toNat : Nat) : Int) = g := by omega
    clear h r1 r2 r4
    rw [if_neg (by simp), hg]
    go_enter Try.func66, Try.ntmps66
    go_wp2
    go_ret
    exact ⟨rfl, ((Keep.refl _ _).alloc _).alloc _⟩
theorem facts1_any (n : Nd) (w : World) (h : Fm.own n.op n.i n.e n.g = true) : Calls Try.prog 67 #[ndV n, useV n.op] w fun e w' => e = .returned (.int .i64 (mF n : Int)) ∧ Keep NoF w w' := by
  obtain ⟨op, i, e, g, x, y⟩ := n
  obtain ⟨r1, r2, r3, r5, r4⟩ := own_ranges h
  simp only [useV, useC, mF] at *
  generalize usesX op = u0 at *
  generalize usesY op = u1 at *
  generalize usesAgent op = u3 at *
  generalize usesGroup op = u4 at *
  generalize usesEvent op = u5 at *
  generalize fragN op = fr at *
  cases ha : usesFact op with
  | true =>
    obtain ⟨i0, i1⟩ := r2 ha
    have hi : i = 0 ∨ i = 1 ∨ i = 2 ∨ i = 3 ∨ i = 4 ∨ i = 5 ∨ i = 6 ∨ i = 7 := by omega
    clear h r1 r2 r4
    rcases hi with rfl | rfl | rfl | rfl | rfl | rfl | rfl | rfl
    all_goals
      go_enter Try.func67, Try.ntmps67
      go_wp2
      go_ret
      exact ⟨rfl, ((Keep.refl _ _).alloc _).alloc _⟩
  | false =>
    clear h r1 r2 r4
    rw [if_neg (by simp)]
    go_enter Try.func67, Try.ntmps67
    go_wp2
    go_ret
    exact ⟨rfl, ((Keep.refl _ _).alloc _).alloc _⟩
end
end Go.Proofs.Ytmjdbbfoihadoaa
namespace Go.Proofs.Ytmjdbbfoihadoaa
open Go.RowKit
open Fm (Nd checkE compactL cl usesX usesY usesAgent usesFact usesGroup usesEvent put ins Form)
theorem box6 {w w' : World} {a b c d e f : Int} {t : TypeId} (hk : Keep NoF (w.alloc (.cells #[.int .i64 a, .int .i64 b, .int .i64 c, .int .i64 d, .int .i64 e, .int .i64 f] t)) w') :
    w'.cell? ⟨w.heap.size, 0, none⟩ = some (.int .i64 a) ∧ w'.cell? ⟨w.heap.size, 1, none⟩ = some (.int .i64 b) ∧ w'.cell? ⟨w.heap.size, 2, none⟩ = some (.int .i64 c) ∧ w'.cell? ⟨w.heap.size, 3, none⟩ = some (.int .i64 d) ∧ w'.cell? ⟨w.heap.size, 4, none⟩ = some (.int .i64 e) ∧ w'.cell? ⟨w.heap.size, 5, none⟩ = some (.int .i64 f) ∧ w.heap.size + 1 ≤ w'.heap.size := by
  have hb := Bk.new w t #[.int .i64 a, .int .i64 b, .int .i64 c, .int .i64 d, .int .i64 e, .int .i64 f]
  refine ⟨hk.cellv ((hb.cell 0).trans rfl) fun h => h, hk.cellv ((hb.cell 1).trans rfl) fun h => h, hk.cellv ((hb.cell 2).trans rfl) fun h => h, hk.cellv ((hb.cell 3).trans rfl) fun h => h, hk.cellv ((hb.cell 4).trans rfl) fun h => h, hk.cellv ((hb.cell 5).trans rfl) fun h => h, ?_⟩
  have := hk.size
  rwa [World.size_alloc] at this
section
set_option maxRecDepth 100000
set_option maxHeartbeats 4000000
theorem unionA (f : List Nd) (A : Option Addr) (c j : Nat) (w : World) (hll : f.length ≤ 9223372036854775807) (hrd : Rd w (.slice A f.length c) 6 f.length (fmC f)) (hl : (compactL f).length ≤ 200) (hj : j ≤ 8)
    (hm : ∀ n ∈ compactL f, Fm.own n.op n.i n.e n.g = true ∧ mA n < 2 ^ j) :
    Calls Try.prog 48 #[.slice A f.length c, .func (.func 66) #[] #[]] w fun e w' => ∃ m : Nat, m < 2 ^ j ∧ e = .returned (.int .i64 (m : Int)) ∧ Keep NoF w w' := by
  have HC := Lib.hid (Compact_any f A c w hll hrd)
  have HM := Lib.hid hm
  have hp : 2 ^ j ≤ 256 := by have := Nat.pow_le_pow_right (n := 2) (by omega) hj; simpa using this
  have hp0 := Nat.two_pow_pos j
  have HU := Lib.hid fun (o : Int) (W : World) => uses_any W o
  clear hrd hm
  generalize compactL f = L at *
  generalize f.length = fl at *
  go_enter Try.func48, Try.ntmps48
  go_wp2_with (go_at_call 7; (with_reducible refine HC.out.mono ?_); rintro e w1 ⟨A1, c1, rfl, R1, K1, F1⟩)
  have HR := Lib.hid R1
  clear R1 F1
  go_loopw [5, 13] (fun v i wr => ∃ k m : Nat, v = .int .i64 (m : Int) ∧ i = .int .i64 (k : Int) ∧ k ≤ L.length ∧ m < 2 ^ j ∧ Keep NoF w1 wr) (fun _ i _ => L.length - (intOf i).toNat)
  case atStart => exact ⟨0, 0, rfl, rfl, by omega, by omega, Keep.refl _ _⟩
  case round =>
    obtain ⟨k, m, rfl, rfl, hk, hm, hkw⟩ := hrel
    by_cases hlt : k < L.length
    · have hx : L[k]? = some L[k] := List.getElem?_eq_getElem hlt
      obtain ⟨bl, off, rfl, _, hc1, x0, x1, x2, x3, x4, x5⟩ := (HR.out.kept hkw fun _ _ h => h).nd hx
      obtain ⟨ho, hmk⟩ := HM.out _ (List.getElem_mem hlt)
      clear hx
      generalize L[k] = n at *
      have HK := Lib.hid fun W : World => agents1_any n W ho
      have hor := or_small (a := m) (b := mA n) (by omega) (by omega)
      have hlt2 : m ||| mA n < 2 ^ j := Nat.or_lt_two_pow hm hmk
      have HO := Lib.hid fun W : World => HU.out n.op W
      generalize mA n = mm at *
      obtain ⟨op, i, e0, g, x, y⟩ := n
      simp only [useV, useC] at *
      clear ho
      generalize Fm.isOp op = bb at *
      generalize usesX op = b0 at *
      generalize usesY op = b1 at *
      generalize usesFact op = b2 at *
      generalize usesAgent op = b3 at *
      generalize usesGroup op = b4 at *
      generalize usesEvent op = b5 at *
      generalize fragN op = fr at *
      go_wp2_with (first
        | (go_at_call 38; (with_reducible refine (HO.out _).mono ?_); rintro e w2 ⟨rfl, K2⟩; obtain ⟨y0, y1, y2, y3, y4, y5, ysz⟩ := box6 K2; have ysl : wr.heap.size < w2.heap.size := ysz; have ysn : ¬ wr.heap.size = w2.heap.size := (by omega); have ysm : ¬ w2.heap.size = wr.heap.size := (by omega))
        | (go_at_call 66; (with_reducible refine (HK.out _).mono ?_); rintro e w3 ⟨rfl, K3⟩))
      go_roundw
      case rel => exact ⟨k + 1, m ||| mm, by go_num, by go_num, by omega, hlt2, (((hkw.alloc _).trans K2 fun _ _ h => h).alloc _).trans K3 fun _ _ h => h⟩
      case measure => simp only [intOf]; omega
    · go_wp2
      go_ret
      exact ⟨m, hm, rfl, K1.trans hkw fun _ _ h => h⟩
theorem fmAgents_any (f : List Nd) (A : Option Addr) (c j : Nat) (w : World) (hll : f.length ≤ 9223372036854775807) (hrd : Rd w (.slice A f.length c) 6 f.length (fmC f)) (hl : (compactL f).length ≤ 200) (hj : j ≤ 8)
    (hm : ∀ n ∈ compactL f, Fm.own n.op n.i n.e n.g = true ∧ mA n < 2 ^ j) :
    Calls Try.prog 51 #[.slice A f.length c] w fun e w' => ∃ m : Nat, m < 2 ^ j ∧ e = .returned (.int .i64 (m : Int)) ∧ Keep NoF w w' := by
  have HU := Lib.hid (unionA f A c j w hll hrd hl hj hm)
  clear hrd hm hl
  generalize f.length = n at *
  go_enter Try.func51, Try.ntmps51
  go_wp2_with (go_at_call 48; (with_reducible refine HU.out.mono ?_); rintro e w1 ⟨m, hm, rfl, K1⟩)
  go_ret
  exact ⟨m, hm, rfl, K1⟩
theorem unionF (f : List Nd) (A : Option Addr) (c j : Nat) (w : World) (hll : f.length ≤ 9223372036854775807) (hrd : Rd w (.slice A f.length c) 6 f.length (fmC f)) (hl : (compactL f).length ≤ 200) (hj : j ≤ 8)
    (hm : ∀ n ∈ compactL f, Fm.own n.op n.i n.e n.g = true ∧ mF n < 2 ^ j) :
    Calls Try.prog 48 #[.slice A f.length c, .func (.func 67) #[] #[]] w fun e w' => ∃ m : Nat, m < 2 ^ j ∧ e = .returned (.int .i64 (m : Int)) ∧ Keep NoF w w' := by
  have HC := Lib.hid (Compact_any f A c w hll hrd)
  have HM := Lib.hid hm
  have hp : 2 ^ j ≤ 256 := by have := Nat.pow_le_pow_right (n := 2) (by omega) hj; simpa using this
  have hp0 := Nat.two_pow_pos j
  have HU := Lib.hid fun (o : Int) (W : World) => uses_any W o
  clear hrd hm
  generalize compactL f = L at *
  generalize f.length = fl at *
  go_enter Try.func48, Try.ntmps48
  go_wp2_with (go_at_call 7; (with_reducible refine HC.out.mono ?_); rintro e w1 ⟨A1, c1, rfl, R1, K1, F1⟩)
  have HR := Lib.hid R1
  clear R1 F1
  go_loopw [5, 13] (fun v i wr => ∃ k m : Nat, v = .int .i64 (m : Int) ∧ i = .int .i64 (k : Int) ∧ k ≤ L.length ∧ m < 2 ^ j ∧ Keep NoF w1 wr) (fun _ i _ => L.length - (intOf i).toNat)
  case atStart => exact ⟨0, 0, rfl, rfl, by omega, by omega, Keep.refl _ _⟩
  case round =>
    obtain ⟨k, m, rfl, rfl, hk, hm, hkw⟩ := hrel
    by_cases hlt : k < L.length
    · have hx : L[k]? = some L[k] := List.getElem?_eq_getElem hlt
      obtain ⟨bl, off, rfl, _, hc1, x0, x1, x2, x3, x4, x5⟩ := (HR.out.kept hkw fun _ _ h => h).nd hx
      obtain ⟨ho, hmk⟩ := HM.out _ (List.getElem_mem hlt)
      clear hx
      generalize L[k] = n at *
      have HK := Lib.hid fun W : World => facts1_any n W ho
      have hor := or_small (a := m) (b := mF n) (by omega) (by omega)
      have hlt2 : m ||| mF n < 2 ^ j := Nat.or_lt_two_pow hm hmk
      have HO := Lib.hid fun W : World => HU.out n.op W
      generalize mF n = mm at *
      obtain ⟨op, i, e0, g, x, y⟩ := n
      simp only [useV, useC] at *
      clear ho
      generalize Fm.isOp op = bb at *
      generalize usesX op = b0 at *
      generalize usesY op = b1 at *
      generalize usesFact op = b2 at *
      generalize usesAgent op = b3 at *
      generalize usesGroup op = b4 at *
      generalize usesEvent op = b5 at *
      generalize fragN op = fr at *
      go_wp2_with (first
        | (go_at_call 38; (with_reducible refine (HO.out _).mono ?_); rintro e w2 ⟨rfl, K2⟩; obtain ⟨y0, y1, y2, y3, y4, y5, ysz⟩ := box6 K2; have ysl : wr.heap.size < w2.heap.size := ysz; have ysn : ¬ wr.heap.size = w2.heap.size := (by omega); have ysm : ¬ w2.heap.size = wr.heap.size := (by omega))
        | (go_at_call 67; (with_reducible refine (HK.out _).mono ?_); rintro e w3 ⟨rfl, K3⟩))
      go_roundw
      case rel => exact ⟨k + 1, m ||| mm, by go_num, by go_num, by omega, hlt2, (((hkw.alloc _).trans K2 fun _ _ h => h).alloc _).trans K3 fun _ _ h => h⟩
      case measure => simp only [intOf]; omega
    · go_wp2
      go_ret
      exact ⟨m, hm, rfl, K1.trans hkw fun _ _ h => h⟩
theorem fmFacts_any (f : List Nd) (A : Option Addr) (c j : Nat) (w : World) (hll : f.length ≤ 9223372036854775807) (hrd : Rd w (.slice A f.length c) 6 f.length (fmC f)) (hl : (compactL f).length ≤ 200) (hj : j ≤ 8)
    (hm : ∀ n ∈ compactL f, Fm.own n.op n.i n.e n.g = true ∧ mF n < 2 ^ j) :
    Calls Try.prog 52 #[.slice A f.length c] w fun e w' => ∃ m : Nat, m < 2 ^ j ∧ e = .returned (.int .i64 (m : Int)) ∧ Keep NoF w w' := by
  have HU := Lib.hid (unionF f A c j w hll hrd hl hj hm)
  clear hrd hm hl
  generalize f.length = n at *
  go_enter Try.func52, Try.ntmps52
  go_wp2_with (go_at_call 48; (with_reducible refine HU.out.mono ?_); rintro e w1 ⟨m, hm, rfl, K1⟩)
  go_ret
  exact ⟨m, hm, rfl, K1⟩
theorem fits1_any (m n : Nat) (w : World) (hm : m < 2 ^ n) (hn : n ≤ 8) : Calls Try.prog 50 #[.int .i64 (m : Int), .int .i64 (n : Int)] w fun e w' => e = .returned (.bool true) ∧ Keep NoF w w' := by
  have h31 : ¬ (31 : Int) ≤ (n : Int) := by omega
  have hz : ¬ (n : Int) < 0 := by omega
  have hz' : (0 : Int) ≤ (n : Int) := by omega
  have h64 : (n : Int) < 64 := by omega
  have hd : (m : Int) / 2 ^ n = 0 := by
    have : ((m / 2 ^ n : Nat) : Int) = 0 := by rw [Nat.div_eq_of_lt hm]; rfl
    rw [← this]
    simp
  go_enter Try.func50, Try.ntmps50
  go_wp2
  go_ret
  exact ⟨rfl, Keep.refl _ _⟩
theorem Fits_any (f : List Nd) (A : Option Addr) (c a b : Nat) (w : World) (hll : f.length ≤ 9223372036854775807) (hrd : Rd w (.slice A f.length c) 6 f.length (fmC f)) (h0 : checkE f = 0) (ha : a ≤ 8) (hb : b ≤ 8)
    (hq : QAll a b (compactL f)) :
    Calls Try.prog 25 #[.slice A f.length c, .int .i64 (a : Int), .int .i64 (b : Int)] w fun e w' => e = .returned (.bool true) ∧ Keep NoF w w' := by
  have hl := (Fm.compactL_len h0).1
  have HA := Lib.hid fun W (hk : Keep NoF w W) => fmAgents_any f A c a W hll (hrd.kept hk fun _ _ h => h) hl ha fun n hn => ⟨(hq n hn).1, (q_masks (x := n.x) (y := n.y) (hq n hn)).1⟩
  have HF := Lib.hid fun W (hk : Keep NoF w W) => fmFacts_any f A c b W hll (hrd.kept hk fun _ _ h => h) hl hb fun n hn => ⟨(hq n hn).1, (q_masks (x := n.x) (y := n.y) (hq n hn)).2⟩
  have HC := Lib.hid (fmCheck_any f A c w hll hrd)
  rw [h0] at HC
  clear hrd hq hl h0
  generalize f.length = n at *
  go_enter Try.func25, Try.ntmps25
  go_wp2_with (first
    | (go_at_call 21; (with_reducible refine HC.out.mono ?_); rintro e w1 ⟨rfl, K1⟩)
    | (go_at_call 51; (with_reducible refine (HA.out _ K1).mono ?_); rintro e w2 ⟨m2, h2, rfl, K2⟩; have k2 := K1.trans K2 fun _ _ h => h; have HX := Lib.hid (fits1_any m2 a w2 h2 ha))
    | (go_at_call 50; (with_reducible refine HX.out.mono ?_); rintro e w3 ⟨rfl, K3⟩; have k3 := k2.trans K3 fun _ _ h => h; clear HX)
    | (go_at_call 52; (with_reducible refine (HF.out _ k3).mono ?_); rintro e w4 ⟨m4, h4, rfl, K4⟩; have k4 := k3.trans K4 fun _ _ h => h; have HY := Lib.hid (fits1_any m4 b w4 h4 hb))
    | (go_at_call 50; (with_reducible refine HY.out.mono ?_); rintro e w5 ⟨rfl, K5⟩; have k5 := k4.trans K5 fun _ _ h => h))
  go_ret
  exact ⟨rfl, k5⟩
end
end Go.Proofs.Ytmjdbbfoihadoaa
