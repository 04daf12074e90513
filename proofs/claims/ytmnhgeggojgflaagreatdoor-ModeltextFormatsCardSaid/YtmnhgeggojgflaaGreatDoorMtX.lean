/- The text of a model: Parse in one lemma; the examples of the chapter. Conditions: the variables lie as they are read. -/
import Derived.Test.YtmnhgeggojgflaaGreatDoorMtR
import Derived.Test.YtmnhgeggojgflaaGreatDoorMtUV
import Derived.Test.YtmnhgeggojgflaaGreatDoorMtW
set_option linter.unusedVariables false
set_option linter.unusedSimpArgs false
namespace Go.Proofs.YtmnhgeggojgflaaGreatDoor
open Go.RowKit Go.Shelf
open Mt
open Ev (Md)
attribute [local go_sem] Oper.semAt_some
theorem mtParse_any (S : Sg) (a f c : Option Addr) (ca cf cc : Nat) (t : ByteArray) (w : World) (hS : SigR w S a ca f cf c cc) (hT : Tab w) (hU : Ws.Tab w) :
    Calls Tryz.prog 13 #[.agg #[.slice a S.A.length ca, .slice f S.F.length cf, .slice c S.C.length cc], .string t] w (ParsP (parseM S t.data.toList) w) := by
  by_cases h : checkS S = 0
  · by_cases hl : 100000 < t.size
    · exact mtParse_long S a f c ca cf cc t w hS hT h hl
    · exact mtParse_ok S a f c ca cf cc t w hS hT hU h (by omega)
  · exact mtParse_bad S a f c ca cf cc t w hS hT h
def M1 : Md := ⟨3, [5, 0], [[3, 3, 4], [0, 0, 5]]⟩
section
set_option maxRecDepth 100000
set_option maxHeartbeats 2000000
theorem p1 : parseM SX [119, 111, 114, 108, 100, 115, 32, 51, 10, 102, 97, 99, 116, 32, 112, 32, 123, 48, 32, 50, 125, 10, 99, 101, 108, 108, 115, 32, 97, 32, 123, 48, 32, 49, 125, 10, 97, 103, 101, 110, 116, 32, 98, 32, 50, 32, 123, 48, 32, 50, 125, 10] = (M1, 0, 0) := by kernel_rfl
theorem p2 : parseM SX [119, 111, 114, 108, 100, 115, 32, 50, 10, 99, 101, 108, 108, 115, 32, 97, 32, 123, 48, 32, 49, 125, 32, 123, 49, 125] = (emptyM, 2, 7) := by kernel_rfl
theorem f1 : formatM SX M1 = (([119, 111, 114, 108, 100, 115, 32, 51, 10, 102, 97, 99, 116, 32, 112, 32, 123, 48, 32, 50, 125, 10, 102, 97, 99, 116, 32, 113, 32, 123, 125, 10, 97, 103, 101, 110, 116, 32, 97, 32, 48, 32, 123, 48, 32, 49, 125, 10, 97, 103, 101, 110, 116, 32, 97, 32, 49, 32, 123, 48].append [32, 49, 125, 10, 97, 103, 101, 110, 116, 32, 97, 32, 50, 32, 123, 50, 125, 10, 97, 103, 101, 110, 116, 32, 98, 32, 48, 32, 123, 125, 10, 97, 103, 101, 110, 116, 32, 98, 32, 49, 32, 123, 125, 10, 97, 103, 101, 110, 116, 32, 98, 32, 50, 32, 123, 48, 32, 50, 125, 10]), 0) := by kernel_rfl
variable {w : World} {a f : Option Addr}
theorem aParse1 (hS : SigR w SX a 2 f 2 none 0) (hT : Tab w) (hU : Ws.Tab w) : Calls Tryz.prog 13 #[.agg #[.slice a 2 2, .slice f 2 2, .slice none 0 0], .string ⟨#[119, 111, 114, 108, 100, 115, 32, 51, 10, 102, 97, 99, 116, 32, 112, 32, 123, 48, 32, 50, 125, 10, 99, 101, 108, 108, 115, 32, 97, 32, 123, 48, 32, 49, 125, 10, 97, 103, 101, 110, 116, 32, 98, 32, 50, 32, 123, 48, 32, 50, 125, 10]⟩] w
    fun e w' => ∃ (va : Option Addr) (cv : Nat) (ra : Option Addr) (cr : Nat) (rs : List (Option Addr × Nat)), e = .returned (.tuple #[.agg #[.int .i64 3, .slice va 2 cv, .slice ra 2 cr], .int .i64 0, .int .i64 0]) ∧ MdR w' M1 va cv ra cr rs ∧ Keep NoF w w' := by
  have h := mtParse_any SX a f none 2 2 0 ⟨#[119, 111, 114, 108, 100, 115, 32, 51, 10, 102, 97, 99, 116, 32, 112, 32, 123, 48, 32, 50, 125, 10, 99, 101, 108, 108, 115, 32, 97, 32, 123, 48, 32, 49, 125, 10, 97, 103, 101, 110, 116, 32, 98, 32, 50, 32, 123, 48, 32, 50, 125, 10]⟩ w hS hT hU
  refine Calls.mono h ?_
  rintro e w' ⟨va, cv, ra, cr, rs, rfl, hM, hk⟩
  have e1 := p1
  exact ⟨va, cv, ra, cr, rs, by rw [show parseM SX (ByteArray.data ⟨#[119, 111, 114, 108, 100, 115, 32, 51, 10, 102, 97, 99, 116, 32, 112, 32, 123, 48, 32, 50, 125, 10, 99, 101, 108, 108, 115, 32, 97, 32, 123, 48, 32, 49, 125, 10, 97, 103, 101, 110, 116, 32, 98, 32, 50, 32, 123, 48, 32, 50, 125, 10]⟩).toList = (M1, 0, 0) from e1]; rfl, by rw [show parseM SX (ByteArray.data ⟨#[119, 111, 114, 108, 100, 115, 32, 51, 10, 102, 97, 99, 116, 32, 112, 32, 123, 48, 32, 50, 125, 10, 99, 101, 108, 108, 115, 32, 97, 32, 123, 48, 32, 49, 125, 10, 97, 103, 101, 110, 116, 32, 98, 32, 50, 32, 123, 48, 32, 50, 125, 10]⟩).toList = (M1, 0, 0) from e1] at hM; exact hM, hk⟩
theorem aParse2 (hS : SigR w SX a 2 f 2 none 0) (hT : Tab w) (hU : Ws.Tab w) : Calls Tryz.prog 13 #[.agg #[.slice a 2 2, .slice f 2 2, .slice none 0 0], .string ⟨#[119, 111, 114, 108, 100, 115, 32, 50, 10, 99, 101, 108, 108, 115, 32, 97, 32, 123, 48, 32, 49, 125, 32, 123, 49, 125]⟩] w
    fun e w' => ∃ (va : Option Addr) (cv : Nat) (ra : Option Addr) (cr : Nat), e = .returned (.tuple #[.agg #[.int .i64 0, .slice va 0 cv, .slice ra 0 cr], .int .i64 2, .int .i64 7]) ∧ Keep NoF w w' := by
  have h := mtParse_any SX a f none 2 2 0 ⟨#[119, 111, 114, 108, 100, 115, 32, 50, 10, 99, 101, 108, 108, 115, 32, 97, 32, 123, 48, 32, 49, 125, 32, 123, 49, 125]⟩ w hS hT hU
  refine Calls.mono h ?_
  rintro e w' ⟨va, cv, ra, cr, rs, rfl, -, hk⟩
  exact ⟨va, cv, ra, cr, by rw [show parseM SX (ByteArray.data ⟨#[119, 111, 114, 108, 100, 115, 32, 50, 10, 99, 101, 108, 108, 115, 32, 97, 32, 123, 48, 32, 49, 125, 32, 123, 49, 125]⟩).toList = (emptyM, 2, 7) from p2]; rfl, hk⟩
theorem aFormat1 {va ra : Option Addr} {cv cr : Nat} {rs : List (Option Addr × Nat)} (hS : SigR w SX a 2 f 2 none 0) (hM : MdR w M1 va cv ra cr rs) (hT : Tab w) (hU : Ws.Tab w) : Calls Tryz.prog 11 #[.agg #[.slice a 2 2, .slice f 2 2, .slice none 0 0], .agg #[.int .i64 3, .slice va 2 cv, .slice ra 2 cr]] w
    fun e w' => e = .returned (.tuple #[.string ⟨(([119, 111, 114, 108, 100, 115, 32, 51, 10, 102, 97, 99, 116, 32, 112, 32, 123, 48, 32, 50, 125, 10, 102, 97, 99, 116, 32, 113, 32, 123, 125, 10, 97, 103, 101, 110, 116, 32, 97, 32, 48, 32, 123, 48, 32, 49, 125, 10, 97, 103, 101, 110, 116, 32, 97, 32, 49, 32, 123, 48].append [32, 49, 125, 10, 97, 103, 101, 110, 116, 32, 97, 32, 50, 32, 123, 50, 125, 10, 97, 103, 101, 110, 116, 32, 98, 32, 48, 32, 123, 125, 10, 97, 103, 101, 110, 116, 32, 98, 32, 49, 32, 123, 125, 10, 97, 103, 101, 110, 116, 32, 98, 32, 50, 32, 123, 48, 32, 50, 125, 10])).toArray⟩, .int .i64 0]) ∧ Keep NoF w w' := by
  have h := mtFormat_any SX a f none 2 2 0 w hS hM hT hU
  rw [f1] at h
  exact h
theorem u6_lit (W : World) (l : List Nat) (n : Nat) (hn : n ≤ 1000) (h : l.length = n) : Rd (W.alloc (.cells (u6 l).toArray 45)) (.slice (some ⟨W.heap.size, 0, none⟩) n n) 1 n (u6 l) :=
  Rd.of_own (World.ownsRow_lit (base := 0) (e := 45) (size := 1) W (u6 l).toArray n (by omega) (by simp [maxLen, u6]; omega) (by simp [h, u6]))
/-- The model of the examples, laid by hand. -/
theorem litM (W : World) : MdR ((((W.alloc (.cells #[.int .u64 5, .int .u64 0] 45)).alloc (.cells #[.int .u64 3, .int .u64 3, .int .u64 4] 45)).alloc (.cells #[.int .u64 0, .int .u64 0, .int .u64 5] 45)).alloc (.cells #[.slice (some ⟨W.heap.size + 1, 0, none⟩) 3 3, .slice (some ⟨W.heap.size + 1 + 1, 0, none⟩) 3 3] 25))
    M1 (some ⟨W.heap.size, 0, none⟩) 2 (some ⟨W.heap.size + 1 + 1 + 1, 0, none⟩) 2 [(some ⟨W.heap.size + 1, 0, none⟩, 3), (some ⟨W.heap.size + 1 + 1, 0, none⟩, 3)] := by
  have h1 : Rd (W.alloc (.cells #[.int .u64 5, .int .u64 0] 45)) (.slice (some ⟨W.heap.size, 0, none⟩) 2 2) 1 2 (u6 [5, 0]) := u6_lit W [5, 0] 2 (by omega) rfl
  have h2 : Rd ((W.alloc (.cells #[.int .u64 5, .int .u64 0] 45)).alloc (.cells #[.int .u64 3, .int .u64 3, .int .u64 4] 45)) (.slice (some ⟨(W.alloc (.cells #[.int .u64 5, .int .u64 0] 45)).heap.size, 0, none⟩) 3 3) 1 3 (u6 [3, 3, 4]) := u6_lit _ [3, 3, 4] 3 (by omega) rfl
  have h3 : Rd (((W.alloc (.cells #[.int .u64 5, .int .u64 0] 45)).alloc (.cells #[.int .u64 3, .int .u64 3, .int .u64 4] 45)).alloc (.cells #[.int .u64 0, .int .u64 0, .int .u64 5] 45)) (.slice (some ⟨((W.alloc (.cells #[.int .u64 5, .int .u64 0] 45)).alloc (.cells #[.int .u64 3, .int .u64 3, .int .u64 4] 45)).heap.size, 0, none⟩) 3 3) 1 3 (u6 [0, 0, 5]) := u6_lit _ [0, 0, 5] 3 (by omega) rfl
  have h4 := Rd.of_own (World.ownsRow_lit (base := 0) (e := 25) (size := 1) (((W.alloc (.cells #[.int .u64 5, .int .u64 0] 45)).alloc (.cells #[.int .u64 3, .int .u64 3, .int .u64 4] 45)).alloc (.cells #[.int .u64 0, .int .u64 0, .int .u64 5] 45)) #[.slice (some ⟨W.heap.size + 1, 0, none⟩) 3 3, .slice (some ⟨W.heap.size + 1 + 1, 0, none⟩) 3 3] 2 (by omega) (by simp [maxLen]) rfl)
  simp only [World.size_alloc] at h2 h3 h4
  have hu : Ev.U64 M1 := ⟨by decide +kernel, by decide +kernel⟩
  have g1 := h1.kept ((((Keep.refl NoF _).alloc (.cells #[.int .u64 3, .int .u64 3, .int .u64 4] 45)).alloc (.cells #[.int .u64 0, .int .u64 0, .int .u64 5] 45)).alloc (.cells #[.slice (some ⟨W.heap.size + 1, 0, none⟩) 3 3, .slice (some ⟨W.heap.size + 1 + 1, 0, none⟩) 3 3] 25)) fun _ _ h => h
  have g2 := h2.kept (((Keep.refl NoF _).alloc (.cells #[.int .u64 0, .int .u64 0, .int .u64 5] 45)).alloc (.cells #[.slice (some ⟨W.heap.size + 1, 0, none⟩) 3 3, .slice (some ⟨W.heap.size + 1 + 1, 0, none⟩) 3 3] 25)) fun _ _ h => h
  have g3 := h3.kept ((Keep.refl NoF _).alloc (.cells #[.slice (some ⟨W.heap.size + 1, 0, none⟩) 3 3, .slice (some ⟨W.heap.size + 1 + 1, 0, none⟩) 3 3] 25)) fun _ _ h => h
  generalize (((W.alloc (.cells #[.int .u64 5, .int .u64 0] 45)).alloc (.cells #[.int .u64 3, .int .u64 3, .int .u64 4] 45)).alloc (.cells #[.int .u64 0, .int .u64 0, .int .u64 5] 45)).alloc (.cells #[.slice (some ⟨W.heap.size + 1, 0, none⟩) 3 3, .slice (some ⟨W.heap.size + 1 + 1, 0, none⟩) 3 3] 25) = W4 at *
  clear h1 h2 h3
  refine ⟨g1, h4, rfl, fun k r p hr hp => ?_, hu, (by show 2 ≤ _; omega), (by show 2 ≤ _; omega), fun r hr => ?_⟩
  rotate_left 1
  · rcases List.mem_cons.1 hr with rfl | hr
    · show 3 ≤ _; omega
    · rcases List.mem_cons.1 hr with rfl | hr
      · show 3 ≤ _; omega
      · cases hr
  match k, hr, hp with
  | 0, hr, hp =>
    obtain rfl := Option.some.inj hr
    obtain rfl := Option.some.inj hp
    exact g2
  | 1, hr, hp =>
    obtain rfl := Option.some.inj hr
    obtain rfl := Option.some.inj hp
    exact g3
  | k + 2, hr, hp => exact absurd hr (by simp [M1])
theorem sameX (W3 : World) {va ra : Option Addr} {cv cr : Nat} {rs : List (Option Addr × Nat)} (h : MdR ((((W3.alloc (.cells #[.int .u64 5, .int .u64 0] 45)).alloc (.cells #[.int .u64 3, .int .u64 3, .int .u64 4] 45)).alloc (.cells #[.int .u64 0, .int .u64 0, .int .u64 5] 45)).alloc (.cells #[.slice (some ⟨W3.heap.size + 1, 0, none⟩) 3 3, .slice (some ⟨W3.heap.size + 1 + 1, 0, none⟩) 3 3] 25)) M1 va cv ra cr rs) :
    Calls Tryz.prog 15 #[.agg #[.int .i64 3, .slice va 2 cv, .slice ra 2 cr], .agg #[.int .i64 3, .slice (some ⟨W3.heap.size, 0, none⟩) 2 2, .slice (some ⟨W3.heap.size + 1 + 1 + 1, 0, none⟩) 2 2]] ((((W3.alloc (.cells #[.int .u64 5, .int .u64 0] 45)).alloc (.cells #[.int .u64 3, .int .u64 3, .int .u64 4] 45)).alloc (.cells #[.int .u64 0, .int .u64 0, .int .u64 5] 45)).alloc (.cells #[.slice (some ⟨W3.heap.size + 1, 0, none⟩) 3 3, .slice (some ⟨W3.heap.size + 1 + 1, 0, none⟩) 3 3] 25)) fun e w' => e = .returned (.bool true) ∧ Keep NoF ((((W3.alloc (.cells #[.int .u64 5, .int .u64 0] 45)).alloc (.cells #[.int .u64 3, .int .u64 3, .int .u64 4] 45)).alloc (.cells #[.int .u64 0, .int .u64 0, .int .u64 5] 45)).alloc (.cells #[.slice (some ⟨W3.heap.size + 1, 0, none⟩) 3 3, .slice (some ⟨W3.heap.size + 1 + 1, 0, none⟩) 3 3] 25)) w' :=
  rSame_eq (M := M1) h (litM W3)
theorem awakeMt_any (w : World) (hT : Tab w) (hU : Ws.Tab w) : Calls Tryz.prog 10 #[] w fun e w' => e = .returned (.bool true) ∧ Keep NoF w w' := by
  have HE := Lib.hid exampleMt_any
  have HT := Lib.hid (And.intro hT hU)
  clear hT hU
  go_enter Tryz.func10, Tryz.ntmps10
  go_upto_region 2 with (first
    | (go_at_call 19; (with_reducible refine (HE.out _).mono ?_); rintro e w1 ⟨a, f, rfl, hS1, k1⟩
       have HS1 := Lib.hid hS1
       have HK1 := Lib.hid k1)
    | (go_at_call 13; (with_reducible refine (aParse1 HS1.out (HT.out.1.keep0 HK1.out) (HT.out.2.keep0 HK1.out)).mono ?_); rintro e w2 ⟨va, cv, ra, cr, rs, rfl, hM2, k2⟩))
  have b3 := Bk.new w2 28 #[.int .i64 3, .slice va 2 cv, .slice ra 2 cr]
  have k3 : Keep NoF w2 (w2.alloc (.cells #[.int .i64 3, .slice va 2 cv, .slice ra 2 cr] 28)) := (Keep.refl _ _).alloc _
  have HM3 := Lib.hid (hM2.keep k3)
  have HK3 := Lib.hid ((HK1.out.trans k2 fun _ _ h => h).trans k3 fun _ _ h => h)
  have HB3 := Lib.hid b3
  clear hM2 k2 hS1 k1 HS1 HK1 b3 k3
  generalize w2.alloc (.cells #[.int .i64 3, .slice va 2 cv, .slice ra 2 cr] 28) = W3 at *
  have c0 : W3.cell? ⟨w2.heap.size, 0, none⟩ = some (.int .i64 3) := HB3.out.cell 0
  have c1 : W3.cell? ⟨w2.heap.size, 1, none⟩ = some (.slice va 2 cv) := HB3.out.cell 1
  have c2 : W3.cell? ⟨w2.heap.size, 2, none⟩ = some (.slice ra 2 cr) := HB3.out.cell 2
  have K4 : Keep NoF W3 ((((W3.alloc (.cells #[.int .u64 5, .int .u64 0] 45)).alloc (.cells #[.int .u64 3, .int .u64 3, .int .u64 4] 45)).alloc (.cells #[.int .u64 0, .int .u64 0, .int .u64 5] 45)).alloc (.cells #[.slice (some ⟨W3.heap.size + 1, 0, none⟩) 3 3, .slice (some ⟨W3.heap.size + 1 + 1, 0, none⟩) 3 3] 25)) := ((((Keep.refl _ _).alloc _).alloc _).alloc _).alloc _
  have HSm := Lib.hid (sameX W3 (HM3.out.keep K4))
  go_upto_region 4 with (first
    | (go_at_call 15; (with_reducible refine HSm.out.mono ?_); rintro e w4 ⟨rfl, k4⟩))
  have K34 : Keep NoF W3 w4 := K4.trans k4 fun _ _ h => h
  have HM4 := Lib.hid (HM3.out.keep K34)
  have HT4 := Lib.hid (And.intro (HT.out.1.keep0 (HK3.out.trans K34 fun _ _ h => h)) (HT.out.2.keep0 (HK3.out.trans K34 fun _ _ h => h)))
  have HB4 := Lib.hid (HB3.out.keep K34 fun h => h)
  have HK4 := Lib.hid (HK3.out.trans K34 fun _ _ h => h)
  clear HSm K4 k4 K34 HM3 HT HB3 HK3 c0 c1 c2
  have c0 : w4.cell? ⟨w2.heap.size, 0, none⟩ = some (.int .i64 3) := HB4.out.cell 0
  have c1 : w4.cell? ⟨w2.heap.size, 1, none⟩ = some (.slice va 2 cv) := HB4.out.cell 1
  have c2 : w4.cell? ⟨w2.heap.size, 2, none⟩ = some (.slice ra 2 cr) := HB4.out.cell 2
  go_region_held3 (fun w' => w'.cell? ⟨w2.heap.size, 0, none⟩ = some (.int .i64 3) ∧ w'.cell? ⟨w2.heap.size, 1, none⟩ = some (.slice va 2 cv) ∧ w'.cell? ⟨w2.heap.size, 2, none⟩ = some (.slice ra 2 cr)) (go_keep)
    (first
      | (go_at_call 11; (with_reducible refine (aFormat1 HS5.out (HM4.out.keep K5) (HT4.out.1.keep0 K5) (HT4.out.2.keep0 K5)).mono ?_); rintro e w6 ⟨rfl, k6⟩
         have K6 : Keep NoF w4 w6 := K5.trans k6 fun _ _ h => h
         have g0 : w6.cell? ⟨w2.heap.size, 0, none⟩ = some (.int .i64 3) := K6.cellv c0 fun h => h
         have g1 : w6.cell? ⟨w2.heap.size, 1, none⟩ = some (.slice va 2 cv) := K6.cellv c1 fun h => h
         have g2 : w6.cell? ⟨w2.heap.size, 2, none⟩ = some (.slice ra 2 cr) := K6.cellv c2 fun h => h)
      | (go_at_call 19; (with_reducible refine (HE.out _).mono ?_); rintro e w5 ⟨a5, f5, rfl, hS5, k5⟩
         have HS5 := Lib.hid hS5
         have K5 := k5.undrew
         have d0 : w5.cell? ⟨w2.heap.size, 0, none⟩ = some (.int .i64 3) := K5.cellv c0 fun h => h
         have d1 : w5.cell? ⟨w2.heap.size, 1, none⟩ = some (.slice va 2 cv) := K5.cellv c1 fun h => h
         have d2 : w5.cell? ⟨w2.heap.size, 2, none⟩ = some (.slice ra 2 cr) := K5.cellv c2 fun h => h))
  have HT6 := Lib.hid (And.intro (HT4.out.1.keep0 K6) (HT4.out.2.keep0 K6))
  have HK6 := Lib.hid (HK4.out.trans K6 fun _ _ h => h)
  clear c0 c1 c2 d0 d1 d2 g0 g1 g2 hS5 HS5 HM4 HT4 HB4 K5 k5 K6 k6
  go_upto_region 6 with (first
    | (go_at_call 19; (with_reducible refine (HE.out _).mono ?_); rintro e w7 ⟨a7, f7, rfl, hS7, k7⟩
       have HS7 := Lib.hid hS7
       have HK7 := Lib.hid k7)
    | (go_at_call 13; (with_reducible refine (aParse2 HS7.out (HT6.out.1.keep0 HK7.out) (HT6.out.2.keep0 HK7.out)).mono ?_); rintro e w8 ⟨va8, cv8, ra8, cr8, rfl, k8⟩))
  go_wp2
  go_ret
  exact ⟨rfl, (((HK6.out.trans HK7.out fun _ _ h => h).trans k8 fun _ _ h => h).alloc _)⟩
end
end Go.Proofs.YtmnhgeggojgflaaGreatDoor
