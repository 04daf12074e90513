/- The law ParserParses answers true. Conditions: the variables lie as they are read. -/
import Derived.Test.YtdhdcenjiopofaaGreatDoorPaX
import Derived.Test.YtdhdcenjiopofaaGreatDoorPaY
import Derived.Test.YtdhdcenjiopofaaGreatDoorPdC
set_option linter.unusedVariables false
set_option linter.unusedSimpArgs false
namespace Go.Proofs.YtdhdcenjiopofaaGreatDoor
open Go.RowKit
open Fm (Nd cl)

theorem parse_len (S : Sg) (t : ByteArray) : (parseF S t).1.length ≤ 200 := by
  unfold parseF
  split
  · simp
  · split
    · simp
    · split
      · unfold readF
        split
        · split
          · simp
          · simp only; omega
        · simp
      · simp
theorem parse_eqP {S : Sg} {a f c : Option Addr} {ca cf cc : Nat} {t : ByteArray} {l : List Nd} {p x : Int} {w : World} (hp : parseF S t = (l, p, x)) (hS : SigR w S a ca f cf c cc) (hT : Tab w) (ht : t.size ≤ 9223372036854775807) :
    Calls Tryz.prog 7 #[.agg #[.slice a S.A.length ca, .slice f S.F.length cf, .slice c S.C.length cc], .string t] w fun e w' => ∃ (A : Option Addr) (c : Nat), e = .returned (.tuple #[.slice A l.length c, .int .i64 p, .int .i64 x]) ∧ Rd w' (.slice A l.length c) 6 l.length (fmC l) ∧ Keep NoF w w' := by
  have := Parse_any S a f c ca cf cc t w hS hT ht
  unfold ParPost at this
  rw [hp] at this
  exact this
theorem parse_eqR {S : Sg} {a f c : Option Addr} {ca cf cc : Nat} {t : ByteArray} {l : List Nd} {p x : Int} {w : World} (hp : parseF S t = (l, p, x)) (hS : SigR w S a ca f cf c cc) (hT : Tab w) (ht : t.size ≤ 9223372036854775807) :
    Calls Tryz.prog 8 #[.agg #[.slice a S.A.length ca, .slice f S.F.length cf, .slice c S.C.length cc], .string t] w fun e w' => ∃ (A : Option Addr) (c : Nat), e = .returned (.tuple #[.slice A l.length c, .int .i64 p, .int .i64 x]) ∧ Rd w' (.slice A l.length c) 6 l.length (fmC l) ∧ Keep NoF w w' := by
  have := rParse_any S a f c ca cf cc t w hS hT ht
  unfold ParPost at this
  rw [hp] at this
  exact this
section
set_option maxRecDepth 100000
set_option maxHeartbeats 4000000
theorem walk_ParserParses (S : Sg) (a f c : Option Addr) (ca cf cc : Nat) (t : ByteArray) (w : World) (hS : SigR w S a ca f cf c cc) (hT : Tab w) :
    Calls Tryz.prog 3 #[.agg #[.slice a S.A.length ca, .slice f S.F.length cf, .slice c S.C.length cc], .string t] w fun e w' => e = .returned (.bool true) ∧ Keep NoF w w' := by
  have hK0 : Keep NoF w (w.alloc (.cells (boxS S a ca f cf c cc) 24)) := (Keep.refl _ _).alloc _
  have HB := Lib.hid (fun w' => @box_cells w w' S a f c ca cf cc 24)
  have HS := Lib.hid hS
  have HT := Lib.hid hT
  have HFW := Lib.hid (few_any S a f c ca cf cc t _ (hS.keep hK0))
  unfold boxS at *
  clear hS hT
  have HKW : Hid (∀ v, Keep NoF (w.alloc (.cells #[.slice a S.A.length ca, .slice f S.F.length cf, .slice c S.C.length cc] 24)) v → Keep NoF w v) := Lib.hid fun v h => hK0.trans h fun _ _ h => h
  have HAW : Hid (∀ v, Keep NoF w v → _) := Lib.hid fun v (h : Keep NoF w v) => awake_any v (HT.out.keep0 h)
  clear hK0
  have hlen := parse_len S t
  obtain ⟨⟨l, p, x⟩, hpf⟩ : ∃ r, parseF S t = r := ⟨_, rfl⟩
  rw [hpf] at hlen
  have HP := Lib.hid hpf
  have hl : l.length ≤ 200 := hlen
  have HSN := Lib.hid fun A B c d W h1 h2 => sameNodes_any l A B c d W h1 h2 (by omega)
  clear hpf hlen
  go_enter Tryz.func3, Tryz.ntmps3
  go_upto_region 2 with (first
    | (go_at_call 5; (with_reducible refine HFW.out.mono ?_); rintro e w1 ⟨b, rfl, hb, K1⟩; obtain ⟨c0, c1, c2, hz1⟩ := HB.out w1 K1; have k1 := HKW.out _ K1; cases b))
  · go_wp2_with (go_at_call 6; (with_reducible refine (HAW.out w1 k1).mono ?_); rintro e w2 ⟨rfl, K2⟩)
    refine bodyPost_ret (v := .bool true) (by simp [results, Tryz.results3, go_sem]) rfl ?_
    exact ⟨rfl, k1.trans K2 fun _ _ h => h⟩
  · have ht : t.size ≤ 300 := hb trivial
    clear hb HFW
    have H1 := Lib.hid (parse_eqP HP.out (HS.out.keep k1) (HT.out.keep0 k1) (by omega))
    have HB' := Lib.hid fun w' (h : Keep NoF w1 w') => HB.out w' (K1.trans h fun _ _ h => h)
    go_wp2_with (first
      | (go_at_call 7; (with_reducible refine H1.out.mono ?_); rintro e w2 ⟨A2, c2', rfl, R2, K2⟩; have k2 := k1.trans K2 fun _ _ h => h; obtain ⟨d0, d1, d2, hz2⟩ := HB'.out w2 K2; have HR2 := Lib.hid R2; have H2 := Lib.hid (parse_eqR HP.out (HS.out.keep k2) (HT.out.keep0 k2) (by omega)); clear R2)
      | (go_at_call 8; (with_reducible refine H2.out.mono ?_); rintro e w3 ⟨A3, c3', rfl, R3, K3⟩; have k3 := k2.trans K3 fun _ _ h => h; have HR3 := Lib.hid R3; have HR4 := Lib.hid (HR2.out.kept K3 fun _ _ h => h); clear R3)
      | (go_at_call 9; (with_reducible refine (HSN.out _ _ _ _ _ HR4.out HR3.out).mono ?_); rintro e w6 ⟨rfl, K6⟩; have k6 := k3.trans K6 fun _ _ h => h)
      | (go_at_call 6; (with_reducible refine (HAW.out w6 k6).mono ?_); rintro e w7 ⟨rfl, K7⟩; have k7 := k6.trans K7 fun _ _ h => h))
    refine bodyPost_ret (v := .bool true) (by simp [results, Tryz.results3, go_sem]) rfl ?_
    exact ⟨rfl, k7⟩
end
end Go.Proofs.YtdhdcenjiopofaaGreatDoor
