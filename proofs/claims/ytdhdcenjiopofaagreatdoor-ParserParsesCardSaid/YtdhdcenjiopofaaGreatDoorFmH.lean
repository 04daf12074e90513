/- Package formula: what compact, Sub and Compact do. No condition. -/
import Derived.Test.YtdhdcenjiopofaaGreatDoorFmG
set_option linter.unusedVariables false
set_option linter.unusedSimpArgs false
namespace Go.Proofs.YtdhdcenjiopofaaGreatDoor
open Go.RowKit
open Fm (Nd okI okN numb Inv tree ins put Rep usesX usesY checkE Form cl subL compactL)

/-- A list of nodes that is handed back. -/
def FmPost (w : World) (l : List Nd) (e : Ending) (w' : World) : Prop :=
  ∃ A c, e = .returned (.slice A l.length c) ∧ Rd w' (.slice A l.length c) 6 l.length (fmC l) ∧ Keep NoF w w' ∧ ∀ k, (Value.slice A l.length c).ownBlock = some k → w.heap.size ≤ k
section
set_option maxRecDepth 100000
set_option maxHeartbeats 2000000
theorem fmcompact_any (f : List Nd) (hc : Fm.Okf f) (i : Nat) (hi : i < f.length) (A : Option Addr) (c : Nat) (w : World) (hrd : Rd w (.slice A f.length c) 6 f.length (fmC f)) :
    Calls Tryz.prog 52 #[.slice A f.length c, .int .i64 i] w (FmPost w (cl (tree f i))) := by
  have hmm := @run_makeMap Tryz.prog
  have hfl := hrd.blk_lt (by omega) (by omega)
  have HRD := Lib.hid hrd
  have HC := Lib.hid hc
  have HI := Lib.hid hi
  rw [show cl (tree f i) = (ins (tree f i) []).2 from rfl]
  clear hrd hc hi hmm
  have hmm := @run_makeMap Tryz.prog
  go_enter Tryz.func52, Tryz.ntmps52
  go_wp2_with fail
  clear hmm
  have zz0 : w.heap.size = w.heap.size := rfl
  have B0 := Bk.new w 27 #[.slice A f.length c]
  have z1 : (w.alloc (.cells #[.slice A f.length c] 27)).heap.size = w.heap.size + 1 := by rw [World.size_alloc]
  have K1 : Keep NoF w (w.alloc (.cells #[.slice A f.length c] 27)) := (Keep.refl NoF w).alloc _
  generalize w.alloc (.cells #[.slice A f.length c] 27) = W1 at *
  have B1 := Bk.new W1 27 #[.slice none 0 0]
  have z2 : (W1.alloc (.cells #[.slice none 0 0] 27)).heap.size = w.heap.size + 1 + 1 := by rw [World.size_alloc, z1]
  have K2 : Keep NoF w (W1.alloc (.cells #[.slice none 0 0] 27)) := K1.alloc _
  have B0 := B0.alloc (.cells #[.slice none 0 0] 27)
  generalize W1.alloc (.cells #[.slice none 0 0] 27) = W2 at *
  rw [z1] at B1
  have M2 : MapT Tryz.prog 37 ndV inV okN (W2.alloc (.map #[] 0)) W2.heap.size (fun _ => none) := MapT.new _ _ _ _ _ _
  have z3 : (W2.alloc (.map #[] 0)).heap.size = w.heap.size + 1 + 1 + 1 := by rw [World.size_alloc, z2]
  have K3 : Keep NoF w (W2.alloc (.map #[] 0)) := K2.alloc _
  have B0 := B0.alloc (.map #[] 0)
  have B1 := B1.alloc (.map #[] 0)
  generalize W2.alloc (.map #[] 0) = W3 at *
  rw [z2] at M2
  have B3 := Bk.new W3 81 #[.map (some (w.heap.size + 1 + 1))]
  have z4 : (W3.alloc (.cells #[.map (some (w.heap.size + 1 + 1))] 81)).heap.size = w.heap.size + 1 + 1 + 1 + 1 := by rw [World.size_alloc, z3]
  have K4 : Keep NoF w (W3.alloc (.cells #[.map (some (w.heap.size + 1 + 1))] 81)) := K3.alloc _
  have B0 := B0.alloc (.cells #[.map (some (w.heap.size + 1 + 1))] 81)
  have B1 := B1.alloc (.cells #[.map (some (w.heap.size + 1 + 1))] 81)
  have M2 := M2.block (w' := W3.alloc (.cells #[.map (some (w.heap.size + 1 + 1))] 81)) (Below.heap_alloc _ _ _ M2.lt)
  generalize W3.alloc (.cells #[.map (some (w.heap.size + 1 + 1))] 81) = W4 at *
  rw [z3] at B3
  have M4 : MapT Tryz.prog 3 inV inV tiny (W4.alloc (.map #[] 0)) W4.heap.size (fun _ => none) := MapT.new _ _ _ _ _ _
  have z5 : (W4.alloc (.map #[] 0)).heap.size = w.heap.size + 1 + 1 + 1 + 1 + 1 := by rw [World.size_alloc, z4]
  have K5 : Keep NoF w (W4.alloc (.map #[] 0)) := K4.alloc _
  have B0 := B0.alloc (.map #[] 0)
  have B1 := B1.alloc (.map #[] 0)
  have M2 := M2.block (w' := W4.alloc (.map #[] 0)) (Below.heap_alloc _ _ _ M2.lt)
  have B3 := B3.alloc (.map #[] 0)
  generalize W4.alloc (.map #[] 0) = W5 at *
  rw [z4] at M4
  have B5 := Bk.new W5 82 #[.map (some (w.heap.size + 1 + 1 + 1 + 1))]
  have z6 : (W5.alloc (.cells #[.map (some (w.heap.size + 1 + 1 + 1 + 1))] 82)).heap.size = w.heap.size + 1 + 1 + 1 + 1 + 1 + 1 := by rw [World.size_alloc, z5]
  have K6 : Keep NoF w (W5.alloc (.cells #[.map (some (w.heap.size + 1 + 1 + 1 + 1))] 82)) := K5.alloc _
  have B0 := B0.alloc (.cells #[.map (some (w.heap.size + 1 + 1 + 1 + 1))] 82)
  have B1 := B1.alloc (.cells #[.map (some (w.heap.size + 1 + 1 + 1 + 1))] 82)
  have M2 := M2.block (w' := W5.alloc (.cells #[.map (some (w.heap.size + 1 + 1 + 1 + 1))] 82)) (Below.heap_alloc _ _ _ M2.lt)
  have B3 := B3.alloc (.cells #[.map (some (w.heap.size + 1 + 1 + 1 + 1))] 82)
  have M4 := M4.block (w' := W5.alloc (.cells #[.map (some (w.heap.size + 1 + 1 + 1 + 1))] 82)) (Below.heap_alloc _ _ _ M4.lt)
  generalize W5.alloc (.cells #[.map (some (w.heap.size + 1 + 1 + 1 + 1))] 82) = W6 at *
  rw [z5] at B5
  have B6 := Bk.new W6 83 #[.func (.func 69) #[] #[.pointer (some ⟨w.heap.size + 1 + 1 + 1 + 1 + 1, 0, none⟩), .pointer (some ⟨w.heap.size, 0, none⟩), .pointer (some ⟨w.heap.size + 1 + 1 + 1 + 1 + 1 + 1, 0, none⟩), .pointer (some ⟨w.heap.size + 1 + 1 + 1, 0, none⟩), .pointer (some ⟨w.heap.size + 1, 0, none⟩)]]
  have z7 : (W6.alloc (.cells #[.func (.func 69) #[] #[.pointer (some ⟨w.heap.size + 1 + 1 + 1 + 1 + 1, 0, none⟩), .pointer (some ⟨w.heap.size, 0, none⟩), .pointer (some ⟨w.heap.size + 1 + 1 + 1 + 1 + 1 + 1, 0, none⟩), .pointer (some ⟨w.heap.size + 1 + 1 + 1, 0, none⟩), .pointer (some ⟨w.heap.size + 1, 0, none⟩)]] 83)).heap.size = w.heap.size + 1 + 1 + 1 + 1 + 1 + 1 + 1 := by rw [World.size_alloc, z6]
  have K7 : Keep NoF w (W6.alloc (.cells #[.func (.func 69) #[] #[.pointer (some ⟨w.heap.size + 1 + 1 + 1 + 1 + 1, 0, none⟩), .pointer (some ⟨w.heap.size, 0, none⟩), .pointer (some ⟨w.heap.size + 1 + 1 + 1 + 1 + 1 + 1, 0, none⟩), .pointer (some ⟨w.heap.size + 1 + 1 + 1, 0, none⟩), .pointer (some ⟨w.heap.size + 1, 0, none⟩)]] 83)) := K6.alloc _
  have B0 := B0.alloc (.cells #[.func (.func 69) #[] #[.pointer (some ⟨w.heap.size + 1 + 1 + 1 + 1 + 1, 0, none⟩), .pointer (some ⟨w.heap.size, 0, none⟩), .pointer (some ⟨w.heap.size + 1 + 1 + 1 + 1 + 1 + 1, 0, none⟩), .pointer (some ⟨w.heap.size + 1 + 1 + 1, 0, none⟩), .pointer (some ⟨w.heap.size + 1, 0, none⟩)]] 83)
  have B1 := B1.alloc (.cells #[.func (.func 69) #[] #[.pointer (some ⟨w.heap.size + 1 + 1 + 1 + 1 + 1, 0, none⟩), .pointer (some ⟨w.heap.size, 0, none⟩), .pointer (some ⟨w.heap.size + 1 + 1 + 1 + 1 + 1 + 1, 0, none⟩), .pointer (some ⟨w.heap.size + 1 + 1 + 1, 0, none⟩), .pointer (some ⟨w.heap.size + 1, 0, none⟩)]] 83)
  have M2 := M2.block (w' := W6.alloc (.cells #[.func (.func 69) #[] #[.pointer (some ⟨w.heap.size + 1 + 1 + 1 + 1 + 1, 0, none⟩), .pointer (some ⟨w.heap.size, 0, none⟩), .pointer (some ⟨w.heap.size + 1 + 1 + 1 + 1 + 1 + 1, 0, none⟩), .pointer (some ⟨w.heap.size + 1 + 1 + 1, 0, none⟩), .pointer (some ⟨w.heap.size + 1, 0, none⟩)]] 83)) (Below.heap_alloc _ _ _ M2.lt)
  have B3 := B3.alloc (.cells #[.func (.func 69) #[] #[.pointer (some ⟨w.heap.size + 1 + 1 + 1 + 1 + 1, 0, none⟩), .pointer (some ⟨w.heap.size, 0, none⟩), .pointer (some ⟨w.heap.size + 1 + 1 + 1 + 1 + 1 + 1, 0, none⟩), .pointer (some ⟨w.heap.size + 1 + 1 + 1, 0, none⟩), .pointer (some ⟨w.heap.size + 1, 0, none⟩)]] 83)
  have M4 := M4.block (w' := W6.alloc (.cells #[.func (.func 69) #[] #[.pointer (some ⟨w.heap.size + 1 + 1 + 1 + 1 + 1, 0, none⟩), .pointer (some ⟨w.heap.size, 0, none⟩), .pointer (some ⟨w.heap.size + 1 + 1 + 1 + 1 + 1 + 1, 0, none⟩), .pointer (some ⟨w.heap.size + 1 + 1 + 1, 0, none⟩), .pointer (some ⟨w.heap.size + 1, 0, none⟩)]] 83)) (Below.heap_alloc _ _ _ M4.lt)
  have B5 := B5.alloc (.cells #[.func (.func 69) #[] #[.pointer (some ⟨w.heap.size + 1 + 1 + 1 + 1 + 1, 0, none⟩), .pointer (some ⟨w.heap.size, 0, none⟩), .pointer (some ⟨w.heap.size + 1 + 1 + 1 + 1 + 1 + 1, 0, none⟩), .pointer (some ⟨w.heap.size + 1 + 1 + 1, 0, none⟩), .pointer (some ⟨w.heap.size + 1, 0, none⟩)]] 83)
  generalize W6.alloc (.cells #[.func (.func 69) #[] #[.pointer (some ⟨w.heap.size + 1 + 1 + 1 + 1 + 1, 0, none⟩), .pointer (some ⟨w.heap.size, 0, none⟩), .pointer (some ⟨w.heap.size + 1 + 1 + 1 + 1 + 1 + 1, 0, none⟩), .pointer (some ⟨w.heap.size + 1 + 1 + 1, 0, none⟩), .pointer (some ⟨w.heap.size + 1, 0, none⟩)]] 83) = W7 at *
  rw [z6] at B6
  have hv : FV W7 (w.heap.size + 1 + 1 + 1 + 1 + 1) (w.heap.size) (w.heap.size + 1 + 1 + 1 + 1 + 1 + 1) (w.heap.size + 1 + 1 + 1) (w.heap.size + 1) (w.heap.size + 1 + 1) (w.heap.size + 1 + 1 + 1 + 1) A f.length c := ⟨B0, B3, B5, B6⟩
  have hs : FS W7 (w.heap.size + 1) (w.heap.size + 1 + 1) (w.heap.size + 1 + 1 + 1 + 1) [] (fun _ => none) (fun k => k = w.heap.size + 1 ∨ k = w.heap.size + 1 + 1 ∨ k = w.heap.size + 1 + 1 + 1 + 1) :=
    ⟨.slice none 0 0, B1, World.ownsRow_nil _ _ _ _, M2.congr fun x => by simp [numb], M4, by omega, fun k => by simp [Value.ownBlock]⟩
  refine (fin_any i f _ _ _ _ _ _ _ A c _ W7 [] _ [] HC.out HI.out (Inv.start f) (HRD.out.kept K7 fun _ _ h => h) hv hs (fun k hk => ?_) (by omega) (by omega) (by omega) (by omega)).mono ?_
  · have := hfl k hk
    omega
  rintro e w8 ⟨K', g', ds', rfl, hs8, _, _, hk8, hK8⟩
  obtain ⟨ov, hd8, ho8, _, _, _, hKK⟩ := hs8
  obtain ⟨OA, oc, rfl⟩ := own_form ho8
  have hrd8 := Rd.of_own ho8
  have k8 : Keep NoF w w8 := K7.trans hk8 fun k hk h => by omega
  have HFR : Hid (∀ k, (Value.slice OA (ins (tree f i) []).2.length oc).ownBlock = some k → w.heap.size ≤ k) := Lib.hid fun k hk => by
    rcases hK8 k ((hKK k).2 (.inr (.inr (.inr hk)))) with h | h
    · rcases h with h | h | h <;> omega
    · omega
  clear hKK hK8
  have c8 := hd8.cell 0
  generalize (ins (tree f i) []).2 = L at *
  go_wp2
  go_ret
  exact ⟨OA, oc, rfl, hrd8, k8, HFR.out⟩
theorem Sub_any (f : List Nd) (i : Int) (A : Option Addr) (c : Nat) (w : World) (hll : f.length ≤ 9223372036854775807) (hrd : Rd w (.slice A f.length c) 6 f.length (fmC f)) :
    Calls Tryz.prog 27 #[.slice A f.length c, .int .i64 i] w (FmPost w (subL f i)) := by
  have HCK := Lib.hid (fmCheck_any f A c w hll hrd)
  have hnil : ∀ w', Keep NoF w w' → FmPost w [] (.returned (.slice none 0 0)) w' := fun w' hk => ⟨none, 0, rfl, Rd.nil _ _, hk, fun k h => by simp [Value.ownBlock] at h⟩
  have HNIL := Lib.hid hnil
  clear hnil
  by_cases hc : checkE f = 0
  · by_cases h1 : i < 0
    · rw [show subL f i = [] by unfold subL; rw [if_pos (.inr (.inl h1))]]
      rw [hc] at HCK
      go_enter Tryz.func27, Tryz.ntmps27
      go_wp2_with (go_at_call 10; (with_reducible refine HCK.out.mono ?_); rintro e w2 ⟨rfl, K2⟩)
      go_ret
      exact HNIL.out _ K2
    · by_cases h2 : (f.length : Int) ≤ i
      · rw [show subL f i = [] by unfold subL; rw [if_pos (.inr (.inr h2))]]
        rw [hc] at HCK
        go_enter Tryz.func27, Tryz.ntmps27
        go_wp2_with (go_at_call 10; (with_reducible refine HCK.out.mono ?_); rintro e w2 ⟨rfl, K2⟩)
        go_ret
        exact HNIL.out _ K2
      · obtain ⟨k, rfl⟩ : ∃ k : Nat, i = k := ⟨i.toNat, by omega⟩
        rw [show subL f (k : Int) = cl (tree f k) by unfold subL; rw [if_neg (by omega), Int.toNat_natCast]]
        have HCO := Lib.hid fun W (hk : Keep NoF w W) => fmcompact_any f (Fm.Okf.of_check hc) k (by omega) A c W (hrd.kept hk fun _ _ h => h)
        rw [hc] at HCK
        generalize cl (tree f k) = L at *
        have h2' : (k : Int) < (f.length : Int) := by omega
        clear hrd
        go_enter Tryz.func27, Tryz.ntmps27
        go_wp2_with (first
          | (go_at_call 10; (with_reducible refine HCK.out.mono ?_); rintro e w2 ⟨rfl, K2⟩)
          | (go_at_call 52; (with_reducible refine (HCO.out _ K2).mono ?_); rintro e w3 ⟨A3, c3, rfl, R3, K3, F3⟩))
        go_ret
        exact ⟨A3, c3, rfl, R3, K2.trans K3 fun _ _ h => h, fun k h => Nat.le_trans K2.size (F3 k h)⟩
  · rw [show subL f i = [] by unfold subL; rw [if_pos (.inl hc)]]
    have hne : (checkE f != 0) = true := by simpa using hc
    generalize checkE f = ce at *
    go_enter Tryz.func27, Tryz.ntmps27
    go_wp2_with (go_at_call 10; (with_reducible refine HCK.out.mono ?_); rintro e w2 ⟨rfl, K2⟩)
    go_ret
    exact HNIL.out _ K2
theorem Compact_any (f : List Nd) (A : Option Addr) (c : Nat) (w : World) (hll : f.length ≤ 9223372036854775807) (hrd : Rd w (.slice A f.length c) 6 f.length (fmC f)) :
    Calls Tryz.prog 12 #[.slice A f.length c] w (FmPost w (compactL f)) := by
  have HS : Hid (Calls Tryz.prog 27 #[.slice A f.length c, .int .i64 ((f.length : Int) - 1)] w (FmPost w (compactL f))) := Lib.hid (Sub_any f _ A c w hll hrd)
  generalize compactL f = L at *
  generalize f.length = n at *
  go_enter Tryz.func12, Tryz.ntmps12
  go_wp2_with (go_at_call 27; (with_reducible refine HS.out.mono ?_); rintro e w2 ⟨A3, c3, rfl, R3, K3, F3⟩)
  go_ret
  exact ⟨A3, c3, rfl, R3, K3, F3⟩
end
end Go.Proofs.YtdhdcenjiopofaaGreatDoor
