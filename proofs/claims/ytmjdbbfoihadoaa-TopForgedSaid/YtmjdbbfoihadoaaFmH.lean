/- Package formula: what compact, Sub and Compact do. Package formula: what build does. Conditions: at most two operands. No condition. -/
import Derived.Test.YtmjdbbfoihadoaaFmG
set_option linter.unusedVariables false
set_option linter.unusedSimpArgs false
namespace Go.Proofs.Ytmjdbbfoihadoaa
open Go.RowKit
open Fm (Nd okI okN numb Inv tree ins put Rep usesX usesY checkE Form cl subL compactL)

/-- A list of nodes that is handed back. -/
def FmPost (w : World) (l : List Nd) (e : Ending) (w' : World) : Prop :=
  ∃ A c, e = .returned (.slice A l.length c) ∧ Rd w' (.slice A l.length c) 6 l.length (fmC l) ∧ Keep NoF w w' ∧ ∀ k, (Value.slice A l.length c).ownBlock = some k → w.heap.size ≤ k
section
set_option maxRecDepth 100000
set_option maxHeartbeats 2000000
theorem fmcompact_any (f : List Nd) (hc : Fm.Okf f) (i : Nat) (hi : i < f.length) (A : Option Addr) (c : Nat) (w : World) (hrd : Rd w (.slice A f.length c) 6 f.length (fmC f)) :
    Calls Try.prog 22 #[.slice A f.length c, .int .i64 i] w (FmPost w (cl (tree f i))) := by
  have hmm := @run_makeMap Try.prog
  have hfl := hrd.blk_lt (by omega) (by omega)
  have HRD := Lib.hid hrd
  have HC := Lib.hid hc
  have HI := Lib.hid hi
  rw [show cl (tree f i) = (ins (tree f i) []).2 from rfl]
  clear hrd hc hi hmm
  have hmm := @run_makeMap Try.prog
  go_enter Try.func22, Try.ntmps22
  go_wp2_with fail
  clear hmm
  have zz0 : w.heap.size = w.heap.size := rfl
  have B0 := Bk.new w 26 #[.slice A f.length c]
  have z1 : (w.alloc (.cells #[.slice A f.length c] 26)).heap.size = w.heap.size + 1 := by rw [World.size_alloc]
  have K1 : Keep NoF w (w.alloc (.cells #[.slice A f.length c] 26)) := (Keep.refl NoF w).alloc _
  generalize w.alloc (.cells #[.slice A f.length c] 26) = W1 at *
  have B1 := Bk.new W1 26 #[.slice none 0 0]
  have z2 : (W1.alloc (.cells #[.slice none 0 0] 26)).heap.size = w.heap.size + 1 + 1 := by rw [World.size_alloc, z1]
  have K2 : Keep NoF w (W1.alloc (.cells #[.slice none 0 0] 26)) := K1.alloc _
  have B0 := B0.alloc (.cells #[.slice none 0 0] 26)
  generalize W1.alloc (.cells #[.slice none 0 0] 26) = W2 at *
  rw [z1] at B1
  have M2 : MapT Try.prog 53 ndV inV okN (W2.alloc (.map #[] 0)) W2.heap.size (fun _ => none) := MapT.new _ _ _ _ _ _
  have z3 : (W2.alloc (.map #[] 0)).heap.size = w.heap.size + 1 + 1 + 1 := by rw [World.size_alloc, z2]
  have K3 : Keep NoF w (W2.alloc (.map #[] 0)) := K2.alloc _
  have B0 := B0.alloc (.map #[] 0)
  have B1 := B1.alloc (.map #[] 0)
  generalize W2.alloc (.map #[] 0) = W3 at *
  rw [z2] at M2
  have B3 := Bk.new W3 93 #[.map (some (w.heap.size + 1 + 1))]
  have z4 : (W3.alloc (.cells #[.map (some (w.heap.size + 1 + 1))] 93)).heap.size = w.heap.size + 1 + 1 + 1 + 1 := by rw [World.size_alloc, z3]
  have K4 : Keep NoF w (W3.alloc (.cells #[.map (some (w.heap.size + 1 + 1))] 93)) := K3.alloc _
  have B0 := B0.alloc (.cells #[.map (some (w.heap.size + 1 + 1))] 93)
  have B1 := B1.alloc (.cells #[.map (some (w.heap.size + 1 + 1))] 93)
  have M2 := M2.block (w' := W3.alloc (.cells #[.map (some (w.heap.size + 1 + 1))] 93)) (Below.heap_alloc _ _ _ M2.lt)
  generalize W3.alloc (.cells #[.map (some (w.heap.size + 1 + 1))] 93) = W4 at *
  rw [z3] at B3
  have M4 : MapT Try.prog 3 inV inV tiny (W4.alloc (.map #[] 0)) W4.heap.size (fun _ => none) := MapT.new _ _ _ _ _ _
  have z5 : (W4.alloc (.map #[] 0)).heap.size = w.heap.size + 1 + 1 + 1 + 1 + 1 := by rw [World.size_alloc, z4]
  have K5 : Keep NoF w (W4.alloc (.map #[] 0)) := K4.alloc _
  have B0 := B0.alloc (.map #[] 0)
  have B1 := B1.alloc (.map #[] 0)
  have M2 := M2.block (w' := W4.alloc (.map #[] 0)) (Below.heap_alloc _ _ _ M2.lt)
  have B3 := B3.alloc (.map #[] 0)
  generalize W4.alloc (.map #[] 0) = W5 at *
  rw [z4] at M4
  have B5 := Bk.new W5 94 #[.map (some (w.heap.size + 1 + 1 + 1 + 1))]
  have z6 : (W5.alloc (.cells #[.map (some (w.heap.size + 1 + 1 + 1 + 1))] 94)).heap.size = w.heap.size + 1 + 1 + 1 + 1 + 1 + 1 := by rw [World.size_alloc, z5]
  have K6 : Keep NoF w (W5.alloc (.cells #[.map (some (w.heap.size + 1 + 1 + 1 + 1))] 94)) := K5.alloc _
  have B0 := B0.alloc (.cells #[.map (some (w.heap.size + 1 + 1 + 1 + 1))] 94)
  have B1 := B1.alloc (.cells #[.map (some (w.heap.size + 1 + 1 + 1 + 1))] 94)
  have M2 := M2.block (w' := W5.alloc (.cells #[.map (some (w.heap.size + 1 + 1 + 1 + 1))] 94)) (Below.heap_alloc _ _ _ M2.lt)
  have B3 := B3.alloc (.cells #[.map (some (w.heap.size + 1 + 1 + 1 + 1))] 94)
  have M4 := M4.block (w' := W5.alloc (.cells #[.map (some (w.heap.size + 1 + 1 + 1 + 1))] 94)) (Below.heap_alloc _ _ _ M4.lt)
  generalize W5.alloc (.cells #[.map (some (w.heap.size + 1 + 1 + 1 + 1))] 94) = W6 at *
  rw [z5] at B5
  have B6 := Bk.new W6 95 #[.func (.func 44) #[] #[.pointer (some ⟨w.heap.size + 1 + 1 + 1 + 1 + 1, 0, none⟩), .pointer (some ⟨w.heap.size, 0, none⟩), .pointer (some ⟨w.heap.size + 1 + 1 + 1 + 1 + 1 + 1, 0, none⟩), .pointer (some ⟨w.heap.size + 1 + 1 + 1, 0, none⟩), .pointer (some ⟨w.heap.size + 1, 0, none⟩)]]
  have z7 : (W6.alloc (.cells #[.func (.func 44) #[] #[.pointer (some ⟨w.heap.size + 1 + 1 + 1 + 1 + 1, 0, none⟩), .pointer (some ⟨w.heap.size, 0, none⟩), .pointer (some ⟨w.heap.size + 1 + 1 + 1 + 1 + 1 + 1, 0, none⟩), .pointer (some ⟨w.heap.size + 1 + 1 + 1, 0, none⟩), .pointer (some ⟨w.heap.size + 1, 0, none⟩)]] 95)).heap.size = w.heap.size + 1 + 1 + 1 + 1 + 1 + 1 + 1 := by rw [World.size_alloc, z6]
  have K7 : Keep NoF w (W6.alloc (.cells #[.func (.func 44) #[] #[.pointer (some ⟨w.heap.size + 1 + 1 + 1 + 1 + 1, 0, none⟩), .pointer (some ⟨w.heap.size, 0, none⟩), .pointer (some ⟨w.heap.size + 1 + 1 + 1 + 1 + 1 + 1, 0, none⟩), .pointer (some ⟨w.heap.size + 1 + 1 + 1, 0, none⟩), .pointer (some ⟨w.heap.size + 1, 0, none⟩)]] 95)) := K6.alloc _
  have B0 := B0.alloc (.cells #[.func (.func 44) #[] #[.pointer (some ⟨w.heap.size + 1 + 1 + 1 + 1 + 1, 0, none⟩), .pointer (some ⟨w.heap.size, 0, none⟩), .pointer (some ⟨w.heap.size + 1 + 1 + 1 + 1 + 1 + 1, 0, none⟩), .pointer (some ⟨w.heap.size + 1 + 1 + 1, 0, none⟩), .pointer (some ⟨w.heap.size + 1, 0, none⟩)]] 95)
  have B1 := B1.alloc (.cells #[.func (.func 44) #[] #[.pointer (some ⟨w.heap.size + 1 + 1 + 1 + 1 + 1, 0, none⟩), .pointer (some ⟨w.heap.size, 0, none⟩), .pointer (some ⟨w.heap.size + 1 + 1 + 1 + 1 + 1 + 1, 0, none⟩), .pointer (some ⟨w.heap.size + 1 + 1 + 1, 0, none⟩), .pointer (some ⟨w.heap.size + 1, 0, none⟩)]] 95)
  have M2 := M2.block (w' := W6.alloc (.cells #[.func (.func 44) #[] #[.pointer (some ⟨w.heap.size + 1 + 1 + 1 + 1 + 1, 0, none⟩), .pointer (some ⟨w.heap.size, 0, none⟩), .pointer (some ⟨w.heap.size + 1 + 1 + 1 + 1 + 1 + 1, 0, none⟩), .pointer (some ⟨w.heap.size + 1 + 1 + 1, 0, none⟩), .pointer (some ⟨w.heap.size + 1, 0, none⟩)]] 95)) (Below.heap_alloc _ _ _ M2.lt)
  have B3 := B3.alloc (.cells #[.func (.func 44) #[] #[.pointer (some ⟨w.heap.size + 1 + 1 + 1 + 1 + 1, 0, none⟩), .pointer (some ⟨w.heap.size, 0, none⟩), .pointer (some ⟨w.heap.size + 1 + 1 + 1 + 1 + 1 + 1, 0, none⟩), .pointer (some ⟨w.heap.size + 1 + 1 + 1, 0, none⟩), .pointer (some ⟨w.heap.size + 1, 0, none⟩)]] 95)
  have M4 := M4.block (w' := W6.alloc (.cells #[.func (.func 44) #[] #[.pointer (some ⟨w.heap.size + 1 + 1 + 1 + 1 + 1, 0, none⟩), .pointer (some ⟨w.heap.size, 0, none⟩), .pointer (some ⟨w.heap.size + 1 + 1 + 1 + 1 + 1 + 1, 0, none⟩), .pointer (some ⟨w.heap.size + 1 + 1 + 1, 0, none⟩), .pointer (some ⟨w.heap.size + 1, 0, none⟩)]] 95)) (Below.heap_alloc _ _ _ M4.lt)
  have B5 := B5.alloc (.cells #[.func (.func 44) #[] #[.pointer (some ⟨w.heap.size + 1 + 1 + 1 + 1 + 1, 0, none⟩), .pointer (some ⟨w.heap.size, 0, none⟩), .pointer (some ⟨w.heap.size + 1 + 1 + 1 + 1 + 1 + 1, 0, none⟩), .pointer (some ⟨w.heap.size + 1 + 1 + 1, 0, none⟩), .pointer (some ⟨w.heap.size + 1, 0, none⟩)]] 95)
  generalize W6.alloc (.cells #[.func (.func 44) #[] #[.pointer (some ⟨w.heap.size + 1 + 1 + 1 + 1 + 1, 0, none⟩), .pointer (some ⟨w.heap.size, 0, none⟩), .pointer (some ⟨w.heap.size + 1 + 1 + 1 + 1 + 1 + 1, 0, none⟩), .pointer (some ⟨w.heap.size + 1 + 1 + 1, 0, none⟩), .pointer (some ⟨w.heap.size + 1, 0, none⟩)]] 95) = W7 at *
  rw [z6] at B6
  have hv : FV W7 (w.heap.size + 1 + 1 + 1 + 1 + 1) (w.heap.size) (w.heap.size + 1 + 1 + 1 + 1 + 1 + 1) (w.heap.size + 1 + 1 + 1) (w.heap.size + 1) (w.heap.size + 1 + 1) (w.heap.size + 1 + 1 + 1 + 1) A f.length c := ⟨B0, B3, B5, B6⟩
  have hs : FS W7 (w.heap.size + 1) (w.heap.size + 1 + 1) (w.heap.size + 1 + 1 + 1 + 1) [] (fun _ => none) (fun k => k = w.heap.size + 1 ∨ k = w.heap.size + 1 + 1 ∨ k = w.heap.size + 1 + 1 + 1 + 1) :=
    ⟨.slice none 0 0, B1, World.ownsRow_nil _ _ _ _, M2.congr fun x => by simp [numb], M4, by omega, fun k => by simp [Value.ownBlock]⟩
  refine (fin_any i f _ _ _ _ _ _ _ A c _ W7 [] _ [] HC.out HI.out (Inv.start f) (HRD.out.kept K7 fun _ _ h => h) hv hs (fun k hk => ?_) (by omega) (by omega) (by omega) (by omega)).mono ?_
  · have := hfl k hk
    omega
  rintro e w8 ⟨K', g', ds', rfl, hs8, _, _, hk8, hK8⟩
  obtain ⟨ov, hd8, ho8, _, _, _, hKK⟩ := hs8
  obtain ⟨OA, oc, rfl⟩ := own_form ho8
  have hrd8 := Rd.of_own ho8
  have k8 : Keep NoF w w8 := K7.trans hk8 fun k hk h => by omega
  have HFR : Hid (∀ k, (Value.slice OA (ins (tree f i) []).2.length oc).ownBlock = some k → w.heap.size ≤ k) := Lib.hid fun k hk => by
    rcases hK8 k ((hKK k).2 (.inr (.inr (.inr hk)))) with h | h
    · rcases h with h | h | h <;> omega
    · omega
  clear hKK hK8
  have c8 := hd8.cell 0
  generalize (ins (tree f i) []).2 = L at *
  go_wp2
  go_ret
  exact ⟨OA, oc, rfl, hrd8, k8, HFR.out⟩
theorem Sub_any (f : List Nd) (i : Int) (A : Option Addr) (c : Nat) (w : World) (hll : f.length ≤ 9223372036854775807) (hrd : Rd w (.slice A f.length c) 6 f.length (fmC f)) :
    Calls Try.prog 14 #[.slice A f.length c, .int .i64 i] w (FmPost w (subL f i)) := by
  have HCK := Lib.hid (fmCheck_any f A c w hll hrd)
  have hnil : ∀ w', Keep NoF w w' → FmPost w [] (.returned (.slice none 0 0)) w' := fun w' hk => ⟨none, 0, rfl, Rd.nil _ _, hk, fun k h => by simp [Value.ownBlock] at h⟩
  have HNIL := Lib.hid hnil
  clear hnil
  by_cases hc : checkE f = 0
  · by_cases h1 : i < 0
    · rw [show subL f i = [] by unfold subL; rw [if_pos (.inr (.inl h1))]]
      rw [hc] at HCK
      go_enter Try.func14, Try.ntmps14
      go_wp2_with (go_at_call 21; (with_reducible refine HCK.out.mono ?_); rintro e w2 ⟨rfl, K2⟩)
      go_ret
      exact HNIL.out _ K2
    · by_cases h2 : (f.length : Int) ≤ i
      · rw [show subL f i = [] by unfold subL; rw [if_pos (.inr (.inr h2))]]
        rw [hc] at HCK
        go_enter Try.func14, Try.ntmps14
        go_wp2_with (go_at_call 21; (with_reducible refine HCK.out.mono ?_); rintro e w2 ⟨rfl, K2⟩)
        go_ret
        exact HNIL.out _ K2
      · obtain ⟨k, rfl⟩ : ∃ k : Nat, i = k := ⟨i.toNat, by omega⟩
        rw [show subL f (k : Int) = cl (tree f k) by unfold subL; rw [if_neg (by omega), Int.toNat_natCast]]
        have HCO := Lib.hid fun W (hk : Keep NoF w W) => fmcompact_any f (Fm.Okf.of_check hc) k (by omega) A c W (hrd.kept hk fun _ _ h => h)
        rw [hc] at HCK
        generalize cl (tree f k) = L at *
        have h2' : (k : Int) < (f.length : Int) := by omega
        clear hrd
        go_enter Try.func14, Try.ntmps14
        go_wp2_with (first
          | (go_at_call 21; (with_reducible refine HCK.out.mono ?_); rintro e w2 ⟨rfl, K2⟩)
          | (go_at_call 22; (with_reducible refine (HCO.out _ K2).mono ?_); rintro e w3 ⟨A3, c3, rfl, R3, K3, F3⟩))
        go_ret
        exact ⟨A3, c3, rfl, R3, K2.trans K3 fun _ _ h => h, fun k h => Nat.le_trans K2.size (F3 k h)⟩
  · rw [show subL f i = [] by unfold subL; rw [if_pos (.inl hc)]]
    have hne : (checkE f != 0) = true := by simpa using hc
    generalize checkE f = ce at *
    go_enter Try.func14, Try.ntmps14
    go_wp2_with (go_at_call 21; (with_reducible refine HCK.out.mono ?_); rintro e w2 ⟨rfl, K2⟩)
    go_ret
    exact HNIL.out _ K2
theorem Compact_any (f : List Nd) (A : Option Addr) (c : Nat) (w : World) (hll : f.length ≤ 9223372036854775807) (hrd : Rd w (.slice A f.length c) 6 f.length (fmC f)) :
    Calls Try.prog 7 #[.slice A f.length c] w (FmPost w (compactL f)) := by
  have HS : Hid (Calls Try.prog 14 #[.slice A f.length c, .int .i64 ((f.length : Int) - 1)] w (FmPost w (compactL f))) := Lib.hid (Sub_any f _ A c w hll hrd)
  generalize compactL f = L at *
  generalize f.length = n at *
  go_enter Try.func7, Try.ntmps7
  go_wp2_with (go_at_call 14; (with_reducible refine HS.out.mono ?_); rintro e w2 ⟨A3, c3, rfl, R3, K3, F3⟩)
  go_ret
  exact ⟨A3, c3, rfl, R3, K3, F3⟩
end
end Go.Proofs.Ytmjdbbfoihadoaa
namespace Fm
open Form
/-- The operands' lists, one behind the other. -/
def accF (acc : List Nd) (os : List (List Nd)) : List Nd := os.foldl (fun acc o => acc ++ shiftL acc.length (compactL o)) acc
def accL (os : List (List Nd)) : List Nd := accF [] os
theorem accL_snoc (os : List (List Nd)) (o : List Nd) : accL (os ++ [o]) = accL os ++ shiftL (accL os).length (compactL o) := by unfold accL accF; rw [List.foldl_append]; rfl
theorem shift_own {m : Nat} {o : List Nd} (h : OwnAll o) : OwnAll (shiftL m o) := fun k n hk => by
  rw [shiftL, List.getElem?_map] at hk
  obtain ⟨a, ha, rfl⟩ := Option.map_eq_some_iff.1 hk
  exact h k a ha
theorem own_append {p o : List Nd} (hp : OwnAll p) (ho : OwnAll o) : OwnAll (p ++ o) := fun k n hk => by
  by_cases hlt : k < p.length
  · rw [List.getElem?_append_left hlt] at hk
    exact hp k n hk
  · rw [List.getElem?_append_right (by omega)] at hk
    exact ho _ n hk
theorem compactL_own {f : List Nd} (h : checkE f = 0) : OwnAll (compactL f) := by
  rw [compactL_ok h]
  exact ins_own (tr_good h) fun k n hk => by simp at hk
theorem compactL_ord {f : List Nd} (h : checkE f = 0) : Ord (compactL f) := by
  rw [compactL_ok h]
  exact cl_ord (tr_good h).fit
theorem compactL_len {f : List Nd} (h : checkE f = 0) : (compactL f).length ≤ 200 ∧ 0 < (compactL f).length := by
  rw [compactL_ok h]
  have := cl_tr_le h
  have := (checkE_zero.1 h).2.1
  exact ⟨by omega, cl_pos _⟩
theorem accF_ok : ∀ (os : List (List Nd)) (acc : List Nd), (∀ o ∈ os, checkE o = 0) → Ord acc → OwnAll acc → Ord (accF acc os) ∧ OwnAll (accF acc os) ∧ (accF acc os).length ≤ acc.length + 200 * os.length
  | [], acc, _, h1, h2 => ⟨h1, h2, by simp [accF]⟩
  | o :: os, acc, h, h1, h2 => by
    have ho := h o (by simp)
    have hl := (compactL_len ho).1
    obtain ⟨a, b, c⟩ := accF_ok os (acc ++ shiftL acc.length (compactL o)) (fun p hp => h p (by simp [hp])) (ord_append h1 (compactL_ord ho)) (own_append h2 (shift_own (compactL_own ho)))
    refine ⟨a, b, ?_⟩
    simp only [List.length_append, shiftL, List.length_map] at c
    have e : accF acc (o :: os) = accF (acc ++ shiftL acc.length (compactL o)) os := rfl
    rw [e]
    simp only [shiftL, List.length_cons] at c ⊢
    omega
theorem accL_ok {os : List (List Nd)} (h : ∀ o ∈ os, checkE o = 0) : Ord (accL os) ∧ OwnAll (accL os) ∧ (accL os).length ≤ 200 * os.length := by
  have := accF_ok os [] h ord_nil (fun k n hk => by simp at hk)
  rw [List.length_nil, Nat.zero_add] at this
  exact this
/-- The operands' fields behind k operands. -/
def bldX (os : List (List Nd)) (k : Nat) : Int := if k = 0 then 0 else ((accL (os.take 1)).length : Int) - 1
def bldY (os : List (List Nd)) (k : Nat) : Int := if k ≤ 1 then 0 else ((accL (os.take k)).length : Int) - 1
/-- What is built. -/
def bldR (op i e g : Int) (os : List (List Nd)) : List Nd :=
  if os.any (fun o => decide (checkE o ≠ 0)) = true then [] else if nodeE ⟨op, i, e, g, bldX os os.length, bldY os os.length⟩ (accL os).length ≠ 0 then []
  else capped (cl (tree (accL os ++ [⟨op, i, e, g, bldX os os.length, bldY os os.length⟩]) (accL os).length))
theorem bld_okf {op i e g : Int} {os : List (List Nd)} (h : ∀ o ∈ os, checkE o = 0) (hl : os.length ≤ 2) (hn : nodeE ⟨op, i, e, g, bldX os os.length, bldY os os.length⟩ (accL os).length = 0) :
    Okf (accL os ++ [⟨op, i, e, g, bldX os os.length, bldY os os.length⟩]) := by
  obtain ⟨a, b, c⟩ := accL_ok h
  obtain ⟨n1, n2, n3⟩ := nodeE_zero.1 hn
  refine ⟨ord_snoc a n2 n3, own_append b fun k n hk => ?_, by simp; omega⟩
  have := List.mem_of_getElem? hk
  simp at this
  subst this
  exact n1
theorem own_node {op i e g : Int} {k : Int} {x y : Int} (h : own op i e g = false) : nodeE ⟨op, i, e, g, x, y⟩ k ≠ 0 := fun h0 => by
  have := (nodeE_zero.1 h0).1
  simp only at this
  rw [h] at this
  cases this
/-- With the operands that the operator has. -/
theorem bld0 {op i e g : Int} (hx : usesX op = false) : bldR op i e g [] = mk0 op i e g := by
  unfold bldR mk0
  simp only [List.any_nil, Bool.false_eq_true, if_false, List.length_nil, bldX, bldY, if_true, Nat.zero_le]
  cases ho : own op i e g with
  | false => rw [if_pos (own_node ho), if_pos rfl]
  | true =>
    have hn : nodeE ⟨op, i, e, g, 0, 0⟩ ((accL []).length : Int) = 0 := nodeE_zero.2 ⟨ho, by simp [hx, operandB], by simp [usesX_Y hx, operandB]⟩
    rw [if_neg (by simpa using hn), if_neg (by simp)]
    rw [show accL [] = [] from rfl, List.nil_append, List.length_nil, build0 hx]
theorem accL_one (o : List Nd) : accL [o] = shiftL 0 (compactL o) := by
  simp [accL, accF]
theorem bld1 {op i e g : Int} {a : List Nd} (hx : usesX op = true) (hy : usesY op = false) : bldR op i e g [a] = mk1 op i e g a := by
  unfold bldR mk1
  by_cases hc : checkE a = 0
  · have e1 : accL [a] = cl (tr a) := by rw [accL_one, shift_zero, compactL_ok hc]
    have hp := cl_pos (tr a)
    simp only [List.any_cons, List.any_nil, hc, ne_eq, not_true, decide_false, Bool.or_false, Bool.false_eq_true, if_false, List.length_singleton, bldX, bldY, Nat.le_refl, if_true, List.take, Nat.one_ne_zero, e1, false_or]
    cases ho : own op i e g with
    | false => rw [if_pos (own_node ho), if_pos rfl]
    | true =>
      have hn : nodeE ⟨op, i, e, g, ((cl (tr a)).length : Int) - 1, 0⟩ ((cl (tr a)).length : Int) = 0 := nodeE_zero.2 ⟨ho, by simp only [hx, operandB]; simp; omega, by simp [hy, operandB]⟩
      rw [if_neg (by simpa using hn), if_neg (by simp), build1 (tr_good hc).fit hx hy rfl]
  · rw [if_pos (by simp [hc]), if_pos (.inl hc)]
theorem bld2 {op i e g : Int} {a b : List Nd} (hy : usesY op = true) : bldR op i e g [a, b] = mk2 op i e g a b := by
  unfold bldR mk2
  by_cases hc : checkE a = 0
  · by_cases hd : checkE b = 0
    · have e1 : accL [a] = cl (tr a) := by rw [accL_one, shift_zero, compactL_ok hc]
      have e2 : accL [a, b] = cl (tr a) ++ shiftL (cl (tr a)).length (cl (tr b)) := by
        have := accL_snoc [a] b
        rw [e1, compactL_ok hd] at this
        exact this
      have hp := cl_pos (tr a)
      have hq := cl_pos (tr b)
      have hl : (cl (tr a) ++ shiftL (cl (tr a)).length (cl (tr b))).length = (cl (tr a)).length + (cl (tr b)).length := by simp [shiftL]
      simp only [List.any_cons, List.any_nil, hc, hd, ne_eq, not_true, decide_false, Bool.or_false, Bool.false_eq_true, if_false, List.length_cons, List.length_nil, bldX, bldY, List.take, e1, e2, false_or]
      rw [if_neg (show ¬ (0 + 1 + 1 ≤ 1) by omega)]
      cases ho : own op i e g with
      | false => rw [if_pos (own_node ho), if_pos rfl]
      | true =>
        have hn : nodeE ⟨op, i, e, g, ((cl (tr a)).length : Int) - 1, ((cl (tr a) ++ shiftL (cl (tr a)).length (cl (tr b))).length : Int) - 1⟩ ((cl (tr a) ++ shiftL (cl (tr a)).length (cl (tr b))).length : Int) = 0 :=
          nodeE_zero.2 ⟨ho, by simp only [usesY_X hy, operandB, hl]; simp; omega, by simp only [hy, operandB, hl]; simp; omega⟩
        rw [if_neg (by simpa using hn), if_neg (by simp), build2 (tr_good hc).fit (tr_good hd).fit hy rfl rfl, if_neg (by simp)]
    · rw [if_pos (by simp [hd]), if_pos (.inr (.inl hd))]
  · rw [if_pos (by simp [hc]), if_pos (.inl hc)]
end Fm
