/- What the store's method restrict does, whole. No condition. -/
import Derived.Test.YtengdldkkmknpaaRestr
import Derived.Laws.EntriesVeiled
set_option linter.unusedVariables false
set_option linter.unusedSimpArgs false
namespace Go.Proofs.Ytengdldkkmknpaa
open Go.RowKit
open Dd (var lo mk PhRel PMemo rf atP MemoOk den)

theorem Bk.new' (w : World) (t : TypeId) (cs : Array Value) {k : Nat} (h : k = w.heap.size) : Bk (w.alloc (.cells cs t)) k t cs := h ▸ Bk.new w t cs

theorem ph_op {Φ : BF → BF} {N N' : List Nd} {i r : Nat} {G' : Nd → Option Nat} {M' : Nat → Option Nat} (P : PhRel Φ N i r N' G' M') (hN : N.length ≤ 1000000000000) :
    OpRel N (Φ (den N i)) r N' G' ∧ N'.length ≤ N.length + 419430400 := by
  have h1 : 2 ^ (24 - var N i) ≤ 2 ^ 24 := Nat.pow_le_pow_right (by omega) (by omega)
  have h2 : (25 - var N i) * 2 ^ (24 - var N i) ≤ 25 * 2 ^ 24 := Nat.mul_le_mul (by omega) h1
  have := P.len
  exact ⟨⟨P.pre, P.good, P.memo, P.lt, P.den, by omega⟩, by omega⟩

set_option maxRecDepth 100000 in
theorem restrict_any {b : Nat} {F : Nat → Prop} {w : World} {N : List Nd} {G : Nd → Option Nat} (hs : Sto w b N G F) (A : Dd.Good N) (B : MemoOk N G) (i v : Nat) (t : Bool) (hi : i < N.length + 2) (hv : v < 24) (hN : N.length ≤ 600000000000) :
    Calls Try.prog 77 #[.pointer (some ⟨b, 0, none⟩), .int .i64 i, .int .i64 v, .bool t] w (StoPost b F w (fun r N' G' => OpRel N (rf v t (den N i)) r N' G' ∧ N'.length ≤ N.length + 419430400)) := by
  have hmm := @run_makeMap Try.prog
  have HP : Hid (∀ r N' G' M', PhRel (rf v t) N i r N' G' M' → OpRel N (rf v t (den N i)) r N' G' ∧ N'.length ≤ N.length + 419430400) := Lib.hid fun r N' G' M' P => ph_op P (by omega)
  have HC : Hid (∀ (w1 : World) (mt sb vb tb kb fb : Nat), RCaps w1 b sb vb tb kb fb mt v t → MapInt w1 mt (fun _ => none) → Keep NoF w w1 → (∀ k ∈ mt :: rcaps sb vb tb kb fb, w.heap.size ≤ k) →
      Calls Try.prog 89 #[.int .i64 i, .pointer (some ⟨sb, 0, none⟩), .pointer (some ⟨vb, 0, none⟩), .pointer (some ⟨tb, 0, none⟩), .pointer (some ⟨kb, 0, none⟩), .pointer (some ⟨fb, 0, none⟩)] w1 (fun e w' => ∃ F' N' G' r, e = .returned (.int .i64 (r : Nat)) ∧ Sto w' b N' G' F' ∧
        (OpRel N (rf v t (den N i)) r N' G' ∧ N'.length ≤ N.length + 419430400) ∧ Keep F w w' ∧ ∀ k, F' k → F k ∨ w.heap.size ≤ k)) := Lib.hid fun w1 mt sb vb tb kb fb hc hm hk hge => by
    have hF : ∀ k, F k → k < w.heap.size := hs.lt
    have hl : N.length + (25 - var N i) * 2 ^ (24 - var N i) ≤ 1099500000000 := by
      have h1 : 2 ^ (24 - var N i) ≤ 2 ^ 24 := Nat.pow_le_pow_right (by omega) (by omega)
      have h2 : (25 - var N i) * 2 ^ (24 - var N i) ≤ 25 * 2 ^ 24 := Nat.mul_le_mul (by omega) h1
      omega
    rcases r_fuel (b := b) (sb := sb) (vb := vb) (tb := tb) (kb := kb) (fb := fb) (mt := mt) (v := v) (t := t) 24 with h | h
    · refine (h w1 N G _ F i (hs.kept hk fun _ _ h => h) hm hc (fun k hk' h => by have := hge k (by simp [hk']); have := hF k h; omega) (fun h => by have := hge mt (by simp); have := hF mt h; omega) A B (PMemo.none _ _) hi (by omega) hl).mono ?_
      rintro e w' ⟨F', N', G', M', r, he, hs', hm', P, hk', hF'⟩
      refine ⟨F', N', G', r, he, hs', HP.out _ _ _ _ P, ?_, fun k hk2 => ?_⟩
      · exact (hk.mono (fun _ _ h => h.elim)).trans hk' fun k hk2 h => by
          rcases h with h | h
          · exact h
          · have := hge mt (by simp); omega
      · rcases hF' k hk2 with h | h
        · exact .inl h
        · exact .inr (Nat.le_trans hk.size h)
    · omega
  have hk6 : ∀ (o1 o2 o3 o4 o5 o6 : Obj), Keep NoF w ((((((w.alloc o1).alloc o2).alloc o3).alloc o4).alloc o5).alloc o6) := fun o1 o2 o3 o4 o5 o6 => ((((((Keep.refl _ _).alloc _).alloc _).alloc _).alloc _).alloc _).alloc _
  have HF : Hid (∀ k, F k → k < w.heap.size) := Lib.hid hs.lt
  clear hs A B HP
  have hm3 := MapT.new (((w.alloc (.cells #[.pointer (some ⟨b, 0, none⟩)] 67)).alloc (.cells #[.int .i64 v] 3)).alloc (.cells #[.bool t] 4)) Try.prog 3 inV inV tiny
  have e3 : (((w.alloc (.cells #[.pointer (some ⟨b, 0, none⟩)] 67)).alloc (.cells #[.int .i64 v] 3)).alloc (.cells #[.bool t] 4)).heap.size = w.heap.size + 1 + 1 + 1 := by simp
  rw [e3] at hm3
  have hm4 := hm3.block (w' := (((((w.alloc (.cells #[.pointer (some ⟨b, 0, none⟩)] 67)).alloc (.cells #[.int .i64 v] 3)).alloc (.cells #[.bool t] 4)).alloc (.map #[] 0)).alloc (.cells #[.map (some (w.heap.size + 1 + 1 + 1))] 88))) (Below.heap_alloc _ _ _ hm3.lt)
  have hm5 := hm4.block (w' := ((((((w.alloc (.cells #[.pointer (some ⟨b, 0, none⟩)] 67)).alloc (.cells #[.int .i64 v] 3)).alloc (.cells #[.bool t] 4)).alloc (.map #[] 0)).alloc (.cells #[.map (some (w.heap.size + 1 + 1 + 1))] 88)).alloc (.cells #[.func (.func 89) #[] #[.pointer (some ⟨w.heap.size, 0, none⟩), .pointer (some ⟨w.heap.size + 1, 0, none⟩), .pointer (some ⟨w.heap.size + 1 + 1, 0, none⟩), .pointer (some ⟨w.heap.size + 1 + 1 + 1 + 1, 0, none⟩), .pointer (some ⟨w.heap.size + 1 + 1 + 1 + 1 + 1, 0, none⟩)]] 64))) (Below.heap_alloc _ _ _ hm4.lt)
  have HX := Lib.hid (HC.out ((((((w.alloc (.cells #[.pointer (some ⟨b, 0, none⟩)] 67)).alloc (.cells #[.int .i64 v] 3)).alloc (.cells #[.bool t] 4)).alloc (.map #[] 0)).alloc (.cells #[.map (some (w.heap.size + 1 + 1 + 1))] 88)).alloc (.cells #[.func (.func 89) #[] #[.pointer (some ⟨w.heap.size, 0, none⟩), .pointer (some ⟨w.heap.size + 1, 0, none⟩), .pointer (some ⟨w.heap.size + 1 + 1, 0, none⟩), .pointer (some ⟨w.heap.size + 1 + 1 + 1 + 1, 0, none⟩), .pointer (some ⟨w.heap.size + 1 + 1 + 1 + 1 + 1, 0, none⟩)]] 64)) (w.heap.size + 1 + 1 + 1) w.heap.size (w.heap.size + 1) (w.heap.size + 1 + 1) (w.heap.size + 1 + 1 + 1 + 1) (w.heap.size + 1 + 1 + 1 + 1 + 1)
    ⟨(((((Bk.new' _ _ _ (by simp)).alloc _).alloc _).alloc _).alloc _).alloc _, ((((Bk.new' _ _ _ (by simp)).alloc _).alloc _).alloc _).alloc _, (((Bk.new' _ _ _ (by simp)).alloc _).alloc _).alloc _, (Bk.new' _ _ _ (by simp)).alloc _, Bk.new' _ _ _ (by simp)⟩
    hm5 (hk6 _ _ _ _ _ _) (by
      intro k hk
      simp only [rcaps, List.mem_cons, List.not_mem_nil, or_false] at hk
      omega))
  clear hm3 hm4 hm5 e3 HC
  go_enter Try.func77, Try.ntmps77
  go_wp2_with (go_at_call 89
               (with_reducible refine HX.out.mono ?_)
               rintro e w2 ⟨F2, N2, G2, r2, rfl, hs2, hR2, hk2, hF2⟩)
  go_ret
  exact ⟨F2, N2, G2, r2, rfl, hs2, hR2, hk2, hF2⟩
end Go.Proofs.Ytengdldkkmknpaa
