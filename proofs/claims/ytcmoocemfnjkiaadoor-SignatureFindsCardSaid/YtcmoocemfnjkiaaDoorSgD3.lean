/- The signature with the usual names: what the reference's first and Default do. No condition. -/
import Derived.Test.YtcmoocemfnjkiaaDoorSgD1
set_option linter.unusedVariables false
set_option linter.unusedSimpArgs false
namespace Go.Proofs.YtcmoocemfnjkiaaDoor
open Go.RowKit

theorem after_store {w1 w2 : World} {b i : Nat} {v : Value} {o : Obj} (hk : Keep NoF ((w1.setCell ⟨b, i, none⟩ v).alloc o) w2) : Keep (fun x => x = b) w1 w2 := by
  have h0 : Keep (fun x => x = b) w1 (w1.setCell ⟨b, i, none⟩ v) := (Keep.refl (fun x => x = b) w1).setCell (p := ⟨b, i, none⟩) (.inl rfl) v
  exact (h0.alloc o).trans hk fun _ _ h => h.elim
section
set_option maxRecDepth 100000
set_option maxHeartbeats 2000000
theorem first_any (l : List ByteArray) (A : Option Addr) (c n : Nat) (w : World) (hl : l.length ≤ 1000) (hn : n ≤ l.length) (hrd : Rd w (.slice A l.length c) 1 l.length (strs l)) :
    Calls Tryd.prog 40 #[.slice A l.length c, .int .i64 n] w fun e w' => ∃ B q, e = .returned (.slice B n q) ∧ w'.ownsRow w.heap.size 9 1 (.slice B n q) n (strs (l.take n)) ∧ Keep NoF w w' := by
  go_enter Tryd.func40, Tryd.ntmps40
  go_wp2
  go_loopw [5, 6] (fun v i wr => ∃ (k : Nat) (p : List ByteArray), i = .int .i64 k ∧ k ≤ n ∧ Hid (p = l.take k) ∧ wr.ownsRow w.heap.size 9 1 v k (strs p) ∧ Keep NoF w wr) (fun _ i _ => n - (intOf i).toNat)
  case atStart => exact ⟨0, [], rfl, by omega, Lib.hid rfl, World.ownsRow_nil _ _ _ _, Keep.refl _ _⟩
  case round =>
    obtain ⟨k, p, rfl, hk, hp, hown, hkr⟩ := hrel
    obtain ⟨B, cb, rfl⟩ := own_form hown
    have hz := hkr.size
    by_cases hlt : k < n
    · have hx : l[k]? = some l[k] := List.getElem?_eq_getElem (by omega)
      obtain ⟨-, hcc, bl, off, rfl, hc⟩ := (hrd.kept hkr fun _ _ h => h).str hx
      have HT := Lib.hid (take_snoc hx)
      clear hx
      generalize l[k] = x at *
      go_wp2_with (at_builtin
                   refine wpList_app (by rfl) eStrs (.tmp 12) (.tmp 17) (by rfl) (by rfl) (hown.alloc _) ⟨wr.heap.size, 0, none⟩ 1 1 [.string x] (by rfl) (by rfl)
                     (World.news_of_block (cs := #[.string x]) (t := 9) (fr := (0, 0)) (heap_alloc_new wr _)) (by simp [Value.oneCell']) (by omega) (by omega) (by omega) (by simp; omega) ?_
                   intro g4 cap4 w4 hown4 hA4)
      go_roundw
      case rel =>
        refine ⟨k + 1, p ++ [x], by go_num, by omega, Lib.hid (by rw [HT.out, hp.out]), ?_, (hkr.alloc _).grown hA4.grown fun x hx => .inr (hown.lt x hx).1⟩
        rw [← strs_snoc]
        exact hown4
      case measure => simp only [intOf]; omega
    · obtain rfl : n = k := by omega
      go_wp2
      go_ret
      exact ⟨B, cb, rfl, by rw [← hp.out]; exact hown, hkr⟩
theorem first_lit (l : List ByteArray) (n : Nat) (hl : l.length ≤ 1000) (hn : n ≤ l.length) (w : World) :
    Calls Tryd.prog 40 #[.slice (some ⟨w.heap.size, 0, none⟩) l.length l.length, .int .i64 n] (w.alloc (.cells (strs l).toArray 9)) fun e w' => ∃ B q, e = .returned (.slice B n q) ∧ w'.ownsRow (w.heap.size + 1) 9 1 (.slice B n q) n (strs (l.take n)) ∧ Keep NoF (w.alloc (.cells (strs l).toArray 9)) w' := by
  have := first_any l (some ⟨w.heap.size, 0, none⟩) l.length n (w.alloc (.cells (strs l).toArray 9)) hl hn (Rd.of_own (World.ownsRow_lit (base := 0) (e := 9) (size := 1) w (strs l).toArray l.length (by omega) (by simp [maxLen]; omega) (by simp)))
  rwa [World.size_alloc] at this
theorem rDefault_no (a f c : Int) (w : World) (h : ¬ okD a f c) : Calls Tryd.prog 19 #[.int .i64 a, .int .i64 f, .int .i64 c] w fun e w' => e = .returned (.tuple #[.agg #[.slice none 0 0, .slice none 0 0, .slice none 0 0], .int .i64 2]) ∧ Keep NoF w w' := by
  have hc : a < 0 ∨ (0 ≤ a ∧ 4 < a) ∨ (0 ≤ a ∧ a ≤ 4 ∧ f < 0) ∨ (0 ≤ a ∧ a ≤ 4 ∧ 0 ≤ f ∧ 8 < f) ∨ (0 ≤ a ∧ a ≤ 4 ∧ 0 ≤ f ∧ f ≤ 8 ∧ c < 0) ∨ (0 ≤ a ∧ a ≤ 4 ∧ 0 ≤ f ∧ f ≤ 8 ∧ 0 ≤ c ∧ 8 < c) := by unfold okD at h; omega
  clear h
  rcases hc with h1 | ⟨h1, h2⟩ | ⟨h1, h2, h3⟩ | ⟨h1, h2, h3, h4⟩ | ⟨h1, h2, h3, h4, h5⟩ | ⟨h1, h2, h3, h4, h5, h6⟩
  all_goals
    go_enter Tryd.func19, Tryd.ntmps19
    go_wp2
    refine bodyPost_ret (v := .tuple #[.agg #[.slice none 0 0, .slice none 0 0, .slice none 0 0], .int .i64 2]) (by simp [results, Tryd.results19, go_sem]) rfl ?_
    exact ⟨rfl, (Keep.refl _ _).alloc _⟩
theorem rDefault_ok (na nf nc : Nat) (w : World) (la : na ≤ 4) (lf : nf ≤ 8) (lc : nc ≤ 8) : Calls Tryd.prog 19 #[.int .i64 na, .int .i64 nf, .int .i64 nc] w fun e w' => ∃ v, e = .returned (.tuple #[v, .int .i64 0]) ∧ SigNew w ⟨agN.take na, faN.take nf, acN.take nc⟩ v w' := by
  have HA := Lib.hid (first_lit agN na (by decide) la)
  have HF := Lib.hid (first_lit faN nf (by decide) lf)
  have HC := Lib.hid (first_lit acN nc (by decide) lc)
  simp only [show agN.length = 4 from rfl, show (strs agN).toArray = #[.string ⟨#[97]⟩, .string ⟨#[98]⟩, .string ⟨#[99]⟩, .string ⟨#[100]⟩] from rfl] at HA
  simp only [show faN.length = 8 from rfl, show (strs faN).toArray = #[.string ⟨#[112]⟩, .string ⟨#[113]⟩, .string ⟨#[114]⟩, .string ⟨#[115]⟩, .string ⟨#[116]⟩, .string ⟨#[117]⟩, .string ⟨#[118]⟩, .string ⟨#[119]⟩] from rfl] at HF
  simp only [show acN.length = 8 from rfl, show (strs acN).toArray = #[.string ⟨#[97, 99, 116, 48]⟩, .string ⟨#[97, 99, 116, 49]⟩, .string ⟨#[97, 99, 116, 50]⟩, .string ⟨#[97, 99, 116, 51]⟩, .string ⟨#[97, 99, 116, 52]⟩, .string ⟨#[97, 99, 116, 53]⟩, .string ⟨#[97, 99, 116, 54]⟩, .string ⟨#[97, 99, 116, 55]⟩] from rfl] at HC
  have hK0 : Keep NoF w ((w.alloc (.cells #[.slice none 0 0, .slice none 0 0, .slice none 0 0] 24)).alloc (.cells #[.slice none 0 0, .slice none 0 0, .slice none 0 0] 24)) := ((Keep.refl _ _).alloc _).alloc _
  have hT0 : Bk ((w.alloc (.cells #[.slice none 0 0, .slice none 0 0, .slice none 0 0] 24)).alloc (.cells #[.slice none 0 0, .slice none 0 0, .slice none 0 0] 24)) w.heap.size 24 #[.slice none 0 0, .slice none 0 0, .slice none 0 0] := (Bk.new w _ _).alloc _
  have hB0 := Bk.new (w.alloc (.cells #[.slice none 0 0, .slice none 0 0, .slice none 0 0] 24)) 24 #[.slice none 0 0, .slice none 0 0, .slice none 0 0]
  have hz0 : ((w.alloc (.cells #[.slice none 0 0, .slice none 0 0, .slice none 0 0] 24)).alloc (.cells #[.slice none 0 0, .slice none 0 0, .slice none 0 0] 24)).heap.size = w.heap.size + 2 := by simp
  rw [World.size_alloc] at hB0
  have HA1 := HA.out ((w.alloc (.cells #[.slice none 0 0, .slice none 0 0, .slice none 0 0] 24)).alloc (.cells #[.slice none 0 0, .slice none 0 0, .slice none 0 0] 24))
  rw [World.size_alloc, World.size_alloc] at HA1
  have HF1 := Lib.hid (fun (q : World) (b : Nat) (v : Value) => HF.out (q.setCell ⟨b, 0, none⟩ v))
  have HC1 := Lib.hid (fun (q : World) (b : Nat) (v : Value) => HC.out (q.setCell ⟨b, 1, none⟩ v))
  simp only [World.size_setCell] at HF1 HC1
  have HA2 := Lib.hid HA1
  have HK0 := Lib.hid hK0
  have HT0 := Lib.hid hT0
  have HB0 := Lib.hid hB0
  have HZ0 := Lib.hid hz0
  clear hK0 hT0 hB0 hz0 HA1 HA HF HC
  go_enter Tryd.func19, Tryd.ntmps19
  go_wp2_with (first
    | (go_at_call 40
       (with_reducible refine HA2.out.mono ?_)
       rintro e w1 ⟨A0, q0, rfl, hown1, hk1⟩
       have hb1 := (HB0.out.alloc _).keep hk1 (fun h => h)
       have ht1 := (HT0.out.alloc _).keep hk1 (fun h => h)
       have hn1 := (HK0.out.alloc _).trans hk1 fun _ _ h => h
       have c10 : w1.cell? ⟨w.heap.size + 1, 0, none⟩ = some (.slice none 0 0) := (hb1.cell 0).trans rfl
       have f10 : w1.frozen? ⟨w.heap.size + 1, 0, none⟩ = false := hb1.frozen 0
       have HO1 := Lib.hid hown1
       have HK1 := Lib.hid hk1
       clear hown1 hk1)
    | (go_at_call 40
       (with_reducible refine (HF1.out _ _ _).mono ?_)
       rintro e w2 ⟨A1, q1, rfl, hown2, hk2⟩
       have hb2 := ((hb1.put 0 (.slice A0 na q0)).alloc _).keep hk2 (fun h => h)
       have hx2 := after_store hk2
       have ht2 := ht1.keep hx2 (by omega)
       have hn2 := hn1.trans hx2 fun _ _ h => by omega
       have c21 : w2.cell? ⟨w.heap.size + 1, 1, none⟩ = some (.slice none 0 0) := (hb2.cell 1).trans rfl
       have f21 : w2.frozen? ⟨w.heap.size + 1, 1, none⟩ = false := hb2.frozen 1
       have HO2 := Lib.hid hown2
       clear hown2 hk2)
    | (go_at_call 40
       (with_reducible refine (HC1.out _ _ _).mono ?_)
       rintro e w3 ⟨A2, q2, rfl, hown3, hk3⟩
       have hb3 := ((hb2.put 1 (.slice A1 nf q1)).alloc _).keep hk3 (fun h => h)
       have hx3 := after_store hk3
       have ht3 := ht2.keep hx3 (by omega)
       have hn3 := hn2.trans hx3 fun _ _ h => by omega
       have a0 : w3.cell? ⟨w.heap.size + 1, 0, none⟩ = some (.slice A0 na q0) := (hb3.cell 0).trans rfl
       have a1 : w3.cell? ⟨w.heap.size + 1, 1, none⟩ = some (.slice A1 nf q1) := (hb3.cell 1).trans rfl
       have a2 : w3.cell? ⟨w.heap.size + 1, 2, none⟩ = some (.slice none 0 0) := (hb3.cell 2).trans rfl
       have f32 : w3.frozen? ⟨w.heap.size + 1, 2, none⟩ = false := hb3.frozen 2
       have b0 : w3.cell? ⟨w.heap.size, 0, none⟩ = some (.slice none 0 0) := (ht3.cell 0).trans rfl
       have b1 : w3.cell? ⟨w.heap.size, 1, none⟩ = some (.slice none 0 0) := (ht3.cell 1).trans rfl
       have b2 : w3.cell? ⟨w.heap.size, 2, none⟩ = some (.slice none 0 0) := (ht3.cell 2).trans rfl
       have g0 : w3.frozen? ⟨w.heap.size, 0, none⟩ = false := ht3.frozen 0
       have g1 : w3.frozen? ⟨w.heap.size, 1, none⟩ = false := ht3.frozen 1
       have g2 : w3.frozen? ⟨w.heap.size, 2, none⟩ = false := ht3.frozen 2
       have HO3 := Lib.hid hown3
       clear hown3 hk3))
  have U0 : ∀ x, (Value.slice A0 na q0).ownBlock = some x → w.heap.size + 2 ≤ x := fun x hx => by have := (HO1.out.lt x hx).1; omega
  have U1 : ∀ x, (Value.slice A1 nf q1).ownBlock = some x → w.heap.size + 2 ≤ x := fun x hx => by have := (HO2.out.lt x hx).1; have := hb1.lt; omega
  have U2 : ∀ x, (Value.slice A2 nc q2).ownBlock = some x → w.heap.size + 2 ≤ x := fun x hx => by have := (HO3.out.lt x hx).1; have := hb2.lt; omega
  have hx4 : Keep (fun x => x = w.heap.size + 1) w3 (w3.setCell ⟨w.heap.size + 1, 2, none⟩ (.slice A2 nc q2)) := (Keep.refl (fun x => x = w.heap.size + 1) w3).setCell (p := ⟨w.heap.size + 1, 2, none⟩) (.inl rfl) _
  have hx5 := put3 (w3.setCell ⟨w.heap.size + 1, 2, none⟩ (.slice A2 nc q2)) w.heap.size (.slice A0 na q0) (.slice A1 nf q1) (.slice A2 nc q2)
  have R0 := (((((Rd.of_own HO1.out).kept hx2 (fun x hx => by have := U0 x hx; omega)).kept hx3 (fun x hx => by have := U0 x hx; omega)).kept hx4 (fun x hx => by have := U0 x hx; omega)).kept hx5 (fun x hx => by have := U0 x hx; omega))
  have R1 := ((((Rd.of_own HO2.out).kept hx3 (fun x hx => by have := U1 x hx; omega)).kept hx4 (fun x hx => by have := U1 x hx; omega)).kept hx5 (fun x hx => by have := U1 x hx; omega))
  have R2 := (((Rd.of_own HO3.out).kept hx4 (fun x hx => by have := U2 x hx; omega)).kept hx5 (fun x hx => by have := U2 x hx; omega))
  have hnF : Keep NoF w ((((w3.setCell ⟨w.heap.size + 1, 2, none⟩ (.slice A2 nc q2)).setCell ⟨w.heap.size, 0, none⟩ (.slice A0 na q0)).setCell ⟨w.heap.size, 1, none⟩ (.slice A1 nf q1)).setCell ⟨w.heap.size, 2, none⟩ (.slice A2 nc q2)) := (hn3.trans hx4 fun _ _ h => by omega).trans hx5 fun _ _ h => by omega
  have ht4 := ((((ht3.far (p := ⟨w.heap.size + 1, 2, none⟩) (by simp) (.slice A2 nc q2)).put 0 (.slice A0 na q0)).put 1 (.slice A1 nf q1)).put 2 (.slice A2 nc q2))
  have z0 : ((((w3.setCell ⟨w.heap.size + 1, 2, none⟩ (.slice A2 nc q2)).setCell ⟨w.heap.size, 0, none⟩ (.slice A0 na q0)).setCell ⟨w.heap.size, 1, none⟩ (.slice A1 nf q1)).setCell ⟨w.heap.size, 2, none⟩ (.slice A2 nc q2)).cell? ⟨w.heap.size, 0, none⟩ = some (.slice A0 na q0) := (ht4.cell 0).trans rfl
  have z1 : ((((w3.setCell ⟨w.heap.size + 1, 2, none⟩ (.slice A2 nc q2)).setCell ⟨w.heap.size, 0, none⟩ (.slice A0 na q0)).setCell ⟨w.heap.size, 1, none⟩ (.slice A1 nf q1)).setCell ⟨w.heap.size, 2, none⟩ (.slice A2 nc q2)).cell? ⟨w.heap.size, 1, none⟩ = some (.slice A1 nf q1) := (ht4.cell 1).trans rfl
  have z2 : ((((w3.setCell ⟨w.heap.size + 1, 2, none⟩ (.slice A2 nc q2)).setCell ⟨w.heap.size, 0, none⟩ (.slice A0 na q0)).setCell ⟨w.heap.size, 1, none⟩ (.slice A1 nf q1)).setCell ⟨w.heap.size, 2, none⟩ (.slice A2 nc q2)).cell? ⟨w.heap.size, 2, none⟩ = some (.slice A2 nc q2) := (ht4.cell 2).trans rfl
  refine bodyPost_ret (v := .tuple #[.agg #[.slice A0 na q0, .slice A1 nf q1, .slice A2 nc q2], .int .i64 0]) (by simp [results, Tryd.results19, go_sem, z0, z1, z2]) rfl ?_
  exact ⟨_, rfl, sig_def A0 q0 A1 q1 A2 q2 la lf lc R0 R1 R2 hnF⟩
end
end Go.Proofs.YtcmoocemfnjkiaaDoor
