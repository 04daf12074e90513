/- A signature as an argument; what both functions Check do. Conditions: the variables lie as they are read. -/
import Derived.Test.YtbidfbojealmlaaGreatDoorSgC
set_option linter.unusedVariables false
set_option linter.unusedSimpArgs false
namespace Go.Proofs.YtbidfbojealmlaaGreatDoor
open Go.RowKit

/-- The signature S lies at the three slices. -/
structure SigR (w : World) (S : Sg) (a : Option Addr) (ca : Nat) (f : Option Addr) (cf : Nat) (c : Option Addr) (cc : Nat) : Prop where
  A : Rd w (.slice a S.A.length ca) 1 S.A.length (strs S.A)
  F : Rd w (.slice f S.F.length cf) 1 S.F.length (strs S.F)
  C : Rd w (.slice c S.C.length cc) 1 S.C.length (strs S.C)
  sz : ∀ x ∈ S.all, x.size ≤ 9223372036854775807
  lA : S.A.length ≤ 9223372036854775807
  lF : S.F.length ≤ 9223372036854775807
  lC : S.C.length ≤ 9223372036854775807
theorem SigR.keep {w w' : World} {S : Sg} {a f c : Option Addr} {ca cf cc : Nat} (h : SigR w S a ca f cf c cc) (hk : Keep NoF w w') : SigR w' S a ca f cf c cc :=
  ⟨h.A.kept hk fun _ _ h => h, h.F.kept hk fun _ _ h => h, h.C.kept hk fun _ _ h => h, h.sz, h.lA, h.lF, h.lC⟩
/-- The cells of a signature in a variable of the callee. -/
def boxS (S : Sg) (a : Option Addr) (ca : Nat) (f : Option Addr) (cf : Nat) (c : Option Addr) (cc : Nat) : Array Value := #[.slice a S.A.length ca, .slice f S.F.length cf, .slice c S.C.length cc]
theorem box_cells {w w' : World} {S : Sg} {a f c : Option Addr} {ca cf cc : Nat} {t : TypeId} (hk : Keep NoF (w.alloc (.cells (boxS S a ca f cf c cc) t)) w') :
    w'.cell? ⟨w.heap.size, 0, none⟩ = some (.slice a S.A.length ca) ∧ w'.cell? ⟨w.heap.size, 1, none⟩ = some (.slice f S.F.length cf) ∧ w'.cell? ⟨w.heap.size, 2, none⟩ = some (.slice c S.C.length cc) ∧ w.heap.size + 1 ≤ w'.heap.size := by
  have hb := Bk.new w t (boxS S a ca f cf c cc)
  refine ⟨hk.cellv ((hb.cell 0).trans rfl) fun h => h, hk.cellv ((hb.cell 1).trans rfl) fun h => h, hk.cellv ((hb.cell 2).trans rfl) fun h => h, ?_⟩
  have := hk.size
  rwa [World.size_alloc] at this
theorem strs_snoc (l : List ByteArray) (x : ByteArray) : strs l ++ [Value.string x] = strs (l ++ [x]) := by simp [strs]
theorem take_snoc {l : List ByteArray} {k : Nat} {x : ByteArray} (h : l[k]? = some x) : l.take (k + 1) = l.take k ++ [x] := by
  rw [List.take_add_one, h]
  rfl

section
set_option maxRecDepth 100000
set_option maxHeartbeats 2000000
theorem rall_any (S : Sg) (a f c : Option Addr) (ca cf cc : Nat) (w : World) (hS : SigR w S a ca f cf c cc) (lA : S.A.length ≤ 12) (lF : S.F.length ≤ 12) (lC : S.C.length ≤ 12) :
    Calls Tryz.prog 55 #[.agg #[.slice a S.A.length ca, .slice f S.F.length cf, .slice c S.C.length cc]] w fun e w' => ∃ v, e = .returned v ∧ NewL w S.all v w' := by
  have HB := Lib.hid (fun w' => @box_cells w w' S a f c ca cf cc 24)
  have hK0 : Keep NoF w (w.alloc (.cells (boxS S a ca f cf c cc) 24)) := (Keep.refl _ _).alloc _
  unfold boxS at *
  go_enter Tryz.func55, Tryz.ntmps55
  go_wp2
  go_loopw [3, 4] (fun v i wr => ∃ (k : Nat) (p : List ByteArray), i = .int .i64 k ∧ k ≤ S.A.length ∧ Hid (p = (S.A.take k)) ∧ wr.ownsRow (w.heap.size + 1) 9 1 v p.length (strs p) ∧ Keep NoF (w.alloc (.cells #[.slice a S.A.length ca, .slice f S.F.length cf, .slice c S.C.length cc] 24)) wr) (fun _ i _ => S.A.length - (intOf i).toNat)
  case atStart => exact ⟨0, [], rfl, by omega, Lib.hid rfl, World.ownsRow_nil _ _ _ _, Keep.refl _ _⟩
  case round =>
    obtain ⟨k, p, rfl, hk, HQ, hown, hkr⟩ := hrel
    obtain ⟨c0, c1, c2, hsz⟩ := HB.out wr hkr
    by_cases hlt : k < S.A.length
    · have hx : S.A[k]? = some S.A[k] := List.getElem?_eq_getElem hlt
      have hrd := (hS.keep (hK0.trans hkr fun _ _ h => h)).A
      obtain ⟨-, hcc, bl, off, rfl, hc⟩ := hrd.str hx
      have HT := Lib.hid (take_snoc hx)
      have hll : p.length ≤ 40 := by rw [HQ.out]; simp only [List.length_append, List.length_take]; omega
      clear hx hrd
      generalize S.A[k] = x at *
      obtain ⟨B, cb, rfl⟩ := own_form hown
      go_wp2_with (at_builtin
                   refine wpList_app (by rfl) eStrs (.tmp 14) (.tmp 20) (by rfl) (by rfl) (hown.alloc _) ⟨wr.heap.size, 0, none⟩ 1 1 [.string x] (by rfl) (by rfl)
                     (World.news_of_block (cs := #[.string x]) (t := 9) (fr := (0, 0)) (heap_alloc_new wr _)) (by simp [Value.oneCell']) (by omega) (by omega) (by omega) (by simp; omega) ?_
                   intro g4 cap4 w4 hown4 hA4)
      go_roundw
      case rel =>
        refine ⟨k + 1, p ++ [x], by go_num, by omega, Lib.hid (by simp [HT.out, HQ.out]), ?_, (hkr.alloc _).grown hA4.grown fun x hx => .inr (by have := (hown.lt x hx).1; rw [World.size_alloc]; exact this)⟩
        rw [strs_snoc] at hown4
        rw [List.length_append]
        exact hown4
      case measure => simp only [intOf]; omega
    · obtain rfl : k = S.A.length := by omega
      have hownE := hown
      have hkE := hkr
      have HP : Hid (p = S.A) := Lib.hid (by rw [HQ.out, List.take_length])
      clear hown hkr HQ
      go_wp2
      go_loopw [3, 5] (fun v i wr => ∃ (k : Nat) (p : List ByteArray), i = .int .i64 k ∧ k ≤ S.F.length ∧ Hid (p = (S.A ++ S.F.take k)) ∧ wr.ownsRow (w.heap.size + 1) 9 1 v p.length (strs p) ∧ Keep NoF (w.alloc (.cells #[.slice a S.A.length ca, .slice f S.F.length cf, .slice c S.C.length cc] 24)) wr) (fun _ i _ => S.F.length - (intOf i).toNat)
      case atStart => exact ⟨0, p, rfl, by omega, Lib.hid (by rw [HP.out, List.take_zero, List.append_nil]), hownE, hkE⟩
      case round =>
        obtain ⟨k, p, rfl, hk, HQ, hown, hkr⟩ := hrel
        obtain ⟨c0, c1, c2, hsz⟩ := HB.out wr hkr
        by_cases hlt : k < S.F.length
        · have hx : S.F[k]? = some S.F[k] := List.getElem?_eq_getElem hlt
          have hrd := (hS.keep (hK0.trans hkr fun _ _ h => h)).F
          obtain ⟨-, hcc, bl, off, rfl, hc⟩ := hrd.str hx
          have HT := Lib.hid (take_snoc hx)
          have hll : p.length ≤ 40 := by rw [HQ.out]; simp only [List.length_append, List.length_take]; omega
          clear hx hrd
          generalize S.F[k] = x at *
          obtain ⟨B, cb, rfl⟩ := own_form hown
          go_wp2_with (at_builtin
                       refine wpList_app (by rfl) eStrs (.tmp 29) (.tmp 35) (by rfl) (by rfl) (hown.alloc _) ⟨wr.heap.size, 0, none⟩ 1 1 [.string x] (by rfl) (by rfl)
                         (World.news_of_block (cs := #[.string x]) (t := 9) (fr := (0, 0)) (heap_alloc_new wr _)) (by simp [Value.oneCell']) (by omega) (by omega) (by omega) (by simp; omega) ?_
                       intro g4 cap4 w4 hown4 hA4)
          go_roundw
          case rel =>
            refine ⟨k + 1, p ++ [x], by go_num, by omega, Lib.hid (by simp [HT.out, HQ.out]), ?_, (hkr.alloc _).grown hA4.grown fun x hx => .inr (by have := (hown.lt x hx).1; rw [World.size_alloc]; exact this)⟩
            rw [strs_snoc] at hown4
            rw [List.length_append]
            exact hown4
          case measure => simp only [intOf]; omega
        · obtain rfl : k = S.F.length := by omega
          have hownE := hown
          have hkE := hkr
          have HP : Hid (p = S.A ++ S.F) := Lib.hid (by rw [HQ.out, List.take_length])
          clear hown hkr HQ
          go_wp2
          go_loopw [3, 6] (fun v i wr => ∃ (k : Nat) (p : List ByteArray), i = .int .i64 k ∧ k ≤ S.C.length ∧ Hid (p = (S.A ++ S.F ++ S.C.take k)) ∧ wr.ownsRow (w.heap.size + 1) 9 1 v p.length (strs p) ∧ Keep NoF (w.alloc (.cells #[.slice a S.A.length ca, .slice f S.F.length cf, .slice c S.C.length cc] 24)) wr) (fun _ i _ => S.C.length - (intOf i).toNat)
          case atStart => exact ⟨0, p, rfl, by omega, Lib.hid (by rw [HP.out, List.take_zero, List.append_nil]), hownE, hkE⟩
          case round =>
            obtain ⟨k, p, rfl, hk, HQ, hown, hkr⟩ := hrel
            obtain ⟨c0, c1, c2, hsz⟩ := HB.out wr hkr
            by_cases hlt : k < S.C.length
            · have hx : S.C[k]? = some S.C[k] := List.getElem?_eq_getElem hlt
              have hrd := (hS.keep (hK0.trans hkr fun _ _ h => h)).C
              obtain ⟨-, hcc, bl, off, rfl, hc⟩ := hrd.str hx
              have HT := Lib.hid (take_snoc hx)
              have hll : p.length ≤ 40 := by rw [HQ.out]; simp only [List.length_append, List.length_take]; omega
              clear hx hrd
              generalize S.C[k] = x at *
              obtain ⟨B, cb, rfl⟩ := own_form hown
              go_wp2_with (at_builtin
                           refine wpList_app (by rfl) eStrs (.tmp 44) (.tmp 50) (by rfl) (by rfl) (hown.alloc _) ⟨wr.heap.size, 0, none⟩ 1 1 [.string x] (by rfl) (by rfl)
                             (World.news_of_block (cs := #[.string x]) (t := 9) (fr := (0, 0)) (heap_alloc_new wr _)) (by simp [Value.oneCell']) (by omega) (by omega) (by omega) (by simp; omega) ?_
                           intro g4 cap4 w4 hown4 hA4)
              go_roundw
              case rel =>
                refine ⟨k + 1, p ++ [x], by go_num, by omega, Lib.hid (by simp [HT.out, HQ.out]), ?_, (hkr.alloc _).grown hA4.grown fun x hx => .inr (by have := (hown.lt x hx).1; rw [World.size_alloc]; exact this)⟩
                rw [strs_snoc] at hown4
                rw [List.length_append]
                exact hown4
              case measure => simp only [intOf]; omega
            · obtain rfl : k = S.C.length := by omega
              have hownE := hown
              have hkE := hkr
              have HP : Hid (p = S.A ++ S.F ++ S.C) := Lib.hid (by rw [HQ.out, List.take_length])
              clear hown hkr HQ
              go_wp2
              go_ret
              exact ⟨_, rfl, by rw [show S.all = p from HP.out.symm]; exact own_base hownE (by omega), hK0.trans hkE fun _ _ h => h⟩
end
end Go.Proofs.YtbidfbojealmlaaGreatDoor
