/- Evidence: what the builder's holds and boolean do. Conditions: the builder's cells are those given. A region in the round of a range over a function: its orders outside of rounds serve, where the post does not let a call outgrow the stack. Evidence: what the builder's modal does. Conditions: the builder's cells are those given; the node's agent or group is one of the model. Evidence: the builder in memory while it makes steps; its premises are about nodes below. No condition. -/
import Derived.Test.YtmjdbbfoihadoaaEwA
import Derived.Test.YtmjdbbfoihadoaaEvU
import Derived.Deep.RegionHeld3
import Derived.Deep.Cut
import Derived.Test.YtmjdbbfoihadoaaEvV
import Derived.Test.YtmjdbbfoihadoaaEvZ
set_option linter.unusedVariables false
set_option linter.unusedSimpArgs false
namespace Go.Proofs.Ytmjdbbfoihadoaa
open Go.RowKit
open Ev
open Fm (Nd)
attribute [local go_sem] Oper.semAt_some

/-- Places in memory. -/
def plC (p : Pl) : List Value := [.int .i64 (p.1 : Int), .int .i64 (p.2 : Int)]
def plsC (l : List Pl) : List Value := l.flatMap plC
theorem plsC_app (l m : List Pl) : plsC (l ++ m) = plsC l ++ plsC m := List.flatMap_append
theorem plsC_len (l : List Pl) : (plsC l).length = l.length * 2 := by
  unfold plsC
  induction l with
  | nil => rfl
  | cons a l ih => rw [List.flatMap_cons, List.length_append, ih, List.length_cons]; show 2 + l.length * 2 = _; omega
theorem plsC_one (l : List Pl) : ∀ u ∈ plsC l, u.oneCell' = true := by
  intro u hu
  unfold plsC at hu
  rw [List.mem_flatMap] at hu
  obtain ⟨c, -, hc⟩ := hu
  unfold plC at hc
  simp only [List.mem_cons, List.not_mem_nil, or_false] at hc
  rcases hc with rfl | rfl <;> rfl
theorem infoPlace : (Try.prog.info? 86).map (fun i => (i.zero, i.size, i.bytes)) = some (some (.agg #[.int .i64 0, .int .i64 0]), 2, 16) := by kernel_rfl
theorem elemPlace : ElemT Try.prog 89 86 (.agg #[.int .i64 0, .int .i64 0]) 2 16 := by
  refine ⟨Try.underlying89, ?_, rfl, by decide⟩
  have h := infoPlace
  cases hi : Try.prog.info? 86 with
  | none => rw [hi] at h; cases h
  | some i => rw [hi] at h; simp only [Option.map_some, Option.some.injEq, Prod.mk.injEq] at h; exact ⟨i, rfl, h.1, h.2.1, h.2.2⟩
def PlsPost (w : World) (l : List Pl) (e : Ending) (w' : World) : Prop := ∃ v, e = .returned v ∧ w'.ownsRow w.heap.size 86 2 v l.length (plsC l) ∧ Keep NoF w w'
/-- A row that was just made, whole. -/
theorem own_new {W : World} {t : TypeId} {base n size : Nat} (xs : List Value) (hb : base ≤ W.heap.size) (hl : xs.length = n * size) (hn : n ≤ maxLen) : (W.alloc (.cells xs.toArray t)).ownsRow base t size (.slice (some ⟨W.heap.size, 0, none⟩) n n) n xs := by
  refine ⟨hl, .inr ⟨W.heap.size, n, xs.toArray, rfl, hb, heap_alloc_new W _, Nat.le_refl _, hn, ?_, ?_⟩⟩
  · simpa using hl
  · show xs.take (n * size) = xs
    rw [← hl, List.take_length]
section
set_option maxRecDepth 100000
set_option maxHeartbeats 4000000
variable {w : World} {S : List Nat} {zA : Option Addr} {zc b : Nat}
theorem evholds_any (c4 : w.cell? ⟨b, 4, none⟩ = some (.slice zA S.length zc)) (hZ : Rd w (.slice zA S.length zc) 1 S.length (u6 S)) (hS : ∀ x ∈ S, x < 18446744073709551616) (wd k : Nat) (hk : k < S.length) (hw : wd < 64) :
    Calls Try.prog 40 #[.pointer (some ⟨b, 0, none⟩), .int .i64 (wd : Int), .int .i64 (k : Int)] w fun e w' => e = .returned (.bool (hasN S wd k)) ∧ w' = w := by
  have hs64 : S.getD k 0 < 18446744073709551616 := by
    rw [List.getD_eq_getElem?_getD, List.getElem?_eq_getElem hk]
    exact hS _ (List.getElem_mem hk)
  obtain ⟨-, hzc, zb, zo, rfl, hc⟩ := hZ.nat_lt hk
  have hbit : (bits .and .u64 ((S.getD k 0 : Nat) / 2 ^ wd) 1 == 1) = hasN S wd k := sbit_eq wd hs64
  have l1 : (k : Int) < (S.length : Int) := by omega
  have l0 : (0 : Int) ≤ (k : Int) := by omega
  have l9 : ¬ (wd : Int) < 0 := by omega
  have hmin : min wd 64 = wd := Nat.min_eq_left (by omega)
  generalize hasN S wd k = d at *
  generalize S.getD k 0 = v at *
  generalize S.length = n at *
  clear hZ hS
  go_enter Try.func40, Try.ntmps40
  go_wp2
  go_ret
  exact ⟨rfl, rfl⟩
theorem evboolean_5 (c4 : w.cell? ⟨b, 4, none⟩ = some (.slice zA S.length zc)) (hZ : Rd w (.slice zA S.length zc) 1 S.length (u6 S)) (hS : ∀ x ∈ S, x < 18446744073709551616) (wd : Nat) (hw : wd < 64) (i e0 g : Int) (x y : Nat) (hx : x < S.length) (h : Bool) :
    Calls Try.prog 41 #[.pointer (some ⟨b, 0, none⟩), .int .i64 (wd : Int), .agg #[.int .i64 5, .int .i64 i, .int .i64 e0, .int .i64 g, .int .i64 (x : Int), .int .i64 (y : Int)], .bool h] w (PlsPost w (boolN S ⟨5, i, e0, g, x, y⟩ wd h)) := by
  have HB : Hid (boolN S ⟨5, i, e0, g, x, y⟩ wd h = if (!h) = true then (if (hasN S wd x == false) = true then [(wd, x)] else [(wd, y)]) else [(wd, x), (wd, y)]) := Lib.hid (by unfold boolN; simp only [Fm.Nd.x, Fm.Nd.y, Int.toNat_natCast]; cases h <;> rfl)
  have k1 : Keep NoF w (w.alloc (.cells #[.int .i64 5, .int .i64 i, .int .i64 e0, .int .i64 g, .int .i64 (x : Int), .int .i64 (y : Int)] 53)) := (Keep.refl _ _).alloc _
  have HN := Lib.hid (Bk.new w 53 #[.int .i64 5, .int .i64 i, .int .i64 e0, .int .i64 g, .int .i64 (x : Int), .int .i64 (y : Int)])
  have HK1 := Lib.hid k1
  have HH : Hid (∀ W : World, Keep NoF w W → Calls Try.prog 40 #[.pointer (some ⟨b, 0, none⟩), .int .i64 (wd : Int), .int .i64 (x : Int)] W fun e w' => e = .returned (.bool (hasN S wd x)) ∧ w' = W) := Lib.hid fun W hk => evholds_any (hk.cellv c4 fun h => h) (hZ.kept hk fun _ _ h => h) hS wd x hx hw
  clear k1 c4 hZ hS hx
  go_enter Try.func41, Try.ntmps41
  go_upto_region 1 with (fail)
  generalize w.alloc (.cells #[.int .i64 5, .int .i64 i, .int .i64 e0, .int .i64 g, .int .i64 (x : Int), .int .i64 (y : Int)] 53) = W1 at *
  have n4 := HN.out.cell 4
  have n5 := HN.out.cell 5
  have HSS : Hid (∀ w' : World, Keep NoF W1 w' → w'.cell? ⟨w.heap.size, 4, none⟩ = some (.int .i64 (x : Int)) ∧ w'.cell? ⟨w.heap.size, 5, none⟩ = some (.int .i64 (y : Int))) := Lib.hid fun w' h => ⟨h.cellv n4 fun h => h, h.cellv n5 fun h => h⟩
  go_cut [9, 10] from 11 to 59 (fun v9 v10 wc => ∃ bx by_ : Nat, v9 = .pointer (some ⟨bx, 0, none⟩) ∧ v10 = .pointer (some ⟨by_, 0, none⟩) ∧ Bk wc bx 86 #[.int .i64 (wd : Int), .int .i64 (x : Int)] ∧ Bk wc by_ 86 #[.int .i64 (wd : Int), .int .i64 (y : Int)] ∧ Keep NoF W1 wc)
  case first =>
    have HA := Lib.hid (Bk.new W1 86 #[.int .i64 (wd : Int), .int .i64 (x : Int)])
    have HC := Lib.hid (Bk.new W1 86 #[.int .i64 (wd : Int), .int .i64 (y : Int)])
    go_region_held3 (fun w' => w'.cell? ⟨w.heap.size, 4, none⟩ = some (.int .i64 (x : Int)) ∧ w'.cell? ⟨w.heap.size, 5, none⟩ = some (.int .i64 (y : Int)))
      ((refine HSS.out _ ?_
        repeat (first | exact Keep.refl _ _ | refine Keep.drew ?_ | refine Keep.alloc ?_ _ | (refine Keep.setCell ?_ (.inr (by simp)) _))))
      (fail)
    all_goals
      go_wp2
      go_meet
      first
        | exact ⟨W1.heap.size, W1.heap.size + 1, rfl, rfl, (HA.out.alloc _).drew, Bk.drew (by have := Bk.new (W1.alloc (.cells #[.int .i64 (wd : Int), .int .i64 (x : Int)] 86)) 86 #[.int .i64 (wd : Int), .int .i64 (y : Int)]; rwa [World.size_alloc] at this), (((Keep.refl _ _).alloc _).alloc _).drew⟩
        | exact ⟨W1.heap.size + 1, W1.heap.size, rfl, rfl, Bk.drew (by have := Bk.new (W1.alloc (.cells #[.int .i64 (wd : Int), .int .i64 (y : Int)] 86)) 86 #[.int .i64 (wd : Int), .int .i64 (x : Int)]; rwa [World.size_alloc] at this), (HC.out.alloc _).drew, (((Keep.refl _ _).alloc _).alloc _).drew⟩
  case rest =>
    obtain ⟨bx, by_, rfl, rfl, hbx, hby, K⟩ := hcut
    have KW := HK1.out.trans K fun _ _ h => h
    have HC := Lib.hid (HH.out _ KW)
    have n0 := K.cellv (HN.out.cell 0) fun h => h
    replace n4 := K.cellv n4 fun h => h
    clear n5 HSS
    have x0 := hbx.cell 0
    have x1 := hbx.cell 1
    have y0 := hby.cell 0
    have y1 := hby.cell 1
    have hsz : w.heap.size ≤ wc.heap.size := KW.size
    generalize hasN S wd x = d at *
    cases h
    · cases d
      · go_wp2_with (go_at_call 40; (with_reducible refine HC.out.mono ?_); rintro e w' ⟨rfl, hw'⟩; obtain rfl := hw'.symm)
        go_ret
        exact ⟨_, rfl, by rw [HB.out]; exact own_new (plsC [(wd, x)]) hsz (plsC_len _) (by simp [maxLen]), KW.alloc _⟩
      · go_wp2_with (go_at_call 40; (with_reducible refine HC.out.mono ?_); rintro e w' ⟨rfl, hw'⟩; obtain rfl := hw'.symm)
        go_ret
        exact ⟨_, rfl, by rw [HB.out]; exact own_new (plsC [(wd, y)]) hsz (plsC_len _) (by simp [maxLen]), KW.alloc _⟩
    · go_wp2
      go_ret
      exact ⟨_, rfl, by rw [HB.out]; exact own_new (plsC [(wd, x), (wd, y)]) hsz (plsC_len _) (by simp [maxLen]), KW.alloc _⟩
theorem evboolean_6 (c4 : w.cell? ⟨b, 4, none⟩ = some (.slice zA S.length zc)) (hZ : Rd w (.slice zA S.length zc) 1 S.length (u6 S)) (hS : ∀ x ∈ S, x < 18446744073709551616) (wd : Nat) (hw : wd < 64) (i e0 g : Int) (x y : Nat) (hx : x < S.length) (h : Bool) :
    Calls Try.prog 41 #[.pointer (some ⟨b, 0, none⟩), .int .i64 (wd : Int), .agg #[.int .i64 6, .int .i64 i, .int .i64 e0, .int .i64 g, .int .i64 (x : Int), .int .i64 (y : Int)], .bool h] w (PlsPost w (boolN S ⟨6, i, e0, g, x, y⟩ wd h)) := by
  have HB : Hid (boolN S ⟨6, i, e0, g, x, y⟩ wd h = if h = true then (if (hasN S wd x == true) = true then [(wd, x)] else [(wd, y)]) else [(wd, x), (wd, y)]) := Lib.hid (by unfold boolN; simp only [Fm.Nd.x, Fm.Nd.y, Int.toNat_natCast]; cases h <;> rfl)
  have k1 : Keep NoF w (w.alloc (.cells #[.int .i64 6, .int .i64 i, .int .i64 e0, .int .i64 g, .int .i64 (x : Int), .int .i64 (y : Int)] 53)) := (Keep.refl _ _).alloc _
  have HN := Lib.hid (Bk.new w 53 #[.int .i64 6, .int .i64 i, .int .i64 e0, .int .i64 g, .int .i64 (x : Int), .int .i64 (y : Int)])
  have HK1 := Lib.hid k1
  have HH : Hid (∀ W : World, Keep NoF w W → Calls Try.prog 40 #[.pointer (some ⟨b, 0, none⟩), .int .i64 (wd : Int), .int .i64 (x : Int)] W fun e w' => e = .returned (.bool (hasN S wd x)) ∧ w' = W) := Lib.hid fun W hk => evholds_any (hk.cellv c4 fun h => h) (hZ.kept hk fun _ _ h => h) hS wd x hx hw
  clear k1 c4 hZ hS hx
  go_enter Try.func41, Try.ntmps41
  go_upto_region 1 with (fail)
  generalize w.alloc (.cells #[.int .i64 6, .int .i64 i, .int .i64 e0, .int .i64 g, .int .i64 (x : Int), .int .i64 (y : Int)] 53) = W1 at *
  have n4 := HN.out.cell 4
  have n5 := HN.out.cell 5
  have HSS : Hid (∀ w' : World, Keep NoF W1 w' → w'.cell? ⟨w.heap.size, 4, none⟩ = some (.int .i64 (x : Int)) ∧ w'.cell? ⟨w.heap.size, 5, none⟩ = some (.int .i64 (y : Int))) := Lib.hid fun w' h => ⟨h.cellv n4 fun h => h, h.cellv n5 fun h => h⟩
  go_cut [9, 10] from 11 to 59 (fun v9 v10 wc => ∃ bx by_ : Nat, v9 = .pointer (some ⟨bx, 0, none⟩) ∧ v10 = .pointer (some ⟨by_, 0, none⟩) ∧ Bk wc bx 86 #[.int .i64 (wd : Int), .int .i64 (x : Int)] ∧ Bk wc by_ 86 #[.int .i64 (wd : Int), .int .i64 (y : Int)] ∧ Keep NoF W1 wc)
  case first =>
    have HA := Lib.hid (Bk.new W1 86 #[.int .i64 (wd : Int), .int .i64 (x : Int)])
    have HC := Lib.hid (Bk.new W1 86 #[.int .i64 (wd : Int), .int .i64 (y : Int)])
    go_region_held3 (fun w' => w'.cell? ⟨w.heap.size, 4, none⟩ = some (.int .i64 (x : Int)) ∧ w'.cell? ⟨w.heap.size, 5, none⟩ = some (.int .i64 (y : Int)))
      ((refine HSS.out _ ?_
        repeat (first | exact Keep.refl _ _ | refine Keep.drew ?_ | refine Keep.alloc ?_ _ | (refine Keep.setCell ?_ (.inr (by simp)) _))))
      (fail)
    all_goals
      go_wp2
      go_meet
      first
        | exact ⟨W1.heap.size, W1.heap.size + 1, rfl, rfl, (HA.out.alloc _).drew, Bk.drew (by have := Bk.new (W1.alloc (.cells #[.int .i64 (wd : Int), .int .i64 (x : Int)] 86)) 86 #[.int .i64 (wd : Int), .int .i64 (y : Int)]; rwa [World.size_alloc] at this), (((Keep.refl _ _).alloc _).alloc _).drew⟩
        | exact ⟨W1.heap.size + 1, W1.heap.size, rfl, rfl, Bk.drew (by have := Bk.new (W1.alloc (.cells #[.int .i64 (wd : Int), .int .i64 (y : Int)] 86)) 86 #[.int .i64 (wd : Int), .int .i64 (x : Int)]; rwa [World.size_alloc] at this), (HC.out.alloc _).drew, (((Keep.refl _ _).alloc _).alloc _).drew⟩
  case rest =>
    obtain ⟨bx, by_, rfl, rfl, hbx, hby, K⟩ := hcut
    have KW := HK1.out.trans K fun _ _ h => h
    have HC := Lib.hid (HH.out _ KW)
    have n0 := K.cellv (HN.out.cell 0) fun h => h
    replace n4 := K.cellv n4 fun h => h
    clear n5 HSS
    have x0 := hbx.cell 0
    have x1 := hbx.cell 1
    have y0 := hby.cell 0
    have y1 := hby.cell 1
    have hsz : w.heap.size ≤ wc.heap.size := KW.size
    generalize hasN S wd x = d at *
    cases h
    · go_wp2
      go_ret
      exact ⟨_, rfl, by rw [HB.out]; exact own_new (plsC [(wd, x), (wd, y)]) hsz (plsC_len _) (by simp [maxLen]), KW.alloc _⟩
    · cases d
      · go_wp2_with (go_at_call 40; (with_reducible refine HC.out.mono ?_); rintro e w' ⟨rfl, hw'⟩; obtain rfl := hw'.symm)
        go_ret
        exact ⟨_, rfl, by rw [HB.out]; exact own_new (plsC [(wd, y)]) hsz (plsC_len _) (by simp [maxLen]), KW.alloc _⟩
      · go_wp2_with (go_at_call 40; (with_reducible refine HC.out.mono ?_); rintro e w' ⟨rfl, hw'⟩; obtain rfl := hw'.symm)
        go_ret
        exact ⟨_, rfl, by rw [HB.out]; exact own_new (plsC [(wd, x)]) hsz (plsC_len _) (by simp [maxLen]), KW.alloc _⟩
theorem evboolean_7 (c4 : w.cell? ⟨b, 4, none⟩ = some (.slice zA S.length zc)) (hZ : Rd w (.slice zA S.length zc) 1 S.length (u6 S)) (hS : ∀ x ∈ S, x < 18446744073709551616) (wd : Nat) (hw : wd < 64) (i e0 g : Int) (x y : Nat) (hx : x < S.length) (h : Bool) :
    Calls Try.prog 41 #[.pointer (some ⟨b, 0, none⟩), .int .i64 (wd : Int), .agg #[.int .i64 7, .int .i64 i, .int .i64 e0, .int .i64 g, .int .i64 (x : Int), .int .i64 (y : Int)], .bool h] w (PlsPost w (boolN S ⟨7, i, e0, g, x, y⟩ wd h)) := by
  have HB : Hid (boolN S ⟨7, i, e0, g, x, y⟩ wd h = if h = true then (if (hasN S wd x == false) = true then [(wd, x)] else [(wd, y)]) else [(wd, x), (wd, y)]) := Lib.hid (by unfold boolN; simp only [Fm.Nd.x, Fm.Nd.y, Int.toNat_natCast]; cases h <;> rfl)
  have k1 : Keep NoF w (w.alloc (.cells #[.int .i64 7, .int .i64 i, .int .i64 e0, .int .i64 g, .int .i64 (x : Int), .int .i64 (y : Int)] 53)) := (Keep.refl _ _).alloc _
  have HN := Lib.hid (Bk.new w 53 #[.int .i64 7, .int .i64 i, .int .i64 e0, .int .i64 g, .int .i64 (x : Int), .int .i64 (y : Int)])
  have HK1 := Lib.hid k1
  have HH : Hid (∀ W : World, Keep NoF w W → Calls Try.prog 40 #[.pointer (some ⟨b, 0, none⟩), .int .i64 (wd : Int), .int .i64 (x : Int)] W fun e w' => e = .returned (.bool (hasN S wd x)) ∧ w' = W) := Lib.hid fun W hk => evholds_any (hk.cellv c4 fun h => h) (hZ.kept hk fun _ _ h => h) hS wd x hx hw
  clear k1 c4 hZ hS hx
  go_enter Try.func41, Try.ntmps41
  go_upto_region 1 with (fail)
  generalize w.alloc (.cells #[.int .i64 7, .int .i64 i, .int .i64 e0, .int .i64 g, .int .i64 (x : Int), .int .i64 (y : Int)] 53) = W1 at *
  have n4 := HN.out.cell 4
  have n5 := HN.out.cell 5
  have HSS : Hid (∀ w' : World, Keep NoF W1 w' → w'.cell? ⟨w.heap.size, 4, none⟩ = some (.int .i64 (x : Int)) ∧ w'.cell? ⟨w.heap.size, 5, none⟩ = some (.int .i64 (y : Int))) := Lib.hid fun w' h => ⟨h.cellv n4 fun h => h, h.cellv n5 fun h => h⟩
  go_cut [9, 10] from 11 to 59 (fun v9 v10 wc => ∃ bx by_ : Nat, v9 = .pointer (some ⟨bx, 0, none⟩) ∧ v10 = .pointer (some ⟨by_, 0, none⟩) ∧ Bk wc bx 86 #[.int .i64 (wd : Int), .int .i64 (x : Int)] ∧ Bk wc by_ 86 #[.int .i64 (wd : Int), .int .i64 (y : Int)] ∧ Keep NoF W1 wc)
  case first =>
    have HA := Lib.hid (Bk.new W1 86 #[.int .i64 (wd : Int), .int .i64 (x : Int)])
    have HC := Lib.hid (Bk.new W1 86 #[.int .i64 (wd : Int), .int .i64 (y : Int)])
    go_region_held3 (fun w' => w'.cell? ⟨w.heap.size, 4, none⟩ = some (.int .i64 (x : Int)) ∧ w'.cell? ⟨w.heap.size, 5, none⟩ = some (.int .i64 (y : Int)))
      ((refine HSS.out _ ?_
        repeat (first | exact Keep.refl _ _ | refine Keep.drew ?_ | refine Keep.alloc ?_ _ | (refine Keep.setCell ?_ (.inr (by simp)) _))))
      (fail)
    all_goals
      go_wp2
      go_meet
      first
        | exact ⟨W1.heap.size, W1.heap.size + 1, rfl, rfl, (HA.out.alloc _).drew, Bk.drew (by have := Bk.new (W1.alloc (.cells #[.int .i64 (wd : Int), .int .i64 (x : Int)] 86)) 86 #[.int .i64 (wd : Int), .int .i64 (y : Int)]; rwa [World.size_alloc] at this), (((Keep.refl _ _).alloc _).alloc _).drew⟩
        | exact ⟨W1.heap.size + 1, W1.heap.size, rfl, rfl, Bk.drew (by have := Bk.new (W1.alloc (.cells #[.int .i64 (wd : Int), .int .i64 (y : Int)] 86)) 86 #[.int .i64 (wd : Int), .int .i64 (x : Int)]; rwa [World.size_alloc] at this), (HC.out.alloc _).drew, (((Keep.refl _ _).alloc _).alloc _).drew⟩
  case rest =>
    obtain ⟨bx, by_, rfl, rfl, hbx, hby, K⟩ := hcut
    have KW := HK1.out.trans K fun _ _ h => h
    have HC := Lib.hid (HH.out _ KW)
    have n0 := K.cellv (HN.out.cell 0) fun h => h
    replace n4 := K.cellv n4 fun h => h
    clear n5 HSS
    have x0 := hbx.cell 0
    have x1 := hbx.cell 1
    have y0 := hby.cell 0
    have y1 := hby.cell 1
    have hsz : w.heap.size ≤ wc.heap.size := KW.size
    generalize hasN S wd x = d at *
    cases h
    · go_wp2
      go_ret
      exact ⟨_, rfl, by rw [HB.out]; exact own_new (plsC [(wd, x), (wd, y)]) hsz (plsC_len _) (by simp [maxLen]), KW.alloc _⟩
    · cases d
      · go_wp2_with (go_at_call 40; (with_reducible refine HC.out.mono ?_); rintro e w' ⟨rfl, hw'⟩; obtain rfl := hw'.symm)
        go_ret
        exact ⟨_, rfl, by rw [HB.out]; exact own_new (plsC [(wd, x)]) hsz (plsC_len _) (by simp [maxLen]), KW.alloc _⟩
      · go_wp2_with (go_at_call 40; (with_reducible refine HC.out.mono ?_); rintro e w' ⟨rfl, hw'⟩; obtain rfl := hw'.symm)
        go_ret
        exact ⟨_, rfl, by rw [HB.out]; exact own_new (plsC [(wd, y)]) hsz (plsC_len _) (by simp [maxLen]), KW.alloc _⟩
theorem evboolean_8 (c4 : w.cell? ⟨b, 4, none⟩ = some (.slice zA S.length zc)) (hZ : Rd w (.slice zA S.length zc) 1 S.length (u6 S)) (hS : ∀ x ∈ S, x < 18446744073709551616) (wd : Nat) (hw : wd < 64) (i e0 g : Int) (x y : Nat) (hx : x < S.length) (h : Bool) :
    Calls Try.prog 41 #[.pointer (some ⟨b, 0, none⟩), .int .i64 (wd : Int), .agg #[.int .i64 8, .int .i64 i, .int .i64 e0, .int .i64 g, .int .i64 (x : Int), .int .i64 (y : Int)], .bool h] w (PlsPost w (boolN S ⟨8, i, e0, g, x, y⟩ wd h)) := by
  have HB : Hid (boolN S ⟨8, i, e0, g, x, y⟩ wd h = [(wd, x), (wd, y)]) := Lib.hid (by unfold boolN; simp only [Fm.Nd.x, Fm.Nd.y, Int.toNat_natCast]; cases h <;> rfl)
  have k1 : Keep NoF w (w.alloc (.cells #[.int .i64 8, .int .i64 i, .int .i64 e0, .int .i64 g, .int .i64 (x : Int), .int .i64 (y : Int)] 53)) := (Keep.refl _ _).alloc _
  have HN := Lib.hid (Bk.new w 53 #[.int .i64 8, .int .i64 i, .int .i64 e0, .int .i64 g, .int .i64 (x : Int), .int .i64 (y : Int)])
  have HK1 := Lib.hid k1
  have HH : Hid (∀ W : World, Keep NoF w W → Calls Try.prog 40 #[.pointer (some ⟨b, 0, none⟩), .int .i64 (wd : Int), .int .i64 (x : Int)] W fun e w' => e = .returned (.bool (hasN S wd x)) ∧ w' = W) := Lib.hid fun W hk => evholds_any (hk.cellv c4 fun h => h) (hZ.kept hk fun _ _ h => h) hS wd x hx hw
  clear k1 c4 hZ hS hx
  go_enter Try.func41, Try.ntmps41
  go_upto_region 1 with (fail)
  generalize w.alloc (.cells #[.int .i64 8, .int .i64 i, .int .i64 e0, .int .i64 g, .int .i64 (x : Int), .int .i64 (y : Int)] 53) = W1 at *
  have n4 := HN.out.cell 4
  have n5 := HN.out.cell 5
  have HSS : Hid (∀ w' : World, Keep NoF W1 w' → w'.cell? ⟨w.heap.size, 4, none⟩ = some (.int .i64 (x : Int)) ∧ w'.cell? ⟨w.heap.size, 5, none⟩ = some (.int .i64 (y : Int))) := Lib.hid fun w' h => ⟨h.cellv n4 fun h => h, h.cellv n5 fun h => h⟩
  go_cut [9, 10] from 11 to 59 (fun v9 v10 wc => ∃ bx by_ : Nat, v9 = .pointer (some ⟨bx, 0, none⟩) ∧ v10 = .pointer (some ⟨by_, 0, none⟩) ∧ Bk wc bx 86 #[.int .i64 (wd : Int), .int .i64 (x : Int)] ∧ Bk wc by_ 86 #[.int .i64 (wd : Int), .int .i64 (y : Int)] ∧ Keep NoF W1 wc)
  case first =>
    have HA := Lib.hid (Bk.new W1 86 #[.int .i64 (wd : Int), .int .i64 (x : Int)])
    have HC := Lib.hid (Bk.new W1 86 #[.int .i64 (wd : Int), .int .i64 (y : Int)])
    go_region_held3 (fun w' => w'.cell? ⟨w.heap.size, 4, none⟩ = some (.int .i64 (x : Int)) ∧ w'.cell? ⟨w.heap.size, 5, none⟩ = some (.int .i64 (y : Int)))
      ((refine HSS.out _ ?_
        repeat (first | exact Keep.refl _ _ | refine Keep.drew ?_ | refine Keep.alloc ?_ _ | (refine Keep.setCell ?_ (.inr (by simp)) _))))
      (fail)
    all_goals
      go_wp2
      go_meet
      first
        | exact ⟨W1.heap.size, W1.heap.size + 1, rfl, rfl, (HA.out.alloc _).drew, Bk.drew (by have := Bk.new (W1.alloc (.cells #[.int .i64 (wd : Int), .int .i64 (x : Int)] 86)) 86 #[.int .i64 (wd : Int), .int .i64 (y : Int)]; rwa [World.size_alloc] at this), (((Keep.refl _ _).alloc _).alloc _).drew⟩
        | exact ⟨W1.heap.size + 1, W1.heap.size, rfl, rfl, Bk.drew (by have := Bk.new (W1.alloc (.cells #[.int .i64 (wd : Int), .int .i64 (y : Int)] 86)) 86 #[.int .i64 (wd : Int), .int .i64 (x : Int)]; rwa [World.size_alloc] at this), (HC.out.alloc _).drew, (((Keep.refl _ _).alloc _).alloc _).drew⟩
  case rest =>
    obtain ⟨bx, by_, rfl, rfl, hbx, hby, K⟩ := hcut
    have KW := HK1.out.trans K fun _ _ h => h
    have HC := Lib.hid (HH.out _ KW)
    have n0 := K.cellv (HN.out.cell 0) fun h => h
    replace n4 := K.cellv n4 fun h => h
    clear n5 HSS
    have x0 := hbx.cell 0
    have x1 := hbx.cell 1
    have y0 := hby.cell 0
    have y1 := hby.cell 1
    have hsz : w.heap.size ≤ wc.heap.size := KW.size
    generalize hasN S wd x = d at *
    cases h
    · go_wp2
      go_ret
      exact ⟨_, rfl, by rw [HB.out]; exact own_new (plsC [(wd, x), (wd, y)]) hsz (plsC_len _) (by simp [maxLen]), KW.alloc _⟩
    · go_wp2
      go_ret
      exact ⟨_, rfl, by rw [HB.out]; exact own_new (plsC [(wd, x), (wd, y)]) hsz (plsC_len _) (by simp [maxLen]), KW.alloc _⟩
theorem evboolean_any (c4 : w.cell? ⟨b, 4, none⟩ = some (.slice zA S.length zc)) (hZ : Rd w (.slice zA S.length zc) 1 S.length (u6 S)) (hS : ∀ x ∈ S, x < 18446744073709551616) (wd : Nat) (hw : wd < 64) (m : Nd) (hop : 5 ≤ m.op ∧ m.op ≤ 8) (hx : 0 ≤ m.x ∧ m.x.toNat < S.length) (hy : 0 ≤ m.y) (h : Bool) :
    Calls Try.prog 41 #[.pointer (some ⟨b, 0, none⟩), .int .i64 (wd : Int), .agg #[.int .i64 m.op, .int .i64 m.i, .int .i64 m.e, .int .i64 m.g, .int .i64 m.x, .int .i64 m.y], .bool h] w (PlsPost w (boolN S m wd h)) := by
  obtain ⟨op, i, e0, g, mx, my⟩ := m
  simp only at *
  obtain ⟨x, rfl⟩ : ∃ x : Nat, mx = (x : Int) := ⟨mx.toNat, by omega⟩
  obtain ⟨y, rfl⟩ : ∃ y : Nat, my = (y : Int) := ⟨my.toNat, by omega⟩
  rw [Int.toNat_natCast] at hx
  have hcs : op = 5 ∨ op = 6 ∨ op = 7 ∨ op = 8 := by omega
  rcases hcs with rfl | rfl | rfl | rfl
  · exact evboolean_5 c4 hZ hS wd hw i e0 g x y hx.2 h
  · exact evboolean_6 c4 hZ hS wd hw i e0 g x y hx.2 h
  · exact evboolean_7 c4 hZ hS wd hw i e0 g x y hx.2 h
  · exact evboolean_8 c4 hZ hS wd hw i e0 g x y hx.2 h
end
end Go.Proofs.Ytmjdbbfoihadoaa
namespace Go.Proofs.Ytmjdbbfoihadoaa
open Go.RowKit

section
variable {P : Program} {md : Region.Mode} {ops : Array Oper} {Q : Exit → Act → World → Prop} {l n : Nat}
theorem rows_round {row : String} {args : Array Value} {w : World} {R : Value → World → Prop} (h : Rows P row args w R) : RowsIn (Fence.wide.inRound l) n P row args w R :=
  fun c cs _ => let ⟨v, w', r, s⟩ := h c cs; ⟨v, w', r, stepsIn_wide.2 s⟩
theorem op_round (hQ : ∀ a w, ¬ Q .outgrown a w) {i : Nat} (hd : ∀ (o : Oper) (c : Call), ops[i]? = some o → o.op ≠ .defer c) {K K' : Act → World → Prop} (hK : ∀ a w, K a w → K' a w) {a : Act} {w : World} (h : wpOp P ops Q i K a w) : wpOpIn (Fence.wide.inRound l) n P ops Q i K' a w := by
  unfold wpOp at h
  unfold wpOpIn
  cases ho : ops[i]? with
  | none => rw [ho] at h; exact hK _ _ h
  | some o =>
    rw [ho] at h
    simp only at h ⊢
    by_cases hw : Region.wanted o (yielded ops a.tmps) = true
    · rw [if_pos hw] at h ⊢
      rcases h with h | ⟨-, a', w', hl⟩
      · refine ⟨fun f _ => trivial, ?_⟩
        rw [Oper.semAt_eq _ _ _ fun c => hd o c ho]
        unfold Oper.wp at h
        generalize (execOp a.eval o).run P w = r at *
        cases r with
        | halt x w' => cases x <;> first | exact h | exact h.elim
        | ok x w' =>
          cases x with
          | value v => exact hK _ _ h
          | skip => exact hK _ _ h
          | defer d => exact hK _ _ h
          | enter f args =>
            refine ⟨fun h => absurd (show (false : Bool) = true from h) (by decide), CallsIn.inRound l (callsIn_wide.2 (Calls.mono h fun e w'' he => ?_))⟩
            cases e with
            | returned v => exact hK _ _ he
            | panicked c => exact he
            | outgrown => exact he
          | row r args => exact ⟨fun h => absurd (show (false : Bool) = true from h) (by decide), rows_round (Rows.mono h fun v w'' he => hK _ _ he)⟩
          | _ => exact h.elim
      · exact absurd hl (hQ _ _)
    · rw [if_neg hw] at h ⊢
      exact ⟨fun f _ => trivial, hK _ _ h⟩
theorem any_round (hQ : ∀ a w, ¬ Q .outgrown a w) (hd : ∀ (i : Nat) (o : Oper) (c : Call), ops[i]? = some o → o.op ≠ .defer c) : ∀ (fuel : Nat) (listed : Array Bool) (a : Act) (w : World), wpAny P md ops Q fuel listed a w → wpAnyIn (Fence.wide.inRound l) n P md ops Q fuel listed a w
  | 0, _, _, _, h => h
  | fuel + 1, listed, a, w, h => ⟨h.1, fun i hi => op_round hQ (hd i) (fun a w hk => any_round hQ hd fuel _ a w hk) (h.2 i hi)⟩
def noDefer (ops : Array Oper) : Bool := ops.all fun o => match o.op with
  | .defer _ => false
  | _ => true
theorem noDefer_spec (h : noDefer ops = true) : ∀ (i : Nat) (o : Oper) (c : Call), ops[i]? = some o → o.op ≠ .defer c := fun i o c hi he => by
  unfold noDefer at h
  rw [Array.all_eq_true] at h
  obtain ⟨hlt, rfl⟩ := Array.getElem?_eq_some_iff.1 hi
  have := h i hlt
  rw [he] at this
  cases this
/-- The beginning: a region that draws, in a round, with a condition on the world. -/
theorem region_round {id : Nat} {a : Act} {w : World} (S : World → Prop) (hm : P.follows .mixedOrders = true) (hd : noDefer ops = true) (hQ : ∀ a w, ¬ Q .outgrown a w) (hS : S w.drew)
    (h : S w.drew → wpAnyH P .any ops Q S ops.size (Array.replicate ops.size false) a w.drew) : (Code.region id ops true).wpIn (Fence.wide.inRound l) n P Q a w :=
  wpIn_region_any hm (any_round hQ (noDefer_spec hd) _ _ _ _ (wpAny_of_held _ _ _ _ (h hS)))
end
end Go.Proofs.Ytmjdbbfoihadoaa
namespace Go.Proofs.Ytmjdbbfoihadoaa
open Go.RowKit Go.Shelf
open Ev
open Fm (Nd)
attribute [local go_sem] Oper.semAt_some

/-- The parts of a builder that do not change. -/
structure FixB (w : World) (b : Nat) (M : Md) (va ra : Option Addr) (cv cr : Nat) (rs : List (Option Addr × Nat)) (c : List Nd) (cA : Option Addr) (cc : Nat) (S : List Nat) (zA : Option Addr) (zc : Nat) : Prop where
  mr : MdR w M va cv ra cr rs
  fr : Rd w (.slice cA c.length cc) 6 c.length (fmC c)
  zr : Rd w (.slice zA S.length zc) 1 S.length (u6 S)
  z64 : ∀ x ∈ S, x < 18446744073709551616
  c0 : w.cell? ⟨b, 0, none⟩ = some (.int .i64 M.W)
  c1 : w.cell? ⟨b, 1, none⟩ = some (.slice va M.V.length cv)
  c2 : w.cell? ⟨b, 2, none⟩ = some (.slice ra M.R.length cr)
  c3 : w.cell? ⟨b, 3, none⟩ = some (.slice cA c.length cc)
  c4 : w.cell? ⟨b, 4, none⟩ = some (.slice zA S.length zc)
theorem FixB.keep {w w' : World} {b : Nat} {M : Md} {va ra : Option Addr} {cv cr : Nat} {rs : List (Option Addr × Nat)} {c : List Nd} {cA : Option Addr} {cc : Nat} {S : List Nat} {zA : Option Addr} {zc : Nat} (h : FixB w b M va ra cv cr rs c cA cc S zA zc) (k : Keep NoF w w') : FixB w' b M va ra cv cr rs c cA cc S zA zc :=
  ⟨h.mr.keep k, h.fr.kept k fun _ _ h => h, h.zr.kept k fun _ _ h => h, h.z64, k.cellv h.c0 fun h => h, k.cellv h.c1 fun h => h, k.cellv h.c2 fun h => h, k.cellv h.c3 fun h => h, k.cellv h.c4 fun h => h⟩
def MoI (w : World) (b : Nat) (op i e0 g : Int) (x : Nat) (y : Int) (h : Bool) (D : Nat) (e : Bool) (p : Nat → Bool) (xs : List Nat) (W : World) : Prop :=
  Hid (e = true → xs.filter p = []) ∧ Bk W w.heap.size 62 #[.pointer (some ⟨b, 0, none⟩)] ∧ Bk W (w.heap.size + 1) 53 #[.int .i64 op, .int .i64 i, .int .i64 e0, .int .i64 g, .int .i64 (x : Int), .int .i64 y] ∧ Bk W (w.heap.size + 1 + 1) 4 #[.bool h] ∧
  (∃ v, Bk W (w.heap.size + 1 + 1 + 1) 89 #[v] ∧ W.ownsRow (D + 2) 86 2 v (if e = true then [] else xs).length (plsC ((if e = true then [] else xs).map fun v => (v, x)))) ∧ Keep NoF w W
def MoB (w : World) (x D s : Nat) (e : Bool) (p : Nat → Bool) (W : World) : Prop :=
  e = true ∧ ∃ u v, Hid (((mem s).filter p).take 1 = [u]) ∧ Bk W (w.heap.size + 1 + 1 + 1) 89 #[v] ∧ W.ownsRow (D + 2) 86 2 v 1 (plsC [(u, x)]) ∧ Keep NoF w W
theorem plsC_at {w : World} {b : Nat} {t : TypeId} (l : List Pl) (h : Bk w b t (plsC l).toArray) : ∀ j u, (plsC l)[j]? = some u → w.cell? ((⟨b, 0, none⟩ : Addr).add j) = some u := fun j u hj => by
  rw [Addr.add_lit, Nat.zero_add]
  exact (h.cell j).trans (by rw [List.getElem?_toArray]; exact hj)
theorem filter_first {p : Nat → Bool} {pre l : List Nat} {v : Nat} (h : pre ++ [v] <+: l) (h0 : pre.filter p = []) (hv : p v = true) : (l.filter p).take 1 = [v] := by
  obtain ⟨t, rfl⟩ := h
  rw [List.filter_append, List.filter_append, h0]
  simp [hv]
section
set_option maxRecDepth 100000
set_option maxHeartbeats 4000000
variable {w : World} {b : Nat} {M : Md} {va ra : Option Addr} {cv cr : Nat} {rs : List (Option Addr × Nat)} {c : List Nd} {cA : Option Addr} {cc : Nat} {S : List Nat} {zA : Option Addr} {zc : Nat}
theorem evmodal_any (hB : FixB w b M va ra cv cr rs c cA cc S zA zc) (hok : Okm M) (op i e0 g y : Int) (x wd : Nat) (hi : op = 9 ∨ op = 10 → 0 ≤ i ∧ i < M.R.length) (hg : ¬ (op = 9 ∨ op = 10) → 0 ≤ g ∧ g < ((2 ^ M.R.length : Nat) : Int)) (hwd : wd < M.n) (hs : succN M ⟨op, i, e0, g, x, y⟩ wd < 2 ^ M.n) (hx : x < S.length)
    (h o e : Bool) (ho : (op == 10) = o) (he : (h == o) = e) :
    Calls Try.prog 42 #[.pointer (some ⟨b, 0, none⟩), .int .i64 (wd : Int), .agg #[.int .i64 op, .int .i64 i, .int .i64 e0, .int .i64 g, .int .i64 (x : Int), .int .i64 y], .bool h] w (PlsPost w (modalN M S ⟨op, i, e0, g, x, y⟩ wd h)) := by
  have hmix : Try.prog.follows .mixedOrders = true := by kernel_rfl
  have hs64 := Ev.lt64 hok.n1.2.1 hs
  have k4 : Keep NoF w ((((w.alloc (.cells #[.pointer (some ⟨b, 0, none⟩)] 62)).alloc (.cells #[.int .i64 op, .int .i64 i, .int .i64 e0, .int .i64 g, .int .i64 (x : Int), .int .i64 y] 53)).alloc (.cells #[.bool h] 4)).alloc (.cells #[.slice none 0 0] 89)) := ((((Keep.refl _ _).alloc _).alloc _).alloc _).alloc _
  have HS : Hid (∀ W, Keep NoF w W → Calls Try.prog 36 #[.agg #[.int .i64 M.W, .slice va M.V.length cv, .slice ra M.R.length cr], .agg #[.int .i64 op, .int .i64 i, .int .i64 e0, .int .i64 g, .int .i64 (x : Int), .int .i64 y], .int .i64 (wd : Int)] W fun e w' => e = .returned (.int .u64 (succN M ⟨op, i, e0, g, x, y⟩ wd : Nat)) ∧ Keep NoF W w') := Lib.hid fun W hk => evsucc_any (hB.mr.keep hk) hok ⟨op, i, e0, g, x, y⟩ wd hi hg hwd
  have q0 := (((Bk.new w 62 #[.pointer (some ⟨b, 0, none⟩)]).alloc (.cells #[.int .i64 op, .int .i64 i, .int .i64 e0, .int .i64 g, .int .i64 (x : Int), .int .i64 y] 53)).alloc (.cells #[.bool h] 4)).alloc (.cells #[.slice none 0 0] 89)
  have q1 := ((Bk.new (w.alloc (.cells #[.pointer (some ⟨b, 0, none⟩)] 62)) 53 #[.int .i64 op, .int .i64 i, .int .i64 e0, .int .i64 g, .int .i64 (x : Int), .int .i64 y]).alloc (.cells #[.bool h] 4)).alloc (.cells #[.slice none 0 0] 89)
  have q2 := (Bk.new ((w.alloc (.cells #[.pointer (some ⟨b, 0, none⟩)] 62)).alloc (.cells #[.int .i64 op, .int .i64 i, .int .i64 e0, .int .i64 g, .int .i64 (x : Int), .int .i64 y] 53)) 4 #[.bool h]).alloc (.cells #[.slice none 0 0] 89)
  have q3 := Bk.new (((w.alloc (.cells #[.pointer (some ⟨b, 0, none⟩)] 62)).alloc (.cells #[.int .i64 op, .int .i64 i, .int .i64 e0, .int .i64 g, .int .i64 (x : Int), .int .i64 y] 53)).alloc (.cells #[.bool h] 4)) 89 #[.slice none 0 0]
  simp only [World.size_alloc] at q1 q2 q3
  have HQ := Lib.hid (And.intro q0 (And.intro q1 (And.intro q2 (And.intro q3 k4))))
  have HB := Lib.hid hB
  have hn64 := hok.n1.2.1
  have HH : Hid (∀ (W : World) (v : Nat), Keep NoF w W → v < 64 → Calls Try.prog 40 #[.pointer (some ⟨b, 0, none⟩), .int .i64 (v : Int), .int .i64 (x : Int)] W fun e w' => e = .returned (.bool (hasN S v x)) ∧ w' = W) := Lib.hid fun W v hk hv => by
    have hB' := hB.keep hk
    exact evholds_any hB'.c4 hB'.zr hB'.z64 v x hx hv
  have HMD : Hid (modalN M S ⟨op, i, e0, g, x, y⟩ wd h = (if e = true then ((mem (succN M ⟨op, i, e0, g, x, y⟩ wd)).filter fun v => hasN S v x == h).take 1 else mem (succN M ⟨op, i, e0, g, x, y⟩ wd)).map fun v => (v, x)) := Lib.hid (by
    unfold modalN
    simp only [Fm.Nd.x, Fm.Nd.op, Int.toNat_natCast]
    have e2 : decide (op = 10) = o := by rw [← ho]; rfl
    rw [e2, he])
  have HEO := Lib.hid he
  clear q0 q1 q2 q3 k4 hB hok hi hg hs he
  generalize hss : succN M ⟨op, i, e0, g, x, y⟩ wd = s at *
  clear hss
  refine (callsIn_wide (n := 3)).1 ?_
  refine callsIn_of_wp_marks Try.func42 rfl trivial ?_ rfl
  simp only [Try.ntmps42, List.size_toArray, List.length_cons, List.length_nil, Nat.reduceAdd, Nat.reduceSub, Array.replicate_succ, Array.replicate_zero, List.push_toArray, List.append_toArray, List.nil_append, List.cons_append]
  gi_wp2
  generalize (((w.alloc (.cells #[.pointer (some ⟨b, 0, none⟩)] 62)).alloc (.cells #[.int .i64 op, .int .i64 i, .int .i64 e0, .int .i64 g, .int .i64 (x : Int), .int .i64 y] 53)).alloc (.cells #[.bool h] 4)).alloc (.cells #[.slice none 0 0] 89) = W4 at *
  have HSX : Hid (∀ w' : World, Keep NoF W4 w' → w'.cell? ⟨w.heap.size, 0, none⟩ = some (.pointer (some ⟨b, 0, none⟩)) ∧ w'.cell? ⟨b, 0, none⟩ = some (.int .i64 M.W) ∧ w'.cell? ⟨b, 1, none⟩ = some (.slice va M.V.length cv) ∧ w'.cell? ⟨b, 2, none⟩ = some (.slice ra M.R.length cr) ∧
      w'.cell? ⟨w.heap.size + 1, 0, none⟩ = some (.int .i64 op) ∧ w'.cell? ⟨w.heap.size + 1, 1, none⟩ = some (.int .i64 i) ∧ w'.cell? ⟨w.heap.size + 1, 2, none⟩ = some (.int .i64 e0) ∧ w'.cell? ⟨w.heap.size + 1, 3, none⟩ = some (.int .i64 g) ∧ w'.cell? ⟨w.heap.size + 1, 4, none⟩ = some (.int .i64 (x : Int)) ∧ w'.cell? ⟨w.heap.size + 1, 5, none⟩ = some (.int .i64 y)) := Lib.hid fun w' hk => by
    have hB4 := HB.out.keep (HQ.out.2.2.2.2.trans hk fun _ _ h => h)
    exact ⟨hk.cellv (HQ.out.1.cell 0) fun h => h, hB4.c0, hB4.c1, hB4.c2, hk.cellv (HQ.out.2.1.cell 0) fun h => h, hk.cellv (HQ.out.2.1.cell 1) fun h => h, hk.cellv (HQ.out.2.1.cell 2) fun h => h, hk.cellv (HQ.out.2.1.cell 3) fun h => h, hk.cellv (HQ.out.2.1.cell 4) fun h => h, hk.cellv (HQ.out.2.1.cell 5) fun h => h⟩
  have K0 : Keep NoF W4 W4.drew := (Keep.refl _ _).drew
  refine wpIn_wide.2 ?_
  go_region_held3 (fun w' => w'.cell? ⟨w.heap.size, 0, none⟩ = some (.pointer (some ⟨b, 0, none⟩)) ∧ w'.cell? ⟨b, 0, none⟩ = some (.int .i64 M.W) ∧ w'.cell? ⟨b, 1, none⟩ = some (.slice va M.V.length cv) ∧ w'.cell? ⟨b, 2, none⟩ = some (.slice ra M.R.length cr) ∧
      w'.cell? ⟨w.heap.size + 1, 0, none⟩ = some (.int .i64 op) ∧ w'.cell? ⟨w.heap.size + 1, 1, none⟩ = some (.int .i64 i) ∧ w'.cell? ⟨w.heap.size + 1, 2, none⟩ = some (.int .i64 e0) ∧ w'.cell? ⟨w.heap.size + 1, 3, none⟩ = some (.int .i64 g) ∧ w'.cell? ⟨w.heap.size + 1, 4, none⟩ = some (.int .i64 (x : Int)) ∧ w'.cell? ⟨w.heap.size + 1, 5, none⟩ = some (.int .i64 y))
    (first
      | with_reducible exact HSX.out _ K0
      | with_reducible exact HSX.out _ K5
      | with_reducible exact HSX.out _ K6)
    (first
      | (go_at_call 36
         (with_reducible refine (HS.out _ (HQ.out.2.2.2.2.trans K0 fun _ _ h => h)).mono ?_)
         rintro e w5 ⟨rfl, k5⟩
         have K5 : Keep NoF W4 w5 := K0.trans k5 fun _ _ h => h)
      | (go_at_call 58
         (with_reducible refine (evmembers_any s _).mono ?_)
         rintro e w' ⟨rfl, rfl⟩
         have K6 : Keep NoF W4 (w5.alloc (.cells #[.int .u64 s] 38)) := K5.alloc _))
  gi_wp2
  have hz5 : w.heap.size + 4 ≤ w5.heap.size := by
    have h1 := K5.size
    have h2 := HQ.out.2.2.2.1.lt
    omega
  refine each_at (n := 3) (B := w5.heap.size) (s := s) (w5.heap.size + 1) (by simp) (by omega) hs64 rfl (Bk.new w5 38 #[.int .u64 s]) rfl
    0 (MoI w b op i e0 g x y h (w5.heap.size + 1) e fun v => hasN S v x == h) (fun _ _ => False) (fun _ => MoB w x (w5.heap.size + 1) s e fun v => hasN S v x == h) ?hI (fun _ _ _ h _ => h.elim) ?hIb ?h0 ?a1 ?assign ?body ?done ?stop ?brk
  case assign =>
    intro l x W K hK
    gi_wp2
    exact hK
  case hI =>
    rintro pre W W' ⟨ht, h0, h1, h2, ⟨v, h3, h4⟩, hk⟩ hb
    refine ⟨ht, h0.keep hb (by rintro (h | h | h) <;> omega), h1.keep hb (by rintro (h | h | h) <;> omega), h2.keep hb (by rintro (h | h | h) <;> omega), ⟨v, h3.keep hb (by rintro (h | h | h) <;> omega), own_keep h4 fun k hkv => hb.block k (h4.lt k hkv).2 fun he => ?_⟩, keep_book hk hb (by omega) (by omega)⟩
    have := (h4.lt k hkv).1
    rcases he with rfl | rfl | rfl <;> omega
  case hIb =>
    rintro pre W W' ⟨he, u, v, ht, h3, h4, hk⟩ hb
    refine ⟨he, u, v, ht, h3.keep hb (by rintro (h | h | h) <;> omega), own_keep h4 fun k hkv => hb.block k (h4.lt k hkv).2 fun he => ?_, keep_book hk hb (by omega) (by omega)⟩
    have := (h4.lt k hkv).1
    rcases he with rfl | rfl | rfl <;> omega
  case h0 =>
    have k6 := K5.alloc (.cells #[.int .u64 s] 38)
    refine ⟨Lib.hid fun _ => rfl, HQ.out.1.keep k6 fun h => h, HQ.out.2.1.keep k6 fun h => h, HQ.out.2.2.1.keep k6 fun h => h, ⟨.slice none 0 0, HQ.out.2.2.2.1.keep k6 fun h => h, ?_⟩, HQ.out.2.2.2.2.trans k6 fun _ _ h => h⟩
    have e1 : (if e = true then [] else ([] : List Nat)) = [] := by cases e <;> rfl
    rw [e1]
    exact World.ownsRow_nil _ _ _ _
  case body =>
    rintro l pre vv W hpx ⟨hf, h0, h1, h2, ⟨v, h3, h4⟩, hk⟩ hBW hDW
    have hvv := (mem_lt (hpx.subset (show vv ∈ pre ++ [vv] by simp))).1
    have hlen : pre.length + 1 ≤ 64 := by
      have h1 := hpx.length_le
      have h2 := mem_len s
      rw [List.length_append, List.length_singleton] at h1
      omega
    have p0 := h0.cell 0
    have n0 := h1.cell 0
    have n4 := h1.cell 4
    have b0 := h2.cell 0
    have l0 := h3.cell 0
    have lf0 := h3.frozen 0
    have HPX := Lib.hid hpx
    have HK := Lib.hid hk
    have H4 := Lib.hid h4
    cases e with
    | false =>
      cases h <;> cases o
      · exact absurd HEO.out (by decide)
      · gi_wp2
        refine region_round (fun w' => w'.cell? ⟨w.heap.size, 0, none⟩ = some (.pointer (some ⟨b, 0, none⟩)) ∧ w'.cell? ⟨w.heap.size + 1, 0, none⟩ = some (.int .i64 op) ∧ w'.cell? ⟨w.heap.size + 1, 4, none⟩ = some (.int .i64 (x : Int)) ∧ w'.cell? ⟨w.heap.size + 1 + 1, 0, none⟩ = some (.bool false)) hmix (by kernel_rfl) (fun a w h => h) ⟨p0, n0, n4, b0⟩ (fun hHeld => ?_)
        refine wpAnyH_take (i := 0) (oi := ⟨some 20, _, _, _, _, _⟩) (v := ?_) rfl (by kernel_rfl) (by kernel_rfl) (by kernel_rfl) (fun _ _ _ h => h) (Or.inl ⟨by rfl, ?_⟩) (by assumption) ?_
        rotate_left 1
        · intro w hSw
          (try dsimp only at hSw)
          go_simp
          all_goals (try with_reducible rfl)
        (try simp only [Act.put, List.setIfInBounds_toArray, List.set_cons_zero, List.set_cons_succ])
        refine wpAnyH_take (i := 1) (oi := ⟨some 21, _, _, _, _, _⟩) (v := ?_) rfl (by kernel_rfl) (by kernel_rfl) (by kernel_rfl) (fun _ _ _ h => h) (Or.inl ⟨by rfl, ?_⟩) (by assumption) ?_
        rotate_left 1
        · intro w hSw
          (try dsimp only at hSw)
          go_simp
          all_goals (try with_reducible rfl)
        (try simp only [Act.put, List.setIfInBounds_toArray, List.set_cons_zero, List.set_cons_succ])
        refine wpAnyH_take (i := 2) (oi := ⟨some 22, _, _, _, _, _⟩) (v := ?_) rfl (by kernel_rfl) (by kernel_rfl) (by kernel_rfl) (fun _ _ _ h => h) (Or.inl ⟨by rfl, ?_⟩) (by assumption) ?_
        rotate_left 1
        · intro w hSw
          (try dsimp only at hSw)
          go_simp
          all_goals (try with_reducible rfl)
        (try simp only [Act.put, List.setIfInBounds_toArray, List.set_cons_zero, List.set_cons_succ])
        refine wpAnyH_take (i := 3) (oi := ⟨some 23, _, _, _, _, _⟩) (v := ?_) rfl (by kernel_rfl) (by kernel_rfl) (by kernel_rfl) (fun _ _ _ h => h) (Or.inl ⟨by rfl, ?_⟩) (by assumption) ?_
        rotate_left 1
        · intro w hSw
          (try dsimp only at hSw)
          go_simp
          all_goals (try with_reducible rfl)
        (try simp only [Act.put, List.setIfInBounds_toArray, List.set_cons_zero, List.set_cons_succ])
        refine wpAnyH_take (i := 4) (oi := ⟨some 24, _, _, _, _, _⟩) (v := ?_) rfl (by kernel_rfl) (by kernel_rfl) (by kernel_rfl) (fun _ _ _ h => h) (Or.inl ⟨by rfl, ?_⟩) (by assumption) ?_
        rotate_left 1
        · intro w hSw
          (try dsimp only at hSw)
          go_simp
          all_goals (try with_reducible rfl)
        (try simp only [Act.put, List.setIfInBounds_toArray, List.set_cons_zero, List.set_cons_succ])
        refine wpAnyH_take (i := 5) (oi := ⟨some 25, _, _, _, _, _⟩) (v := ?_) rfl (by kernel_rfl) (by kernel_rfl) (by kernel_rfl) (fun _ _ _ h => h) (Or.inl ⟨by rfl, ?_⟩) (by assumption) ?_
        rotate_left 1
        · intro w hSw
          (try dsimp only at hSw)
          go_simp
          all_goals (try with_reducible rfl)
        (try simp only [Act.put, List.setIfInBounds_toArray, List.set_cons_zero, List.set_cons_succ])
        refine wpAnyH_take (i := 6) (oi := ⟨some 26, _, _, _, _, _⟩) (v := undef) rfl (by kernel_rfl) (by kernel_rfl) (by kernel_rfl) (fun _ _ _ h => h) (Or.inr ⟨by rfl, rfl⟩) (by assumption) ?_
        (try simp only [Act.put, List.setIfInBounds_toArray, List.set_cons_zero, List.set_cons_succ])
        refine wpAnyH_take (i := 7) (oi := ⟨some 27, _, _, _, _, _⟩) (v := undef) rfl (by kernel_rfl) (by kernel_rfl) (by kernel_rfl) (fun _ _ _ h => h) (Or.inr ⟨by rfl, rfl⟩) (by assumption) ?_
        (try simp only [Act.put, List.setIfInBounds_toArray, List.set_cons_zero, List.set_cons_succ])
        refine wpAnyH_take (i := 8) (oi := ⟨some 28, _, _, _, _, _⟩) (v := undef) rfl (by kernel_rfl) (by kernel_rfl) (by kernel_rfl) (fun _ _ _ h => h) (Or.inr ⟨by rfl, rfl⟩) (by assumption) ?_
        (try simp only [Act.put, List.setIfInBounds_toArray, List.set_cons_zero, List.set_cons_succ])
        refine wpAnyH_take (i := 9) (oi := ⟨some 29, _, _, _, _, _⟩) (v := undef) rfl (by kernel_rfl) (by kernel_rfl) (by kernel_rfl) (fun _ _ _ h => h) (Or.inr ⟨by rfl, rfl⟩) (by assumption) ?_
        (try simp only [Act.put, List.setIfInBounds_toArray, List.set_cons_zero, List.set_cons_succ])
        refine wpAnyH_take (i := 10) (oi := ⟨some 30, _, _, _, _, _⟩) (v := undef) rfl (by kernel_rfl) (by kernel_rfl) (by kernel_rfl) (fun _ _ _ h => h) (Or.inr ⟨by rfl, rfl⟩) (by assumption) ?_
        (try simp only [Act.put, List.setIfInBounds_toArray, List.set_cons_zero, List.set_cons_succ])
        refine wpAnyH_take (i := 11) (oi := ⟨some 31, _, _, _, _, _⟩) (v := undef) rfl (by kernel_rfl) (by kernel_rfl) (by kernel_rfl) (fun _ _ _ h => h) (Or.inr ⟨by rfl, rfl⟩) (by assumption) ?_
        (try simp only [Act.put, List.setIfInBounds_toArray, List.set_cons_zero, List.set_cons_succ])
        refine wpAnyH_take (i := 12) (oi := ⟨some 32, _, _, _, _, _⟩) (v := undef) rfl (by kernel_rfl) (by kernel_rfl) (by kernel_rfl) (fun _ _ _ h => h) (Or.inr ⟨by rfl, rfl⟩) (by assumption) ?_
        (try simp only [Act.put, List.setIfInBounds_toArray, List.set_cons_zero, List.set_cons_succ])
        refine wpAnyH_take (i := 13) (oi := ⟨some 33, _, _, _, _, _⟩) (v := ?_) rfl (by kernel_rfl) (by kernel_rfl) (by kernel_rfl) (fun _ _ _ h => h) (Or.inl ⟨by rfl, ?_⟩) (by assumption) ?_
        rotate_left 1
        · intro w hSw
          (try dsimp only at hSw)
          go_simp
          all_goals (try with_reducible rfl)
        (try simp only [Act.put, List.setIfInBounds_toArray, List.set_cons_zero, List.set_cons_succ])
        refine wpAnyH_done (by kernel_rfl) ?_ _
        have K2 : Keep NoF w (W.drew) := HK.out.drew
        have S2 : Same3 w5.heap.size (w5.heap.size + 1) W (W.drew) := fun _ _ => rfl
        replace h0 : Bk (W.drew) w.heap.size 62 #[.pointer (some ⟨b, 0, none⟩)] := h0
        replace h1 : Bk (W.drew) (w.heap.size + 1) 53 #[.int .i64 op, .int .i64 i, .int .i64 e0, .int .i64 g, .int .i64 (x : Int), .int .i64 y] := h1
        replace h2 : Bk (W.drew) (w.heap.size + 1 + 1) 4 #[.bool false] := h2
        replace h3 : Bk (W.drew) (w.heap.size + 1 + 1 + 1) 89 #[v] := h3
        replace h4 : (W.drew).ownsRow (w5.heap.size + 1 + 2) 86 2 v pre.length (plsC (pre.map fun v => (v, x))) := H4.out
        have hW2 : (W.drew).heap.size = W.heap.size := rfl
        have HZ := Lib.hid hW2
        clear hW2 H4
        generalize W.drew = W2 at *
        rw [← HZ.out] at hBW hDW
        have hob : ∀ k, v.ownBlock = some k → w5.heap.size + 1 + 2 ≤ k ∧ k < W2.heap.size := h4.lt
        obtain ⟨i0, hi, hz0, hz1, hz2⟩ := elemPlace.info
        have hbn := Bk.new W2 86 #[.int .i64 (vv : Nat), .int .i64 (x : Int)]
        have p0 := h0.cell 0
        have n0 := h1.cell 0
        have n4 := h1.cell 4
        have b0 := h2.cell 0
        have l0 := h3.cell 0
        have lf0 := h3.frozen 0
        gi_wp2_with (gi_at_builtin
                     refine wpListIn_append_own _ rfl _ _ 89 rfl (w5.heap.size + 1 + 2) 86 i0 (.agg #[.int .i64 0, .int .i64 0]) 2 16 Try.underlying89 hi hz0 hz1 hz2 rfl (by decide) _ _ _ rfl (h4.alloc _) ⟨W2.heap.size, 0, none⟩ 1 1 (plsC [(vv, x)]) rfl rfl (plsC_at [(vv, x)] hbn) (plsC_one _) (by unfold maxLen; omega) (by omega) (by first | (simp; done) | (simp; omega)) ?_
                     intro v' w1 hown' hgrow _
                     obtain ⟨g', cap', rfl⟩ := ownsRow_succ hown'
                     have hv1 := (h3.alloc (.cells #[.int .i64 (vv : Nat), .int .i64 (x : Int)] 86)).grown hgrow (fun e => by have := (hob _ e.symm).1; omega)
                     have hc1 := hv1.cell 0
                     have hf1 := hv1.frozen 0
                     have ha1 := (h1.alloc (.cells #[.int .i64 (vv : Nat), .int .i64 (x : Int)] 86)).grown hgrow (fun e => by have := (hob _ e.symm).1; omega)
                     have ha2 := (h2.alloc (.cells #[.int .i64 (vv : Nat), .int .i64 (x : Int)] 86)).grown hgrow (fun e => by have := (hob _ e.symm).1; omega)
                     have n01 := ha1.cell 0
                     have b01 := ha2.cell 0)
        refine ⟨fun k hk3 => ?_, Lib.hid (fun h => by cases h), ?_, ha1.far (by first | (simp; done) | (simp; omega)) _, ha2.far (by first | (simp; done) | (simp; omega)) _, ⟨_, bk_set hv1 _, ?_⟩, ?_⟩
        · have hkW : k < W2.heap.size := by rcases hk3 with rfl | rfl | rfl <;> omega
          have hkb : k ≠ w.heap.size + 1 + 1 + 1 := by rcases hk3 with rfl | rfl | rfl <;> omega
          refine (Below.heap_setCell _ _ _ _ hkb).trans (((hgrow.block k (by simp; omega) fun e => ?_).trans (Below.heap_alloc _ _ _ hkW)).trans (S2 k hk3))
          have := (hob _ e.symm).1
          rcases hk3 with rfl | rfl | rfl <;> omega
        · exact (((h0.alloc (.cells #[.int .i64 (vv : Nat), .int .i64 (x : Int)] 86)).grown hgrow (fun e => by have := (hob _ e.symm).1; omega)).far (by first | (simp; done) | (simp; omega)) _)
        · rw [if_neg (by decide), show (pre ++ [vv]).length = pre.length + 1 by simp, List.map_append, plsC_app]
          exact own_keep hown' fun k hkv => Below.heap_setCell _ _ _ _ (by
            have := (hown'.lt k hkv).1
            simp
            omega)
        · exact (((K2.alloc _).grown hgrow fun k e => .inr (by have := (hob _ e).1; omega)).setCell (.inr (by simp; omega)) _)
      · gi_wp2
        refine region_round (fun w' => w'.cell? ⟨w.heap.size, 0, none⟩ = some (.pointer (some ⟨b, 0, none⟩)) ∧ w'.cell? ⟨w.heap.size + 1, 0, none⟩ = some (.int .i64 op) ∧ w'.cell? ⟨w.heap.size + 1, 4, none⟩ = some (.int .i64 (x : Int)) ∧ w'.cell? ⟨w.heap.size + 1 + 1, 0, none⟩ = some (.bool true)) hmix (by kernel_rfl) (fun a w h => h) ⟨p0, n0, n4, b0⟩ (fun hHeld => ?_)
        refine wpAnyH_take (i := 0) (oi := ⟨some 20, _, _, _, _, _⟩) (v := ?_) rfl (by kernel_rfl) (by kernel_rfl) (by kernel_rfl) (fun _ _ _ h => h) (Or.inl ⟨by rfl, ?_⟩) (by assumption) ?_
        rotate_left 1
        · intro w hSw
          (try dsimp only at hSw)
          go_simp
          all_goals (try with_reducible rfl)
        (try simp only [Act.put, List.setIfInBounds_toArray, List.set_cons_zero, List.set_cons_succ])
        refine wpAnyH_take (i := 1) (oi := ⟨some 21, _, _, _, _, _⟩) (v := ?_) rfl (by kernel_rfl) (by kernel_rfl) (by kernel_rfl) (fun _ _ _ h => h) (Or.inl ⟨by rfl, ?_⟩) (by assumption) ?_
        rotate_left 1
        · intro w hSw
          (try dsimp only at hSw)
          go_simp
          all_goals (try with_reducible rfl)
        (try simp only [Act.put, List.setIfInBounds_toArray, List.set_cons_zero, List.set_cons_succ])
        refine wpAnyH_take (i := 2) (oi := ⟨some 22, _, _, _, _, _⟩) (v := ?_) rfl (by kernel_rfl) (by kernel_rfl) (by kernel_rfl) (fun _ _ _ h => h) (Or.inl ⟨by rfl, ?_⟩) (by assumption) ?_
        rotate_left 1
        · intro w hSw
          (try dsimp only at hSw)
          go_simp
          all_goals (try with_reducible rfl)
        (try simp only [Act.put, List.setIfInBounds_toArray, List.set_cons_zero, List.set_cons_succ])
        refine wpAnyH_take (i := 3) (oi := ⟨some 23, _, _, _, _, _⟩) (v := ?_) rfl (by kernel_rfl) (by kernel_rfl) (by kernel_rfl) (fun _ _ _ h => h) (Or.inl ⟨by rfl, ?_⟩) (by assumption) ?_
        rotate_left 1
        · intro w hSw
          (try dsimp only at hSw)
          go_simp
          all_goals (try with_reducible rfl)
        (try simp only [Act.put, List.setIfInBounds_toArray, List.set_cons_zero, List.set_cons_succ])
        refine wpAnyH_take (i := 4) (oi := ⟨some 24, _, _, _, _, _⟩) (v := ?_) rfl (by kernel_rfl) (by kernel_rfl) (by kernel_rfl) (fun _ _ _ h => h) (Or.inl ⟨by rfl, ?_⟩) (by assumption) ?_
        rotate_left 1
        · intro w hSw
          (try dsimp only at hSw)
          go_simp
          all_goals (try with_reducible rfl)
        (try simp only [Act.put, List.setIfInBounds_toArray, List.set_cons_zero, List.set_cons_succ])
        refine wpAnyH_take (i := 5) (oi := ⟨some 25, _, _, _, _, _⟩) (v := ?_) rfl (by kernel_rfl) (by kernel_rfl) (by kernel_rfl) (fun _ _ _ h => h) (Or.inl ⟨by rfl, ?_⟩) (by assumption) ?_
        rotate_left 1
        · intro w hSw
          (try dsimp only at hSw)
          go_simp
          all_goals (try with_reducible rfl)
        (try simp only [Act.put, List.setIfInBounds_toArray, List.set_cons_zero, List.set_cons_succ])
        refine wpAnyH_take (i := 6) (oi := ⟨some 26, _, _, _, _, _⟩) (v := undef) rfl (by kernel_rfl) (by kernel_rfl) (by kernel_rfl) (fun _ _ _ h => h) (Or.inr ⟨by rfl, rfl⟩) (by assumption) ?_
        (try simp only [Act.put, List.setIfInBounds_toArray, List.set_cons_zero, List.set_cons_succ])
        refine wpAnyH_take (i := 7) (oi := ⟨some 27, _, _, _, _, _⟩) (v := undef) rfl (by kernel_rfl) (by kernel_rfl) (by kernel_rfl) (fun _ _ _ h => h) (Or.inr ⟨by rfl, rfl⟩) (by assumption) ?_
        (try simp only [Act.put, List.setIfInBounds_toArray, List.set_cons_zero, List.set_cons_succ])
        refine wpAnyH_take (i := 8) (oi := ⟨some 28, _, _, _, _, _⟩) (v := undef) rfl (by kernel_rfl) (by kernel_rfl) (by kernel_rfl) (fun _ _ _ h => h) (Or.inr ⟨by rfl, rfl⟩) (by assumption) ?_
        (try simp only [Act.put, List.setIfInBounds_toArray, List.set_cons_zero, List.set_cons_succ])
        refine wpAnyH_take (i := 9) (oi := ⟨some 29, _, _, _, _, _⟩) (v := undef) rfl (by kernel_rfl) (by kernel_rfl) (by kernel_rfl) (fun _ _ _ h => h) (Or.inr ⟨by rfl, rfl⟩) (by assumption) ?_
        (try simp only [Act.put, List.setIfInBounds_toArray, List.set_cons_zero, List.set_cons_succ])
        refine wpAnyH_take (i := 10) (oi := ⟨some 30, _, _, _, _, _⟩) (v := undef) rfl (by kernel_rfl) (by kernel_rfl) (by kernel_rfl) (fun _ _ _ h => h) (Or.inr ⟨by rfl, rfl⟩) (by assumption) ?_
        (try simp only [Act.put, List.setIfInBounds_toArray, List.set_cons_zero, List.set_cons_succ])
        refine wpAnyH_take (i := 11) (oi := ⟨some 31, _, _, _, _, _⟩) (v := undef) rfl (by kernel_rfl) (by kernel_rfl) (by kernel_rfl) (fun _ _ _ h => h) (Or.inr ⟨by rfl, rfl⟩) (by assumption) ?_
        (try simp only [Act.put, List.setIfInBounds_toArray, List.set_cons_zero, List.set_cons_succ])
        refine wpAnyH_take (i := 12) (oi := ⟨some 32, _, _, _, _, _⟩) (v := undef) rfl (by kernel_rfl) (by kernel_rfl) (by kernel_rfl) (fun _ _ _ h => h) (Or.inr ⟨by rfl, rfl⟩) (by assumption) ?_
        (try simp only [Act.put, List.setIfInBounds_toArray, List.set_cons_zero, List.set_cons_succ])
        refine wpAnyH_take (i := 13) (oi := ⟨some 33, _, _, _, _, _⟩) (v := ?_) rfl (by kernel_rfl) (by kernel_rfl) (by kernel_rfl) (fun _ _ _ h => h) (Or.inl ⟨by rfl, ?_⟩) (by assumption) ?_
        rotate_left 1
        · intro w hSw
          (try dsimp only at hSw)
          go_simp
          all_goals (try with_reducible rfl)
        (try simp only [Act.put, List.setIfInBounds_toArray, List.set_cons_zero, List.set_cons_succ])
        refine wpAnyH_done (by kernel_rfl) ?_ _
        have K2 : Keep NoF w (W.drew) := HK.out.drew
        have S2 : Same3 w5.heap.size (w5.heap.size + 1) W (W.drew) := fun _ _ => rfl
        replace h0 : Bk (W.drew) w.heap.size 62 #[.pointer (some ⟨b, 0, none⟩)] := h0
        replace h1 : Bk (W.drew) (w.heap.size + 1) 53 #[.int .i64 op, .int .i64 i, .int .i64 e0, .int .i64 g, .int .i64 (x : Int), .int .i64 y] := h1
        replace h2 : Bk (W.drew) (w.heap.size + 1 + 1) 4 #[.bool true] := h2
        replace h3 : Bk (W.drew) (w.heap.size + 1 + 1 + 1) 89 #[v] := h3
        replace h4 : (W.drew).ownsRow (w5.heap.size + 1 + 2) 86 2 v pre.length (plsC (pre.map fun v => (v, x))) := H4.out
        have hW2 : (W.drew).heap.size = W.heap.size := rfl
        have HZ := Lib.hid hW2
        clear hW2 H4
        generalize W.drew = W2 at *
        rw [← HZ.out] at hBW hDW
        have hob : ∀ k, v.ownBlock = some k → w5.heap.size + 1 + 2 ≤ k ∧ k < W2.heap.size := h4.lt
        obtain ⟨i0, hi, hz0, hz1, hz2⟩ := elemPlace.info
        have hbn := Bk.new W2 86 #[.int .i64 (vv : Nat), .int .i64 (x : Int)]
        have p0 := h0.cell 0
        have n0 := h1.cell 0
        have n4 := h1.cell 4
        have b0 := h2.cell 0
        have l0 := h3.cell 0
        have lf0 := h3.frozen 0
        gi_wp2_with (gi_at_builtin
                     refine wpListIn_append_own _ rfl _ _ 89 rfl (w5.heap.size + 1 + 2) 86 i0 (.agg #[.int .i64 0, .int .i64 0]) 2 16 Try.underlying89 hi hz0 hz1 hz2 rfl (by decide) _ _ _ rfl (h4.alloc _) ⟨W2.heap.size, 0, none⟩ 1 1 (plsC [(vv, x)]) rfl rfl (plsC_at [(vv, x)] hbn) (plsC_one _) (by unfold maxLen; omega) (by omega) (by first | (simp; done) | (simp; omega)) ?_
                     intro v' w1 hown' hgrow _
                     obtain ⟨g', cap', rfl⟩ := ownsRow_succ hown'
                     have hv1 := (h3.alloc (.cells #[.int .i64 (vv : Nat), .int .i64 (x : Int)] 86)).grown hgrow (fun e => by have := (hob _ e.symm).1; omega)
                     have hc1 := hv1.cell 0
                     have hf1 := hv1.frozen 0
                     have ha1 := (h1.alloc (.cells #[.int .i64 (vv : Nat), .int .i64 (x : Int)] 86)).grown hgrow (fun e => by have := (hob _ e.symm).1; omega)
                     have ha2 := (h2.alloc (.cells #[.int .i64 (vv : Nat), .int .i64 (x : Int)] 86)).grown hgrow (fun e => by have := (hob _ e.symm).1; omega)
                     have n01 := ha1.cell 0
                     have b01 := ha2.cell 0)
        refine ⟨fun k hk3 => ?_, Lib.hid (fun h => by cases h), ?_, ha1.far (by first | (simp; done) | (simp; omega)) _, ha2.far (by first | (simp; done) | (simp; omega)) _, ⟨_, bk_set hv1 _, ?_⟩, ?_⟩
        · have hkW : k < W2.heap.size := by rcases hk3 with rfl | rfl | rfl <;> omega
          have hkb : k ≠ w.heap.size + 1 + 1 + 1 := by rcases hk3 with rfl | rfl | rfl <;> omega
          refine (Below.heap_setCell _ _ _ _ hkb).trans (((hgrow.block k (by simp; omega) fun e => ?_).trans (Below.heap_alloc _ _ _ hkW)).trans (S2 k hk3))
          have := (hob _ e.symm).1
          rcases hk3 with rfl | rfl | rfl <;> omega
        · exact (((h0.alloc (.cells #[.int .i64 (vv : Nat), .int .i64 (x : Int)] 86)).grown hgrow (fun e => by have := (hob _ e.symm).1; omega)).far (by first | (simp; done) | (simp; omega)) _)
        · rw [if_neg (by decide), show (pre ++ [vv]).length = pre.length + 1 by simp, List.map_append, plsC_app]
          exact own_keep hown' fun k hkv => Below.heap_setCell _ _ _ _ (by
            have := (hown'.lt k hkv).1
            simp
            omega)
        · exact (((K2.alloc _).grown hgrow fun k e => .inr (by have := (hob _ e).1; omega)).setCell (.inr (by simp; omega)) _)
      · exact absurd HEO.out (by decide)
    | true =>
      have HF := Lib.hid (hf.out rfl)
      clear hf
      have HC := Lib.hid fun W' (hk' : Keep NoF w W') => HH.out W' vv hk' hvv
      obtain rfl : o = h := by cases h <;> cases o <;> first | rfl | exact absurd HEO.out (by decide)
      generalize hd : hasN S vv x = d at *
      have HD := Lib.hid hd
      clear hd
      gi_wp2
      refine region_round (fun w' => w'.cell? ⟨w.heap.size, 0, none⟩ = some (.pointer (some ⟨b, 0, none⟩)) ∧ w'.cell? ⟨w.heap.size + 1, 0, none⟩ = some (.int .i64 op) ∧ w'.cell? ⟨w.heap.size + 1, 4, none⟩ = some (.int .i64 (x : Int)) ∧ w'.cell? ⟨w.heap.size + 1 + 1, 0, none⟩ = some (.bool o)) hmix (by kernel_rfl) (fun a w h => h) ⟨p0, n0, n4, b0⟩ (fun hHeld => ?_)
      refine wpAnyH_take (i := 0) (oi := ⟨some 20, _, _, _, _, _⟩) (v := ?_) rfl (by kernel_rfl) (by kernel_rfl) (by kernel_rfl) (fun _ _ _ h => h) (Or.inl ⟨by rfl, ?_⟩) (by assumption) ?_
      rotate_left 1
      · intro w hSw
        (try dsimp only at hSw)
        go_simp
        all_goals (try with_reducible rfl)
      (try simp only [Act.put, List.setIfInBounds_toArray, List.set_cons_zero, List.set_cons_succ])
      refine wpAnyH_take (i := 1) (oi := ⟨some 21, _, _, _, _, _⟩) (v := ?_) rfl (by kernel_rfl) (by kernel_rfl) (by kernel_rfl) (fun _ _ _ h => h) (Or.inl ⟨by rfl, ?_⟩) (by assumption) ?_
      rotate_left 1
      · intro w hSw
        (try dsimp only at hSw)
        go_simp
        all_goals (try with_reducible rfl)
      (try simp only [Act.put, List.setIfInBounds_toArray, List.set_cons_zero, List.set_cons_succ])
      refine wpAnyH_take (i := 2) (oi := ⟨some 22, _, _, _, _, _⟩) (v := ?_) rfl (by kernel_rfl) (by kernel_rfl) (by kernel_rfl) (fun _ _ _ h => h) (Or.inl ⟨by rfl, ?_⟩) (by assumption) ?_
      rotate_left 1
      · intro w hSw
        (try dsimp only at hSw)
        go_simp
        all_goals (try with_reducible rfl)
      (try simp only [Act.put, List.setIfInBounds_toArray, List.set_cons_zero, List.set_cons_succ])
      refine wpAnyH_take (i := 3) (oi := ⟨some 23, _, _, _, _, _⟩) (v := ?_) rfl (by kernel_rfl) (by kernel_rfl) (by kernel_rfl) (fun _ _ _ h => h) (Or.inl ⟨by rfl, ?_⟩) (by assumption) ?_
      rotate_left 1
      · intro w hSw
        (try dsimp only at hSw)
        go_simp
        all_goals (try with_reducible rfl)
      (try simp only [Act.put, List.setIfInBounds_toArray, List.set_cons_zero, List.set_cons_succ])
      refine wpAnyH_take (i := 4) (oi := ⟨some 24, _, _, _, _, _⟩) (v := ?_) rfl (by kernel_rfl) (by kernel_rfl) (by kernel_rfl) (fun _ _ _ h => h) (Or.inl ⟨by rfl, ?_⟩) (by assumption) ?_
      rotate_left 1
      · intro w hSw
        (try dsimp only at hSw)
        go_simp
        all_goals (try with_reducible rfl)
      (try simp only [Act.put, List.setIfInBounds_toArray, List.set_cons_zero, List.set_cons_succ])
      refine wpAnyH_take (i := 5) (oi := ⟨some 25, _, _, _, _, _⟩) (v := ?_) rfl (by kernel_rfl) (by kernel_rfl) (by kernel_rfl) (fun _ _ _ h => h) (Or.inl ⟨by rfl, ?_⟩) (by assumption) ?_
      rotate_left 1
      · intro w hSw
        (try dsimp only at hSw)
        go_simp
        all_goals (try with_reducible rfl)
      (try simp only [Act.put, List.setIfInBounds_toArray, List.set_cons_zero, List.set_cons_succ])
      refine wpAnyH_take (i := 6) (oi := ⟨some 26, _, _, _, _, _⟩) (v := ?_) rfl (by kernel_rfl) (by kernel_rfl) (by kernel_rfl) (fun _ _ _ h => h) (Or.inl ⟨by rfl, ?_⟩) (by assumption) ?_
      rotate_left 1
      · intro w hSw
        (try dsimp only at hSw)
        go_simp
        all_goals (try with_reducible rfl)
      (try simp only [Act.put, List.setIfInBounds_toArray, List.set_cons_zero, List.set_cons_succ])
      refine wpAnyH_take (i := 7) (oi := ⟨some 27, _, _, _, _, _⟩) (v := ?_) rfl (by kernel_rfl) (by kernel_rfl) (by kernel_rfl) (fun _ _ _ h => h) (Or.inl ⟨by rfl, ?_⟩) (by assumption) ?_
      rotate_left 1
      · intro w hSw
        (try dsimp only at hSw)
        go_simp
        all_goals (try with_reducible rfl)
      (try simp only [Act.put, List.setIfInBounds_toArray, List.set_cons_zero, List.set_cons_succ])
      refine wpAnyH_take (i := 8) (oi := ⟨some 28, _, _, _, _, _⟩) (v := ?_) rfl (by kernel_rfl) (by kernel_rfl) (by kernel_rfl) (fun _ _ _ h => h) (Or.inl ⟨by rfl, ?_⟩) (by assumption) ?_
      rotate_left 1
      · intro w hSw
        (try dsimp only at hSw)
        go_simp
        all_goals (try with_reducible rfl)
      (try simp only [Act.put, List.setIfInBounds_toArray, List.set_cons_zero, List.set_cons_succ])
      refine wpAnyH_take (i := 9) (oi := ⟨some 29, _, _, _, _, _⟩) (v := ?_) rfl (by kernel_rfl) (by kernel_rfl) (by kernel_rfl) (fun _ _ _ h => h) (Or.inl ⟨by rfl, ?_⟩) (by assumption) ?_
      rotate_left 1
      · intro w hSw
        (try dsimp only at hSw)
        go_simp
        all_goals (try with_reducible rfl)
      (try simp only [Act.put, List.setIfInBounds_toArray, List.set_cons_zero, List.set_cons_succ])
      refine wpAnyH_take (i := 11) (oi := ⟨some 31, _, _, _, _, _⟩) (v := ?_) rfl (by kernel_rfl) (by kernel_rfl) (by kernel_rfl) (fun _ _ _ h => h) (Or.inl ⟨by rfl, ?_⟩) (by assumption) ?_
      rotate_left 1
      · intro w hSw
        (try dsimp only at hSw)
        go_simp
        all_goals (try with_reducible rfl)
      (try simp only [Act.put, List.setIfInBounds_toArray, List.set_cons_zero, List.set_cons_succ])
      refine wpAnyH_ready (rs := [10]) (by kernel_rfl) (by simp) ?_
      refine AllReadyH.cons (o := ⟨some 30, _, _, _, _, _⟩) rfl (fun K hK => ?_) ?_
      · go_simp
        go_at_call 40
        (with_reducible refine (HC.out _ HK.out.drew).mono ?_)
        rintro e w' ⟨rfl, hw'⟩
        obtain rfl := hw'.symm
        (try go_wp2_with (fail))
        refine hK.out _ _ ⟨p0, n0, n4, b0⟩ (fun hHeld => ?_)
        clear hK K
        (try simp only [Act.put, List.setIfInBounds_toArray, List.set_cons_zero, List.set_cons_succ])
        refine wpAnyH_take (i := 12) (oi := ⟨some 32, _, _, _, _, _⟩) (v := ?_) rfl (by kernel_rfl) (by kernel_rfl) (by kernel_rfl) (fun _ _ _ h => h) (Or.inl ⟨by rfl, ?_⟩) (by assumption) ?_
        rotate_left 1
        · intro w hSw
          (try dsimp only at hSw)
          go_simp
          all_goals (try with_reducible rfl)
        (try simp only [Act.put, List.setIfInBounds_toArray, List.set_cons_zero, List.set_cons_succ])
        refine wpAnyH_take (i := 13) (oi := ⟨some 33, _, _, _, _, _⟩) (v := ?_) rfl (by kernel_rfl) (by kernel_rfl) (by kernel_rfl) (fun _ _ _ h => h) (Or.inl ⟨by rfl, ?_⟩) (by assumption) ?_
        rotate_left 1
        · intro w hSw
          (try dsimp only at hSw)
          go_simp
          all_goals (try with_reducible rfl)
        (try simp only [Act.put, List.setIfInBounds_toArray, List.set_cons_zero, List.set_cons_succ])
        refine wpAnyH_done (by kernel_rfl) ?_ _
        cases o <;> cases d
        · have K2 : Keep NoF w (W.drew) := HK.out.drew
          have S2 : Same3 w5.heap.size (w5.heap.size + 1) W (W.drew) := fun _ _ => rfl
          replace h0 : Bk (W.drew) w.heap.size 62 #[.pointer (some ⟨b, 0, none⟩)] := h0
          replace h1 : Bk (W.drew) (w.heap.size + 1) 53 #[.int .i64 op, .int .i64 i, .int .i64 e0, .int .i64 g, .int .i64 (x : Int), .int .i64 y] := h1
          replace h2 : Bk (W.drew) (w.heap.size + 1 + 1) 4 #[.bool false] := h2
          replace h3 : Bk (W.drew) (w.heap.size + 1 + 1 + 1) 89 #[v] := h3
          replace h4 : (W.drew).ownsRow (w5.heap.size + 1 + 2) 86 2 v 0 (plsC []) := H4.out
          have hW2 : (W.drew).heap.size = W.heap.size := rfl
          have HZ := Lib.hid hW2
          clear hW2 H4
          generalize W.drew = W2 at *
          rw [← HZ.out] at hBW hDW
          have hob : ∀ k, v.ownBlock = some k → w5.heap.size + 1 + 2 ≤ k ∧ k < W2.heap.size := h4.lt
          obtain ⟨i0, hi, hz0, hz1, hz2⟩ := elemPlace.info
          have hbn := Bk.new W2 86 #[.int .i64 (vv : Nat), .int .i64 (x : Int)]
          have p0 := h0.cell 0
          have n0 := h1.cell 0
          have n4 := h1.cell 4
          have b0 := h2.cell 0
          have l0 := h3.cell 0
          have lf0 := h3.frozen 0
          gi_wp2_with (gi_at_builtin
                       refine wpListIn_append_own _ rfl _ _ 89 rfl (w5.heap.size + 1 + 2) 86 i0 (.agg #[.int .i64 0, .int .i64 0]) 2 16 Try.underlying89 hi hz0 hz1 hz2 rfl (by decide) _ _ _ rfl (h4.alloc _) ⟨W2.heap.size, 0, none⟩ 1 1 (plsC [(vv, x)]) rfl rfl (plsC_at [(vv, x)] hbn) (plsC_one _) (by unfold maxLen; omega) (by omega) (by first | (simp; done) | (simp; omega)) ?_
                       intro v' w1 hown' hgrow _
                       obtain ⟨g', cap', rfl⟩ := ownsRow_succ hown'
                       have hv1 := (h3.alloc (.cells #[.int .i64 (vv : Nat), .int .i64 (x : Int)] 86)).grown hgrow (fun e => by have := (hob _ e.symm).1; omega)
                       have hc1 := hv1.cell 0
                       have hf1 := hv1.frozen 0
                       have ha1 := (h1.alloc (.cells #[.int .i64 (vv : Nat), .int .i64 (x : Int)] 86)).grown hgrow (fun e => by have := (hob _ e.symm).1; omega)
                       have ha2 := (h2.alloc (.cells #[.int .i64 (vv : Nat), .int .i64 (x : Int)] 86)).grown hgrow (fun e => by have := (hob _ e.symm).1; omega)
                       have n01 := ha1.cell 0
                       have b01 := ha2.cell 0)
          refine ⟨fun k hk3 => ?_, rfl, rfl, vv, _, Lib.hid (filter_first HPX.out HF.out (by rw [HD.out]; rfl)), bk_set hv1 _, ?_, ?_⟩
          · have hkW : k < W2.heap.size := by rcases hk3 with rfl | rfl | rfl <;> omega
            have hkb : k ≠ w.heap.size + 1 + 1 + 1 := by rcases hk3 with rfl | rfl | rfl <;> omega
            refine (Below.heap_setCell _ _ _ _ hkb).trans (((hgrow.block k (by simp; omega) fun e => ?_).trans (Below.heap_alloc _ _ _ hkW)).trans (S2 k hk3))
            have := (hob _ e.symm).1
            rcases hk3 with rfl | rfl | rfl <;> omega
          · exact own_keep hown' fun k hkv => Below.heap_setCell _ _ _ _ (by
              have := (hown'.lt k hkv).1
              simp
              omega)
          · exact (((K2.alloc _).grown hgrow fun k e => .inr (by have := (hob _ e).1; omega)).setCell (.inr (by simp; omega)) _)
        · have K2 : Keep NoF w (W.drew) := HK.out.drew
          have S2 : Same3 w5.heap.size (w5.heap.size + 1) W (W.drew) := fun _ _ => rfl
          replace h0 : Bk (W.drew) w.heap.size 62 #[.pointer (some ⟨b, 0, none⟩)] := h0
          replace h1 : Bk (W.drew) (w.heap.size + 1) 53 #[.int .i64 op, .int .i64 i, .int .i64 e0, .int .i64 g, .int .i64 (x : Int), .int .i64 y] := h1
          replace h2 : Bk (W.drew) (w.heap.size + 1 + 1) 4 #[.bool false] := h2
          replace h3 : Bk (W.drew) (w.heap.size + 1 + 1 + 1) 89 #[v] := h3
          replace h4 : (W.drew).ownsRow (w5.heap.size + 1 + 2) 86 2 v 0 (plsC []) := H4.out
          have hW2 : (W.drew).heap.size = W.heap.size := rfl
          have HZ := Lib.hid hW2
          clear hW2 H4
          generalize W.drew = W2 at *
          rw [← HZ.out] at hBW hDW
          gi_wp2
          refine ⟨S2, Lib.hid (fun _ => ?_), h0, h1, h2, ⟨v, h3, h4⟩, K2⟩
          rw [List.filter_append, HF.out, List.filter_cons_of_neg (by rw [HD.out]; decide)]
          rfl
        · have K2 : Keep NoF w (W.drew) := HK.out.drew
          have S2 : Same3 w5.heap.size (w5.heap.size + 1) W (W.drew) := fun _ _ => rfl
          replace h0 : Bk (W.drew) w.heap.size 62 #[.pointer (some ⟨b, 0, none⟩)] := h0
          replace h1 : Bk (W.drew) (w.heap.size + 1) 53 #[.int .i64 op, .int .i64 i, .int .i64 e0, .int .i64 g, .int .i64 (x : Int), .int .i64 y] := h1
          replace h2 : Bk (W.drew) (w.heap.size + 1 + 1) 4 #[.bool true] := h2
          replace h3 : Bk (W.drew) (w.heap.size + 1 + 1 + 1) 89 #[v] := h3
          replace h4 : (W.drew).ownsRow (w5.heap.size + 1 + 2) 86 2 v 0 (plsC []) := H4.out
          have hW2 : (W.drew).heap.size = W.heap.size := rfl
          have HZ := Lib.hid hW2
          clear hW2 H4
          generalize W.drew = W2 at *
          rw [← HZ.out] at hBW hDW
          gi_wp2
          refine ⟨S2, Lib.hid (fun _ => ?_), h0, h1, h2, ⟨v, h3, h4⟩, K2⟩
          rw [List.filter_append, HF.out, List.filter_cons_of_neg (by rw [HD.out]; decide)]
          rfl
        · have K2 : Keep NoF w (W.drew) := HK.out.drew
          have S2 : Same3 w5.heap.size (w5.heap.size + 1) W (W.drew) := fun _ _ => rfl
          replace h0 : Bk (W.drew) w.heap.size 62 #[.pointer (some ⟨b, 0, none⟩)] := h0
          replace h1 : Bk (W.drew) (w.heap.size + 1) 53 #[.int .i64 op, .int .i64 i, .int .i64 e0, .int .i64 g, .int .i64 (x : Int), .int .i64 y] := h1
          replace h2 : Bk (W.drew) (w.heap.size + 1 + 1) 4 #[.bool true] := h2
          replace h3 : Bk (W.drew) (w.heap.size + 1 + 1 + 1) 89 #[v] := h3
          replace h4 : (W.drew).ownsRow (w5.heap.size + 1 + 2) 86 2 v 0 (plsC []) := H4.out
          have hW2 : (W.drew).heap.size = W.heap.size := rfl
          have HZ := Lib.hid hW2
          clear hW2 H4
          generalize W.drew = W2 at *
          rw [← HZ.out] at hBW hDW
          have hob : ∀ k, v.ownBlock = some k → w5.heap.size + 1 + 2 ≤ k ∧ k < W2.heap.size := h4.lt
          obtain ⟨i0, hi, hz0, hz1, hz2⟩ := elemPlace.info
          have hbn := Bk.new W2 86 #[.int .i64 (vv : Nat), .int .i64 (x : Int)]
          have p0 := h0.cell 0
          have n0 := h1.cell 0
          have n4 := h1.cell 4
          have b0 := h2.cell 0
          have l0 := h3.cell 0
          have lf0 := h3.frozen 0
          gi_wp2_with (gi_at_builtin
                       refine wpListIn_append_own _ rfl _ _ 89 rfl (w5.heap.size + 1 + 2) 86 i0 (.agg #[.int .i64 0, .int .i64 0]) 2 16 Try.underlying89 hi hz0 hz1 hz2 rfl (by decide) _ _ _ rfl (h4.alloc _) ⟨W2.heap.size, 0, none⟩ 1 1 (plsC [(vv, x)]) rfl rfl (plsC_at [(vv, x)] hbn) (plsC_one _) (by unfold maxLen; omega) (by omega) (by first | (simp; done) | (simp; omega)) ?_
                       intro v' w1 hown' hgrow _
                       obtain ⟨g', cap', rfl⟩ := ownsRow_succ hown'
                       have hv1 := (h3.alloc (.cells #[.int .i64 (vv : Nat), .int .i64 (x : Int)] 86)).grown hgrow (fun e => by have := (hob _ e.symm).1; omega)
                       have hc1 := hv1.cell 0
                       have hf1 := hv1.frozen 0
                       have ha1 := (h1.alloc (.cells #[.int .i64 (vv : Nat), .int .i64 (x : Int)] 86)).grown hgrow (fun e => by have := (hob _ e.symm).1; omega)
                       have ha2 := (h2.alloc (.cells #[.int .i64 (vv : Nat), .int .i64 (x : Int)] 86)).grown hgrow (fun e => by have := (hob _ e.symm).1; omega)
                       have n01 := ha1.cell 0
                       have b01 := ha2.cell 0)
          refine ⟨fun k hk3 => ?_, rfl, rfl, vv, _, Lib.hid (filter_first HPX.out HF.out (by rw [HD.out]; rfl)), bk_set hv1 _, ?_, ?_⟩
          · have hkW : k < W2.heap.size := by rcases hk3 with rfl | rfl | rfl <;> omega
            have hkb : k ≠ w.heap.size + 1 + 1 + 1 := by rcases hk3 with rfl | rfl | rfl <;> omega
            refine (Below.heap_setCell _ _ _ _ hkb).trans (((hgrow.block k (by simp; omega) fun e => ?_).trans (Below.heap_alloc _ _ _ hkW)).trans (S2 k hk3))
            have := (hob _ e.symm).1
            rcases hk3 with rfl | rfl | rfl <;> omega
          · exact own_keep hown' fun k hkv => Below.heap_setCell _ _ _ _ (by
              have := (hown'.lt k hkv).1
              simp
              omega)
          · exact (((K2.alloc _).grown hgrow fun k e => .inr (by have := (hob _ e).1; omega)).setCell (.inr (by simp; omega)) _)

      exact AllReadyH.nil
  case done =>
    rintro W ⟨hf, h0, h1, h2, ⟨v, h3, h4⟩, hk⟩ hD
    have l0 := h3.cell 0
    gi_wp2
    refine ⟨by simp, .inl ⟨_, _, rfl, run_takeDeferred hD, ?_⟩⟩
    have e1 : (if e = true then ((mem s).filter fun v => hasN S v x == h).take 1 else mem s) = (if e = true then [] else mem s) := by
      cases e
      · rfl
      · simp only [if_true]; rw [hf.out rfl]; rfl
    refine ⟨_, results_tmp rfl _ _ _, _, rfl, ?_, keep_end hk (by omega) _⟩
    rw [HMD.out, e1, List.length_map]
    exact own_base (ownsRow_putObj h4 _ hD rfl) (by omega)
  case stop =>
    intro pre W h _
    exact h.elim
  case brk =>
    rintro pre W ⟨rfl, u, v, ht, h3, h4, hk⟩ hD
    have l0 := h3.cell 0
    have HM2 : Hid (modalN M S ⟨op, i, e0, g, x, y⟩ wd h = [(u, x)]) := Lib.hid (by rw [HMD.out, if_pos rfl, ht.out]; rfl)
    clear HMD
    gi_wp2
    refine ⟨by simp, .inl ⟨_, _, rfl, run_takeDeferred hD, ?_⟩⟩
    refine ⟨_, results_tmp rfl _ _ _, _, rfl, ?_, keep_end hk (by omega) _⟩
    rw [HM2.out]
    exact own_base (ownsRow_putObj h4 _ hD rfl) (by omega)
end
end Go.Proofs.Ytmjdbbfoihadoaa
namespace Ev
open Fm (Nd usesX usesY Ord)
theorem below_one {n k w x : Nat} (hw : w < n) (hx : x < k) : Below_ n k [(w, x)] := fun q hq => by
  simp only [List.mem_singleton] at hq
  subst hq
  exact ⟨hw, hx⟩
theorem below_two {n k w x y : Nat} (hw : w < n) (hx : x < k) (hy : y < k) : Below_ n k [(w, x), (w, y)] := fun q hq => by
  simp only [List.mem_cons, List.not_mem_nil, or_false] at hq
  rcases hq with rfl | rfl
  · exact ⟨hw, hx⟩
  · exact ⟨hw, hy⟩
theorem below_bool {S : List Nat} {m : Nd} {n k w : Nat} {h : Bool} (hw : w < n) (hx : m.x.toNat < k) (hy : m.y.toNat < k) : Below_ n k (boolN S m w h) := by
  unfold boolN
  split
  · split
    · exact below_one hw hx
    · exact below_one hw hy
  · exact below_two hw hx hy
theorem below_map {n k s x : Nat} (hs : s < 2 ^ n) (hx : x < k) (l : List Nat) (hl : ∀ v ∈ l, v ∈ mem s) : Below_ n k (l.map fun v => (v, x)) := fun q hq => by
  rw [List.mem_map] at hq
  obtain ⟨v, hv, rfl⟩ := hq
  exact ⟨bit_lt hs (mem_lt (hl v hv)).2, hx⟩
theorem below_modal {M : Md} {S : List Nat} {m : Nd} {k w : Nat} {h : Bool} (hs : succN M m w < 2 ^ M.n) (hx : m.x.toNat < k) : Below_ M.n k (modalN M S m w h) := by
  unfold modalN
  refine below_map hs hx _ fun v hv => ?_
  split at hv
  · exact (List.mem_filter.1 (List.mem_of_mem_take hv)).1
  · exact hv
theorem modal_len {M : Md} {S : List Nat} {m : Nd} {w : Nat} {h : Bool} : (modalN M S m w h).length ≤ 64 := by
  unfold modalN
  rw [List.length_map]
  split
  · have := List.length_take_le 1 ((mem (succN M m w)).filter fun v => hasN S v m.x.toNat == h)
    omega
  · exact memTo_len _ _
theorem bool_len {S : List Nat} {m : Nd} {w : Nat} {h : Bool} : (boolN S m w h).length ≤ 2 := by
  unfold boolN
  split
  · split <;> simp
  · simp
end Ev
namespace Go.Proofs.Ytmjdbbfoihadoaa
open Go.RowKit
open Ev
open Fm (Nd okI)
attribute [local go_sem] Oper.semAt_some

def plV (p : Pl) : Value := .agg #[.int .i64 (p.1 : Int), .int .i64 (p.2 : Int)]
def tinyP (p : Pl) : Prop := tiny p.1 ∧ tiny p.2
theorem keyPlace : Maps.Keyed Try.prog 86 := Maps.Keyed.of_law (deep_law_laid laid (m := 5) (by omega) (of_decide_eq_true (by kernel_rfl)) (by kernel_rfl) (by kernel_rfl))
theorem kt_place : Try.prog.keyType 86 = true := by kernel_rfl
theorem cellsPlace : Try.prog.cellsOf 86 = 2 := by kernel_rfl
theorem okI_tiny {x : Nat} (h : tiny x) : okI (x : Int) := by unfold tiny at h; unfold okI; omega
theorem lits_place (d : Nat) (p : Pl) (h : tinyP p) : ∃ l, Try.prog.keyLits (d + 2) 86 (plC p) = some l := by
  have h1 := lits_int d (okI_tiny h.1)
  have h2 := lits_int d (okI_tiny h.2)
  unfold Program.keyLits
  rw [Try.underlying86]
  simp only [plC, cellsPlace]
  simp [cellsInt, h1, h2]
theorem key_place (p : Pl) (h : tinyP p) : ∃ l, keyOf Try.prog 86 (plV p) = some l := by
  obtain ⟨l, hl⟩ := lits_place (Try.prog.types.size - 1) p h
  refine ⟨.string (keyBytes l), ?_⟩
  have hf : (plV p).formed Try.prog 86 = true := by simp [plV, Value.formed, Try.underlying86, cellsPlace]
  have hc : (plV p).cells.toList = plC p := rfl
  unfold keyOf
  rw [Try.underlying86]
  simp only [kt_place, hf, typesSize, hc]
  rw [hl]
  rfl
theorem plV_inj (x y : Pl) (h : plV x = plV y) : x = y := by
  obtain ⟨a, b⟩ := x
  obtain ⟨a', b'⟩ := y
  simp only [plV, Value.agg.injEq, Array.mk.injEq, List.cons.injEq, Value.int.injEq, true_and, and_true, Int.natCast_inj] at h
  obtain ⟨rfl, rfl⟩ := h
  rfl
theorem encPlace : KeyEnc Try.prog 86 plV tinyP := ⟨keyPlace, plV_inj, key_place⟩
abbrev MapP (w : World) (b : Nat) (g : Pl → Option Nat) : Prop := MapT Try.prog 86 plV inV tinyP w b g
/-- The builder and what it has made. -/
structure BdS (w0 w : World) (b : Nat) (M : Md) (va ra : Option Addr) (cv cr : Nat) (c : List Nd) (cA : Option Addr) (cc : Nat) (S : List Nat) (zA : Option Addr) (zc : Nat) (s : ES) (ps : List (Option Addr × Nat)) (sv : Value) (mb : Nat) : Prop where
  K : Keep (fun k => k = mb) w0 w
  m0 : w0.heap[mb]? = some (.map #[] 0)
  bk : Bk w b 65 #[.int .i64 M.W, .slice va M.V.length cv, .slice ra M.R.length cr, .slice cA c.length cc, .slice zA S.length zc, sv, .map (some mb)]
  own : w.ownsRow w0.heap.size 40 5 sv s.steps.length (rssC s.steps ps)
  pl : ps.length = s.steps.length
  fr : ∀ (i : Nat) (r : Rs) (p : Option Addr × Nat), s.steps[i]? = some r → ps[i]? = some p → w.ownsRow w0.heap.size 3 1 (.slice p.1 r.fr.length p.2) r.fr.length (inZ r.fr)
  mp : MapP w mb s.done
  b0 : w0.heap.size ≤ b
theorem BdS.rd {w0 w : World} {b : Nat} {M : Md} {va ra : Option Addr} {cv cr : Nat} {c : List Nd} {cA : Option Addr} {cc : Nat} {S : List Nat} {zA : Option Addr} {zc : Nat} {s : ES} {ps : List (Option Addr × Nat)} {sv : Value} {mb : Nat} (h : BdS w0 w b M va ra cv cr c cA cc S zA zc s ps sv mb) {v : Value} {size n : Nat} {xs : List Value} (hr : Rd w0 v size n xs) : Rd w v size n xs := by
  obtain ⟨hl, A, cp, rfl, hcp, h2⟩ := hr
  refine ⟨hl, A, cp, rfl, hcp, fun hn => ?_⟩
  obtain ⟨bl, off, rfl, hc⟩ := h2 hn
  refine ⟨bl, off, rfl, fun j u hu => ?_⟩
  have hcu := hc j u hu
  refine h.K.cellv hcu fun e => ?_
  have e : bl = mb := e
  subst e
  rw [World.cell?, h.m0] at hcu
  cases hcu
theorem BdS.md {w0 w : World} {b : Nat} {M : Md} {va ra : Option Addr} {cv cr : Nat} {rs : List (Option Addr × Nat)} {c : List Nd} {cA : Option Addr} {cc : Nat} {S : List Nat} {zA : Option Addr} {zc : Nat} {s : ES} {ps : List (Option Addr × Nat)} {sv : Value} {mb : Nat} (h : BdS w0 w b M va ra cv cr c cA cc S zA zc s ps sv mb) (hm : MdR w0 M va cv ra cr rs) : MdR w M va cv ra cr rs :=
  ⟨h.rd hm.V, h.rd hm.R, hm.rl, fun k r p h1 h2 => h.rd (hm.row k r p h1 h2), hm.u, hm.lv, hm.lr, hm.lw⟩
theorem infoReason : (Try.prog.info? 40).map (fun i => (i.zero, i.size, i.bytes)) = some (some (.agg #[.int .i64 0, .int .i64 0, .bool false, .slice none 0 0, .int .u64 0]), 5, 56) := by kernel_rfl
end Go.Proofs.Ytmjdbbfoihadoaa
