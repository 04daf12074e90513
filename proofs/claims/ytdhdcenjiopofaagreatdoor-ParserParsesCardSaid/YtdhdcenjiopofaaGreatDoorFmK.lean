/- Package formula: what the constructors do. No condition. -/
import Derived.Test.YtdhdcenjiopofaaGreatDoorFmJ
set_option linter.unusedVariables false
set_option linter.unusedSimpArgs false
namespace Go.Proofs.YtdhdcenjiopofaaGreatDoor
open Go.RowKit
open Fm (Nd checkE mk0 mk1 mk2)

theorem FmPost.from {w w1 : World} {l : List Nd} {e : Ending} {w' : World} (h : FmPost w1 l e w') (hk : Keep NoF w w1) : FmPost w l e w' := by
  obtain ⟨A, c, he, hr, hk2, hf⟩ := h
  exact ⟨A, c, he, hr, hk.trans hk2 fun _ _ h => h, fun k hk' => Nat.le_trans hk.size (hf k hk')⟩
section
variable {w : World} {f g : List Nd} {A A' : Option Addr} {c c' : Nat}
theorem mk0_any (op i e g : Int) (hx : Fm.usesX op = false) (w : World) : Calls Tryz.prog 64 #[.agg #[.int .i64 op, .int .i64 i, .int .i64 e, .int .i64 g, .int .i64 0, .int .i64 0], .slice none 0 0] w (FmPost w (mk0 op i e g)) := by
  have := build_any op i e g [] (by simp) none 0 w (Rd.nil _ _) (by simp)
  rw [List.map_nil, Fm.bld0 hx] at this
  exact this
theorem mk1_any (op i e g' : Int) (hx : Fm.usesX op = true) (hy : Fm.usesY op = false) (hl : f.length ≤ 9223372036854775807) (hr : Rd w (.slice A f.length c) 6 f.length (fmC f)) :
    Calls Tryz.prog 64 #[.agg #[.int .i64 op, .int .i64 i, .int .i64 e, .int .i64 g', .int .i64 0, .int .i64 0], .slice (some ⟨w.heap.size, 0, none⟩) 1 1] (w.alloc (.cells #[.slice A f.length c] 27)) (FmPost w (mk1 op i e g' f)) := by
  have hk : Keep NoF w (w.alloc (.cells #[.slice A f.length c] 27)) := (Keep.refl _ _).alloc _
  have hb := Bk.new w 27 #[.slice A f.length c]
  have := build_any op i e g' [⟨f, A, c⟩] (by simp) (some ⟨w.heap.size, 0, none⟩) 1 (w.alloc (.cells #[.slice A f.length c] 27))
    ⟨rfl, _, _, rfl, Nat.le_refl _, fun _ => ⟨_, _, rfl, fun j u hu => by rw [Nat.zero_add, hb.cell j, List.getElem?_toArray]; exact hu⟩⟩ (fun p hp => by
      rw [List.mem_singleton.1 hp]
      exact ⟨hl, hr.kept hk fun _ _ h => h⟩)
  rw [show [(⟨f, A, c⟩ : Opd)].map Opd.l = [f] from rfl, Fm.bld1 hx hy] at this
  exact this.mono fun _ _ h => h.from hk
theorem mk2_any (op i e g' : Int) (hy : Fm.usesY op = true) (hl : f.length ≤ 9223372036854775807) (hr : Rd w (.slice A f.length c) 6 f.length (fmC f)) (hl' : g.length ≤ 9223372036854775807) (hr' : Rd w (.slice A' g.length c') 6 g.length (fmC g)) :
    Calls Tryz.prog 64 #[.agg #[.int .i64 op, .int .i64 i, .int .i64 e, .int .i64 g', .int .i64 0, .int .i64 0], .slice (some ⟨w.heap.size, 0, none⟩) 2 2] (w.alloc (.cells #[.slice A f.length c, .slice A' g.length c'] 27)) (FmPost w (mk2 op i e g' f g)) := by
  have hk : Keep NoF w (w.alloc (.cells #[.slice A f.length c, .slice A' g.length c'] 27)) := (Keep.refl _ _).alloc _
  have hb := Bk.new w 27 #[.slice A f.length c, .slice A' g.length c']
  have := build_any op i e g' [⟨f, A, c⟩, ⟨g, A', c'⟩] (by simp) (some ⟨w.heap.size, 0, none⟩) 2 (w.alloc (.cells #[.slice A f.length c, .slice A' g.length c'] 27))
    ⟨rfl, _, _, rfl, Nat.le_refl _, fun _ => ⟨_, _, rfl, fun j u hu => by rw [Nat.zero_add, hb.cell j, List.getElem?_toArray]; exact hu⟩⟩ (fun p hp => by
      rcases List.mem_cons.1 hp with rfl | hp
      · exact ⟨hl, hr.kept hk fun _ _ h => h⟩
      · rw [List.mem_singleton.1 hp]
        exact ⟨hl', hr'.kept hk fun _ _ h => h⟩)
  rw [show [(⟨f, A, c⟩ : Opd), ⟨g, A', c'⟩].map Opd.l = [f, g] from rfl, Fm.bld2 hy] at this
  exact this.mono fun _ _ h => h.from hk
theorem c_True (w : World) : Calls Tryz.prog 63 #[] w (FmPost w (mk0 1 0 0 0)) := by
  have HB := Lib.hid (mk0_any 1 0 0 0 (by decide) w)
  generalize mk0 1 0 0 0 = L at *
  go_enter Tryz.func63, Tryz.ntmps63
  go_wp2_with (go_at_call 64; (with_reducible refine HB.out.mono ?_); rintro e1 w2 ⟨A3, c3, rfl, R3, K3, F3⟩)
  go_ret
  exact ⟨A3, c3, rfl, R3, K3, F3⟩
theorem c_False (w : World) : Calls Tryz.prog 94 #[] w (FmPost w (mk0 2 0 0 0)) := by
  have HB := Lib.hid (mk0_any 2 0 0 0 (by decide) w)
  generalize mk0 2 0 0 0 = L at *
  go_enter Tryz.func94, Tryz.ntmps94
  go_wp2_with (go_at_call 64; (with_reducible refine HB.out.mono ?_); rintro e1 w2 ⟨A3, c3, rfl, R3, K3, F3⟩)
  go_ret
  exact ⟨A3, c3, rfl, R3, K3, F3⟩
theorem c_Fact (pi : Int) (w : World) : Calls Tryz.prog 100 #[.int .i64 pi] w (FmPost w (mk0 3 pi 0 0)) := by
  have HB := Lib.hid (mk0_any 3 pi 0 0 (by decide) w)
  generalize mk0 3 pi 0 0 = L at *
  go_enter Tryz.func100, Tryz.ntmps100
  go_wp2_with (go_at_call 64; (with_reducible refine HB.out.mono ?_); rintro e1 w2 ⟨A3, c3, rfl, R3, K3, F3⟩)
  go_ret
  exact ⟨A3, c3, rfl, R3, K3, F3⟩
theorem c_Not (hl : f.length ≤ 9223372036854775807) (hr : Rd w (.slice A f.length c) 6 f.length (fmC f)) : Calls Tryz.prog 91 #[.slice A f.length c] w (FmPost w (mk1 4 0 0 0 f)) := by
  have HB := Lib.hid (mk1_any 4 0 0 0 (by decide) (by decide) hl hr)
  generalize mk1 4 0 0 0 f = L at *
  clear hr hl
  generalize f.length = fn at *
  go_enter Tryz.func91, Tryz.ntmps91
  go_wp2_with (go_at_call 64; (with_reducible refine HB.out.mono ?_); rintro e1 w2 ⟨A3, c3, rfl, R3, K3, F3⟩)
  go_ret
  exact ⟨A3, c3, rfl, R3, K3, F3⟩
theorem c_And (hl : f.length ≤ 9223372036854775807) (hr : Rd w (.slice A f.length c) 6 f.length (fmC f)) (hl' : g.length ≤ 9223372036854775807) (hr' : Rd w (.slice A' g.length c') 6 g.length (fmC g)) : Calls Tryz.prog 82 #[.slice A f.length c, .slice A' g.length c'] w (FmPost w (mk2 5 0 0 0 f g)) := by
  have HB := Lib.hid (mk2_any 5 0 0 0 (by decide) hl hr hl' hr')
  generalize mk2 5 0 0 0 f g = L at *
  clear hr hl hr' hl'
  generalize f.length = fn at *
  generalize g.length = gn at *
  go_enter Tryz.func82, Tryz.ntmps82
  go_wp2_with (go_at_call 64; (with_reducible refine HB.out.mono ?_); rintro e1 w2 ⟨A3, c3, rfl, R3, K3, F3⟩)
  go_ret
  exact ⟨A3, c3, rfl, R3, K3, F3⟩
theorem c_Or (hl : f.length ≤ 9223372036854775807) (hr : Rd w (.slice A f.length c) 6 f.length (fmC f)) (hl' : g.length ≤ 9223372036854775807) (hr' : Rd w (.slice A' g.length c') 6 g.length (fmC g)) : Calls Tryz.prog 80 #[.slice A f.length c, .slice A' g.length c'] w (FmPost w (mk2 6 0 0 0 f g)) := by
  have HB := Lib.hid (mk2_any 6 0 0 0 (by decide) hl hr hl' hr')
  generalize mk2 6 0 0 0 f g = L at *
  clear hr hl hr' hl'
  generalize f.length = fn at *
  generalize g.length = gn at *
  go_enter Tryz.func80, Tryz.ntmps80
  go_wp2_with (go_at_call 64; (with_reducible refine HB.out.mono ?_); rintro e1 w2 ⟨A3, c3, rfl, R3, K3, F3⟩)
  go_ret
  exact ⟨A3, c3, rfl, R3, K3, F3⟩
theorem c_Imp (hl : f.length ≤ 9223372036854775807) (hr : Rd w (.slice A f.length c) 6 f.length (fmC f)) (hl' : g.length ≤ 9223372036854775807) (hr' : Rd w (.slice A' g.length c') 6 g.length (fmC g)) : Calls Tryz.prog 61 #[.slice A f.length c, .slice A' g.length c'] w (FmPost w (mk2 7 0 0 0 f g)) := by
  have HB := Lib.hid (mk2_any 7 0 0 0 (by decide) hl hr hl' hr')
  generalize mk2 7 0 0 0 f g = L at *
  clear hr hl hr' hl'
  generalize f.length = fn at *
  generalize g.length = gn at *
  go_enter Tryz.func61, Tryz.ntmps61
  go_wp2_with (go_at_call 64; (with_reducible refine HB.out.mono ?_); rintro e1 w2 ⟨A3, c3, rfl, R3, K3, F3⟩)
  go_ret
  exact ⟨A3, c3, rfl, R3, K3, F3⟩
theorem c_Iff (hl : f.length ≤ 9223372036854775807) (hr : Rd w (.slice A f.length c) 6 f.length (fmC f)) (hl' : g.length ≤ 9223372036854775807) (hr' : Rd w (.slice A' g.length c') 6 g.length (fmC g)) : Calls Tryz.prog 37 #[.slice A f.length c, .slice A' g.length c'] w (FmPost w (mk2 8 0 0 0 f g)) := by
  have HB := Lib.hid (mk2_any 8 0 0 0 (by decide) hl hr hl' hr')
  generalize mk2 8 0 0 0 f g = L at *
  clear hr hl hr' hl'
  generalize f.length = fn at *
  generalize g.length = gn at *
  go_enter Tryz.func37, Tryz.ntmps37
  go_wp2_with (go_at_call 64; (with_reducible refine HB.out.mono ?_); rintro e1 w2 ⟨A3, c3, rfl, R3, K3, F3⟩)
  go_ret
  exact ⟨A3, c3, rfl, R3, K3, F3⟩
theorem c_Know (pi : Int) (hl : f.length ≤ 9223372036854775807) (hr : Rd w (.slice A f.length c) 6 f.length (fmC f)) : Calls Tryz.prog 107 #[.int .i64 pi, .slice A f.length c] w (FmPost w (mk1 9 pi 0 0 f)) := by
  have HB := Lib.hid (mk1_any 9 pi 0 0 (by decide) (by decide) hl hr)
  generalize mk1 9 pi 0 0 f = L at *
  clear hr hl
  generalize f.length = fn at *
  go_enter Tryz.func107, Tryz.ntmps107
  go_wp2_with (go_at_call 64; (with_reducible refine HB.out.mono ?_); rintro e1 w2 ⟨A3, c3, rfl, R3, K3, F3⟩)
  go_ret
  exact ⟨A3, c3, rfl, R3, K3, F3⟩
theorem c_Poss (pi : Int) (hl : f.length ≤ 9223372036854775807) (hr : Rd w (.slice A f.length c) 6 f.length (fmC f)) : Calls Tryz.prog 108 #[.int .i64 pi, .slice A f.length c] w (FmPost w (mk1 10 pi 0 0 f)) := by
  have HB := Lib.hid (mk1_any 10 pi 0 0 (by decide) (by decide) hl hr)
  generalize mk1 10 pi 0 0 f = L at *
  clear hr hl
  generalize f.length = fn at *
  go_enter Tryz.func108, Tryz.ntmps108
  go_wp2_with (go_at_call 64; (with_reducible refine HB.out.mono ?_); rintro e1 w2 ⟨A3, c3, rfl, R3, K3, F3⟩)
  go_ret
  exact ⟨A3, c3, rfl, R3, K3, F3⟩
theorem c_Every (pg : Int) (hl : f.length ≤ 9223372036854775807) (hr : Rd w (.slice A f.length c) 6 f.length (fmC f)) : Calls Tryz.prog 120 #[.int .i64 pg, .slice A f.length c] w (FmPost w (mk1 11 0 0 pg f)) := by
  have HB := Lib.hid (mk1_any 11 0 0 pg (by decide) (by decide) hl hr)
  generalize mk1 11 0 0 pg f = L at *
  clear hr hl
  generalize f.length = fn at *
  go_enter Tryz.func120, Tryz.ntmps120
  go_wp2_with (go_at_call 64; (with_reducible refine HB.out.mono ?_); rintro e1 w2 ⟨A3, c3, rfl, R3, K3, F3⟩)
  go_ret
  exact ⟨A3, c3, rfl, R3, K3, F3⟩
theorem c_Dist (pg : Int) (hl : f.length ≤ 9223372036854775807) (hr : Rd w (.slice A f.length c) 6 f.length (fmC f)) : Calls Tryz.prog 121 #[.int .i64 pg, .slice A f.length c] w (FmPost w (mk1 12 0 0 pg f)) := by
  have HB := Lib.hid (mk1_any 12 0 0 pg (by decide) (by decide) hl hr)
  generalize mk1 12 0 0 pg f = L at *
  clear hr hl
  generalize f.length = fn at *
  go_enter Tryz.func121, Tryz.ntmps121
  go_wp2_with (go_at_call 64; (with_reducible refine HB.out.mono ?_); rintro e1 w2 ⟨A3, c3, rfl, R3, K3, F3⟩)
  go_ret
  exact ⟨A3, c3, rfl, R3, K3, F3⟩
theorem c_Common (pg : Int) (hl : f.length ≤ 9223372036854775807) (hr : Rd w (.slice A f.length c) 6 f.length (fmC f)) (hl' : g.length ≤ 9223372036854775807) (hr' : Rd w (.slice A' g.length c') 6 g.length (fmC g)) : Calls Tryz.prog 122 #[.int .i64 pg, .slice A f.length c, .slice A' g.length c'] w (FmPost w (mk2 13 0 0 pg f g)) := by
  have HB := Lib.hid (mk2_any 13 0 0 pg (by decide) hl hr hl' hr')
  generalize mk2 13 0 0 pg f g = L at *
  clear hr hl hr' hl'
  generalize f.length = fn at *
  generalize g.length = gn at *
  go_enter Tryz.func122, Tryz.ntmps122
  go_wp2_with (go_at_call 64; (with_reducible refine HB.out.mono ?_); rintro e1 w2 ⟨A3, c3, rfl, R3, K3, F3⟩)
  go_ret
  exact ⟨A3, c3, rfl, R3, K3, F3⟩
theorem c_Belief (pi : Int) (hl : f.length ≤ 9223372036854775807) (hr : Rd w (.slice A f.length c) 6 f.length (fmC f)) (hl' : g.length ≤ 9223372036854775807) (hr' : Rd w (.slice A' g.length c') 6 g.length (fmC g)) : Calls Tryz.prog 110 #[.int .i64 pi, .slice A f.length c, .slice A' g.length c'] w (FmPost w (mk2 14 pi 0 0 f g)) := by
  have HB := Lib.hid (mk2_any 14 pi 0 0 (by decide) hl hr hl' hr')
  generalize mk2 14 pi 0 0 f g = L at *
  clear hr hl hr' hl'
  generalize f.length = fn at *
  generalize g.length = gn at *
  go_enter Tryz.func110, Tryz.ntmps110
  go_wp2_with (go_at_call 64; (with_reducible refine HB.out.mono ?_); rintro e1 w2 ⟨A3, c3, rfl, R3, K3, F3⟩)
  go_ret
  exact ⟨A3, c3, rfl, R3, K3, F3⟩
theorem c_Safe (pi : Int) (hl : f.length ≤ 9223372036854775807) (hr : Rd w (.slice A f.length c) 6 f.length (fmC f)) : Calls Tryz.prog 109 #[.int .i64 pi, .slice A f.length c] w (FmPost w (mk1 15 pi 0 0 f)) := by
  have HB := Lib.hid (mk1_any 15 pi 0 0 (by decide) (by decide) hl hr)
  generalize mk1 15 pi 0 0 f = L at *
  clear hr hl
  generalize f.length = fn at *
  go_enter Tryz.func109, Tryz.ntmps109
  go_wp2_with (go_at_call 64; (with_reducible refine HB.out.mono ?_); rintro e1 w2 ⟨A3, c3, rfl, R3, K3, F3⟩)
  go_ret
  exact ⟨A3, c3, rfl, R3, K3, F3⟩
theorem c_Announce (hl : f.length ≤ 9223372036854775807) (hr : Rd w (.slice A f.length c) 6 f.length (fmC f)) (hl' : g.length ≤ 9223372036854775807) (hr' : Rd w (.slice A' g.length c') 6 g.length (fmC g)) : Calls Tryz.prog 111 #[.slice A f.length c, .slice A' g.length c'] w (FmPost w (mk2 16 0 0 0 f g)) := by
  have HB := Lib.hid (mk2_any 16 0 0 0 (by decide) hl hr hl' hr')
  generalize mk2 16 0 0 0 f g = L at *
  clear hr hl hr' hl'
  generalize f.length = fn at *
  generalize g.length = gn at *
  go_enter Tryz.func111, Tryz.ntmps111
  go_wp2_with (go_at_call 64; (with_reducible refine HB.out.mono ?_); rintro e1 w2 ⟨A3, c3, rfl, R3, K3, F3⟩)
  go_ret
  exact ⟨A3, c3, rfl, R3, K3, F3⟩
theorem c_Act (pi : Int) (pe : Int) (hl : f.length ≤ 9223372036854775807) (hr : Rd w (.slice A f.length c) 6 f.length (fmC f)) : Calls Tryz.prog 113 #[.int .i64 pi, .int .i64 pe, .slice A f.length c] w (FmPost w (mk1 17 pi pe 0 f)) := by
  have HB := Lib.hid (mk1_any 17 pi pe 0 (by decide) (by decide) hl hr)
  generalize mk1 17 pi pe 0 f = L at *
  clear hr hl
  generalize f.length = fn at *
  go_enter Tryz.func113, Tryz.ntmps113
  go_wp2_with (go_at_call 64; (with_reducible refine HB.out.mono ?_); rintro e1 w2 ⟨A3, c3, rfl, R3, K3, F3⟩)
  go_ret
  exact ⟨A3, c3, rfl, R3, K3, F3⟩
theorem c_Next (hl : f.length ≤ 9223372036854775807) (hr : Rd w (.slice A f.length c) 6 f.length (fmC f)) : Calls Tryz.prog 92 #[.slice A f.length c] w (FmPost w (mk1 18 0 0 0 f)) := by
  have HB := Lib.hid (mk1_any 18 0 0 0 (by decide) (by decide) hl hr)
  generalize mk1 18 0 0 0 f = L at *
  clear hr hl
  generalize f.length = fn at *
  go_enter Tryz.func92, Tryz.ntmps92
  go_wp2_with (go_at_call 64; (with_reducible refine HB.out.mono ?_); rintro e1 w2 ⟨A3, c3, rfl, R3, K3, F3⟩)
  go_ret
  exact ⟨A3, c3, rfl, R3, K3, F3⟩
theorem c_Until (hl : f.length ≤ 9223372036854775807) (hr : Rd w (.slice A f.length c) 6 f.length (fmC f)) (hl' : g.length ≤ 9223372036854775807) (hr' : Rd w (.slice A' g.length c') 6 g.length (fmC g)) : Calls Tryz.prog 84 #[.slice A f.length c, .slice A' g.length c'] w (FmPost w (mk2 19 0 0 0 f g)) := by
  have HB := Lib.hid (mk2_any 19 0 0 0 (by decide) hl hr hl' hr')
  generalize mk2 19 0 0 0 f g = L at *
  clear hr hl hr' hl'
  generalize f.length = fn at *
  generalize g.length = gn at *
  go_enter Tryz.func84, Tryz.ntmps84
  go_wp2_with (go_at_call 64; (with_reducible refine HB.out.mono ?_); rintro e1 w2 ⟨A3, c3, rfl, R3, K3, F3⟩)
  go_ret
  exact ⟨A3, c3, rfl, R3, K3, F3⟩
theorem c_Prev (hl : f.length ≤ 9223372036854775807) (hr : Rd w (.slice A f.length c) 6 f.length (fmC f)) : Calls Tryz.prog 93 #[.slice A f.length c] w (FmPost w (mk1 20 0 0 0 f)) := by
  have HB := Lib.hid (mk1_any 20 0 0 0 (by decide) (by decide) hl hr)
  generalize mk1 20 0 0 0 f = L at *
  clear hr hl
  generalize f.length = fn at *
  go_enter Tryz.func93, Tryz.ntmps93
  go_wp2_with (go_at_call 64; (with_reducible refine HB.out.mono ?_); rintro e1 w2 ⟨A3, c3, rfl, R3, K3, F3⟩)
  go_ret
  exact ⟨A3, c3, rfl, R3, K3, F3⟩
theorem c_Since (hl : f.length ≤ 9223372036854775807) (hr : Rd w (.slice A f.length c) 6 f.length (fmC f)) (hl' : g.length ≤ 9223372036854775807) (hr' : Rd w (.slice A' g.length c') 6 g.length (fmC g)) : Calls Tryz.prog 85 #[.slice A f.length c, .slice A' g.length c'] w (FmPost w (mk2 21 0 0 0 f g)) := by
  have HB := Lib.hid (mk2_any 21 0 0 0 (by decide) hl hr hl' hr')
  generalize mk2 21 0 0 0 f g = L at *
  clear hr hl hr' hl'
  generalize f.length = fn at *
  generalize g.length = gn at *
  go_enter Tryz.func85, Tryz.ntmps85
  go_wp2_with (go_at_call 64; (with_reducible refine HB.out.mono ?_); rintro e1 w2 ⟨A3, c3, rfl, R3, K3, F3⟩)
  go_ret
  exact ⟨A3, c3, rfl, R3, K3, F3⟩
end
end Go.Proofs.YtdhdcenjiopofaaGreatDoor
