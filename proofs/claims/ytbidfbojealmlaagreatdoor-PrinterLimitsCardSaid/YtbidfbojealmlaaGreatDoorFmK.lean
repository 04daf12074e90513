/- Package formula: what the constructors do. No condition. -/
import Derived.Test.YtbidfbojealmlaaGreatDoorFmJ
set_option linter.unusedVariables false
set_option linter.unusedSimpArgs false
namespace Go.Proofs.YtbidfbojealmlaaGreatDoor
open Go.RowKit
open Fm (Nd checkE mk0 mk1 mk2)

theorem FmPost.from {w w1 : World} {l : List Nd} {e : Ending} {w' : World} (h : FmPost w1 l e w') (hk : Keep NoF w w1) : FmPost w l e w' := by
  obtain ⟨A, c, he, hr, hk2, hf⟩ := h
  exact ⟨A, c, he, hr, hk.trans hk2 fun _ _ h => h, fun k hk' => Nat.le_trans hk.size (hf k hk')⟩
section
variable {w : World} {f g : List Nd} {A A' : Option Addr} {c c' : Nat}
theorem mk0_any (op i e g : Int) (hx : Fm.usesX op = false) (w : World) : Calls Tryz.prog 45 #[.agg #[.int .i64 op, .int .i64 i, .int .i64 e, .int .i64 g, .int .i64 0, .int .i64 0], .slice none 0 0] w (FmPost w (mk0 op i e g)) := by
  have := build_any op i e g [] (by simp) none 0 w (Rd.nil _ _) (by simp)
  rw [List.map_nil, Fm.bld0 hx] at this
  exact this
theorem mk1_any (op i e g' : Int) (hx : Fm.usesX op = true) (hy : Fm.usesY op = false) (hl : f.length ≤ 9223372036854775807) (hr : Rd w (.slice A f.length c) 6 f.length (fmC f)) :
    Calls Tryz.prog 45 #[.agg #[.int .i64 op, .int .i64 i, .int .i64 e, .int .i64 g', .int .i64 0, .int .i64 0], .slice (some ⟨w.heap.size, 0, none⟩) 1 1] (w.alloc (.cells #[.slice A f.length c] 25)) (FmPost w (mk1 op i e g' f)) := by
  have hk : Keep NoF w (w.alloc (.cells #[.slice A f.length c] 25)) := (Keep.refl _ _).alloc _
  have hb := Bk.new w 25 #[.slice A f.length c]
  have := build_any op i e g' [⟨f, A, c⟩] (by simp) (some ⟨w.heap.size, 0, none⟩) 1 (w.alloc (.cells #[.slice A f.length c] 25))
    ⟨rfl, _, _, rfl, Nat.le_refl _, fun _ => ⟨_, _, rfl, fun j u hu => by rw [Nat.zero_add, hb.cell j, List.getElem?_toArray]; exact hu⟩⟩ (fun p hp => by
      rw [List.mem_singleton.1 hp]
      exact ⟨hl, hr.kept hk fun _ _ h => h⟩)
  rw [show [(⟨f, A, c⟩ : Opd)].map Opd.l = [f] from rfl, Fm.bld1 hx hy] at this
  exact this.mono fun _ _ h => h.from hk
theorem mk2_any (op i e g' : Int) (hy : Fm.usesY op = true) (hl : f.length ≤ 9223372036854775807) (hr : Rd w (.slice A f.length c) 6 f.length (fmC f)) (hl' : g.length ≤ 9223372036854775807) (hr' : Rd w (.slice A' g.length c') 6 g.length (fmC g)) :
    Calls Tryz.prog 45 #[.agg #[.int .i64 op, .int .i64 i, .int .i64 e, .int .i64 g', .int .i64 0, .int .i64 0], .slice (some ⟨w.heap.size, 0, none⟩) 2 2] (w.alloc (.cells #[.slice A f.length c, .slice A' g.length c'] 25)) (FmPost w (mk2 op i e g' f g)) := by
  have hk : Keep NoF w (w.alloc (.cells #[.slice A f.length c, .slice A' g.length c'] 25)) := (Keep.refl _ _).alloc _
  have hb := Bk.new w 25 #[.slice A f.length c, .slice A' g.length c']
  have := build_any op i e g' [⟨f, A, c⟩, ⟨g, A', c'⟩] (by simp) (some ⟨w.heap.size, 0, none⟩) 2 (w.alloc (.cells #[.slice A f.length c, .slice A' g.length c'] 25))
    ⟨rfl, _, _, rfl, Nat.le_refl _, fun _ => ⟨_, _, rfl, fun j u hu => by rw [Nat.zero_add, hb.cell j, List.getElem?_toArray]; exact hu⟩⟩ (fun p hp => by
      rcases List.mem_cons.1 hp with rfl | hp
      · exact ⟨hl, hr.kept hk fun _ _ h => h⟩
      · rw [List.mem_singleton.1 hp]
        exact ⟨hl', hr'.kept hk fun _ _ h => h⟩)
  rw [show [(⟨f, A, c⟩ : Opd), ⟨g, A', c'⟩].map Opd.l = [f, g] from rfl, Fm.bld2 hy] at this
  exact this.mono fun _ _ h => h.from hk
theorem c_True (w : World) : Calls Tryz.prog 99 #[] w (FmPost w (mk0 1 0 0 0)) := by
  have HB := Lib.hid (mk0_any 1 0 0 0 (by decide) w)
  generalize mk0 1 0 0 0 = L at *
  go_enter Tryz.func99, Tryz.ntmps99
  go_wp2_with (go_at_call 45; (with_reducible refine HB.out.mono ?_); rintro e1 w2 ⟨A3, c3, rfl, R3, K3, F3⟩)
  go_ret
  exact ⟨A3, c3, rfl, R3, K3, F3⟩
theorem c_False (w : World) : Calls Tryz.prog 130 #[] w (FmPost w (mk0 2 0 0 0)) := by
  have HB := Lib.hid (mk0_any 2 0 0 0 (by decide) w)
  generalize mk0 2 0 0 0 = L at *
  go_enter Tryz.func130, Tryz.ntmps130
  go_wp2_with (go_at_call 45; (with_reducible refine HB.out.mono ?_); rintro e1 w2 ⟨A3, c3, rfl, R3, K3, F3⟩)
  go_ret
  exact ⟨A3, c3, rfl, R3, K3, F3⟩
theorem c_Fact (pi : Int) (w : World) : Calls Tryz.prog 136 #[.int .i64 pi] w (FmPost w (mk0 3 pi 0 0)) := by
  have HB := Lib.hid (mk0_any 3 pi 0 0 (by decide) w)
  generalize mk0 3 pi 0 0 = L at *
  go_enter Tryz.func136, Tryz.ntmps136
  go_wp2_with (go_at_call 45; (with_reducible refine HB.out.mono ?_); rintro e1 w2 ⟨A3, c3, rfl, R3, K3, F3⟩)
  go_ret
  exact ⟨A3, c3, rfl, R3, K3, F3⟩
theorem c_Not (hl : f.length ≤ 9223372036854775807) (hr : Rd w (.slice A f.length c) 6 f.length (fmC f)) : Calls Tryz.prog 127 #[.slice A f.length c] w (FmPost w (mk1 4 0 0 0 f)) := by
  have HB := Lib.hid (mk1_any 4 0 0 0 (by decide) (by decide) hl hr)
  generalize mk1 4 0 0 0 f = L at *
  clear hr hl
  generalize f.length = fn at *
  go_enter Tryz.func127, Tryz.ntmps127
  go_wp2_with (go_at_call 45; (with_reducible refine HB.out.mono ?_); rintro e1 w2 ⟨A3, c3, rfl, R3, K3, F3⟩)
  go_ret
  exact ⟨A3, c3, rfl, R3, K3, F3⟩
theorem c_And (hl : f.length ≤ 9223372036854775807) (hr : Rd w (.slice A f.length c) 6 f.length (fmC f)) (hl' : g.length ≤ 9223372036854775807) (hr' : Rd w (.slice A' g.length c') 6 g.length (fmC g)) : Calls Tryz.prog 22 #[.slice A f.length c, .slice A' g.length c'] w (FmPost w (mk2 5 0 0 0 f g)) := by
  have HB := Lib.hid (mk2_any 5 0 0 0 (by decide) hl hr hl' hr')
  generalize mk2 5 0 0 0 f g = L at *
  clear hr hl hr' hl'
  generalize f.length = fn at *
  generalize g.length = gn at *
  go_enter Tryz.func22, Tryz.ntmps22
  go_wp2_with (go_at_call 45; (with_reducible refine HB.out.mono ?_); rintro e1 w2 ⟨A3, c3, rfl, R3, K3, F3⟩)
  go_ret
  exact ⟨A3, c3, rfl, R3, K3, F3⟩
theorem c_Or (hl : f.length ≤ 9223372036854775807) (hr : Rd w (.slice A f.length c) 6 f.length (fmC f)) (hl' : g.length ≤ 9223372036854775807) (hr' : Rd w (.slice A' g.length c') 6 g.length (fmC g)) : Calls Tryz.prog 115 #[.slice A f.length c, .slice A' g.length c'] w (FmPost w (mk2 6 0 0 0 f g)) := by
  have HB := Lib.hid (mk2_any 6 0 0 0 (by decide) hl hr hl' hr')
  generalize mk2 6 0 0 0 f g = L at *
  clear hr hl hr' hl'
  generalize f.length = fn at *
  generalize g.length = gn at *
  go_enter Tryz.func115, Tryz.ntmps115
  go_wp2_with (go_at_call 45; (with_reducible refine HB.out.mono ?_); rintro e1 w2 ⟨A3, c3, rfl, R3, K3, F3⟩)
  go_ret
  exact ⟨A3, c3, rfl, R3, K3, F3⟩
theorem c_Imp (hl : f.length ≤ 9223372036854775807) (hr : Rd w (.slice A f.length c) 6 f.length (fmC f)) (hl' : g.length ≤ 9223372036854775807) (hr' : Rd w (.slice A' g.length c') 6 g.length (fmC g)) : Calls Tryz.prog 97 #[.slice A f.length c, .slice A' g.length c'] w (FmPost w (mk2 7 0 0 0 f g)) := by
  have HB := Lib.hid (mk2_any 7 0 0 0 (by decide) hl hr hl' hr')
  generalize mk2 7 0 0 0 f g = L at *
  clear hr hl hr' hl'
  generalize f.length = fn at *
  generalize g.length = gn at *
  go_enter Tryz.func97, Tryz.ntmps97
  go_wp2_with (go_at_call 45; (with_reducible refine HB.out.mono ?_); rintro e1 w2 ⟨A3, c3, rfl, R3, K3, F3⟩)
  go_ret
  exact ⟨A3, c3, rfl, R3, K3, F3⟩
theorem c_Iff (hl : f.length ≤ 9223372036854775807) (hr : Rd w (.slice A f.length c) 6 f.length (fmC f)) (hl' : g.length ≤ 9223372036854775807) (hr' : Rd w (.slice A' g.length c') 6 g.length (fmC g)) : Calls Tryz.prog 69 #[.slice A f.length c, .slice A' g.length c'] w (FmPost w (mk2 8 0 0 0 f g)) := by
  have HB := Lib.hid (mk2_any 8 0 0 0 (by decide) hl hr hl' hr')
  generalize mk2 8 0 0 0 f g = L at *
  clear hr hl hr' hl'
  generalize f.length = fn at *
  generalize g.length = gn at *
  go_enter Tryz.func69, Tryz.ntmps69
  go_wp2_with (go_at_call 45; (with_reducible refine HB.out.mono ?_); rintro e1 w2 ⟨A3, c3, rfl, R3, K3, F3⟩)
  go_ret
  exact ⟨A3, c3, rfl, R3, K3, F3⟩
theorem c_Know (pi : Int) (hl : f.length ≤ 9223372036854775807) (hr : Rd w (.slice A f.length c) 6 f.length (fmC f)) : Calls Tryz.prog 147 #[.int .i64 pi, .slice A f.length c] w (FmPost w (mk1 9 pi 0 0 f)) := by
  have HB := Lib.hid (mk1_any 9 pi 0 0 (by decide) (by decide) hl hr)
  generalize mk1 9 pi 0 0 f = L at *
  clear hr hl
  generalize f.length = fn at *
  go_enter Tryz.func147, Tryz.ntmps147
  go_wp2_with (go_at_call 45; (with_reducible refine HB.out.mono ?_); rintro e1 w2 ⟨A3, c3, rfl, R3, K3, F3⟩)
  go_ret
  exact ⟨A3, c3, rfl, R3, K3, F3⟩
theorem c_Poss (pi : Int) (hl : f.length ≤ 9223372036854775807) (hr : Rd w (.slice A f.length c) 6 f.length (fmC f)) : Calls Tryz.prog 148 #[.int .i64 pi, .slice A f.length c] w (FmPost w (mk1 10 pi 0 0 f)) := by
  have HB := Lib.hid (mk1_any 10 pi 0 0 (by decide) (by decide) hl hr)
  generalize mk1 10 pi 0 0 f = L at *
  clear hr hl
  generalize f.length = fn at *
  go_enter Tryz.func148, Tryz.ntmps148
  go_wp2_with (go_at_call 45; (with_reducible refine HB.out.mono ?_); rintro e1 w2 ⟨A3, c3, rfl, R3, K3, F3⟩)
  go_ret
  exact ⟨A3, c3, rfl, R3, K3, F3⟩
theorem c_Every (pg : Int) (hl : f.length ≤ 9223372036854775807) (hr : Rd w (.slice A f.length c) 6 f.length (fmC f)) : Calls Tryz.prog 165 #[.int .i64 pg, .slice A f.length c] w (FmPost w (mk1 11 0 0 pg f)) := by
  have HB := Lib.hid (mk1_any 11 0 0 pg (by decide) (by decide) hl hr)
  generalize mk1 11 0 0 pg f = L at *
  clear hr hl
  generalize f.length = fn at *
  go_enter Tryz.func165, Tryz.ntmps165
  go_wp2_with (go_at_call 45; (with_reducible refine HB.out.mono ?_); rintro e1 w2 ⟨A3, c3, rfl, R3, K3, F3⟩)
  go_ret
  exact ⟨A3, c3, rfl, R3, K3, F3⟩
theorem c_Dist (pg : Int) (hl : f.length ≤ 9223372036854775807) (hr : Rd w (.slice A f.length c) 6 f.length (fmC f)) : Calls Tryz.prog 166 #[.int .i64 pg, .slice A f.length c] w (FmPost w (mk1 12 0 0 pg f)) := by
  have HB := Lib.hid (mk1_any 12 0 0 pg (by decide) (by decide) hl hr)
  generalize mk1 12 0 0 pg f = L at *
  clear hr hl
  generalize f.length = fn at *
  go_enter Tryz.func166, Tryz.ntmps166
  go_wp2_with (go_at_call 45; (with_reducible refine HB.out.mono ?_); rintro e1 w2 ⟨A3, c3, rfl, R3, K3, F3⟩)
  go_ret
  exact ⟨A3, c3, rfl, R3, K3, F3⟩
theorem c_Common (pg : Int) (hl : f.length ≤ 9223372036854775807) (hr : Rd w (.slice A f.length c) 6 f.length (fmC f)) (hl' : g.length ≤ 9223372036854775807) (hr' : Rd w (.slice A' g.length c') 6 g.length (fmC g)) : Calls Tryz.prog 167 #[.int .i64 pg, .slice A f.length c, .slice A' g.length c'] w (FmPost w (mk2 13 0 0 pg f g)) := by
  have HB := Lib.hid (mk2_any 13 0 0 pg (by decide) hl hr hl' hr')
  generalize mk2 13 0 0 pg f g = L at *
  clear hr hl hr' hl'
  generalize f.length = fn at *
  generalize g.length = gn at *
  go_enter Tryz.func167, Tryz.ntmps167
  go_wp2_with (go_at_call 45; (with_reducible refine HB.out.mono ?_); rintro e1 w2 ⟨A3, c3, rfl, R3, K3, F3⟩)
  go_ret
  exact ⟨A3, c3, rfl, R3, K3, F3⟩
theorem c_Belief (pi : Int) (hl : f.length ≤ 9223372036854775807) (hr : Rd w (.slice A f.length c) 6 f.length (fmC f)) (hl' : g.length ≤ 9223372036854775807) (hr' : Rd w (.slice A' g.length c') 6 g.length (fmC g)) : Calls Tryz.prog 150 #[.int .i64 pi, .slice A f.length c, .slice A' g.length c'] w (FmPost w (mk2 14 pi 0 0 f g)) := by
  have HB := Lib.hid (mk2_any 14 pi 0 0 (by decide) hl hr hl' hr')
  generalize mk2 14 pi 0 0 f g = L at *
  clear hr hl hr' hl'
  generalize f.length = fn at *
  generalize g.length = gn at *
  go_enter Tryz.func150, Tryz.ntmps150
  go_wp2_with (go_at_call 45; (with_reducible refine HB.out.mono ?_); rintro e1 w2 ⟨A3, c3, rfl, R3, K3, F3⟩)
  go_ret
  exact ⟨A3, c3, rfl, R3, K3, F3⟩
theorem c_Safe (pi : Int) (hl : f.length ≤ 9223372036854775807) (hr : Rd w (.slice A f.length c) 6 f.length (fmC f)) : Calls Tryz.prog 149 #[.int .i64 pi, .slice A f.length c] w (FmPost w (mk1 15 pi 0 0 f)) := by
  have HB := Lib.hid (mk1_any 15 pi 0 0 (by decide) (by decide) hl hr)
  generalize mk1 15 pi 0 0 f = L at *
  clear hr hl
  generalize f.length = fn at *
  go_enter Tryz.func149, Tryz.ntmps149
  go_wp2_with (go_at_call 45; (with_reducible refine HB.out.mono ?_); rintro e1 w2 ⟨A3, c3, rfl, R3, K3, F3⟩)
  go_ret
  exact ⟨A3, c3, rfl, R3, K3, F3⟩
theorem c_Announce (hl : f.length ≤ 9223372036854775807) (hr : Rd w (.slice A f.length c) 6 f.length (fmC f)) (hl' : g.length ≤ 9223372036854775807) (hr' : Rd w (.slice A' g.length c') 6 g.length (fmC g)) : Calls Tryz.prog 151 #[.slice A f.length c, .slice A' g.length c'] w (FmPost w (mk2 16 0 0 0 f g)) := by
  have HB := Lib.hid (mk2_any 16 0 0 0 (by decide) hl hr hl' hr')
  generalize mk2 16 0 0 0 f g = L at *
  clear hr hl hr' hl'
  generalize f.length = fn at *
  generalize g.length = gn at *
  go_enter Tryz.func151, Tryz.ntmps151
  go_wp2_with (go_at_call 45; (with_reducible refine HB.out.mono ?_); rintro e1 w2 ⟨A3, c3, rfl, R3, K3, F3⟩)
  go_ret
  exact ⟨A3, c3, rfl, R3, K3, F3⟩
theorem c_Act (pi : Int) (pe : Int) (hl : f.length ≤ 9223372036854775807) (hr : Rd w (.slice A f.length c) 6 f.length (fmC f)) : Calls Tryz.prog 153 #[.int .i64 pi, .int .i64 pe, .slice A f.length c] w (FmPost w (mk1 17 pi pe 0 f)) := by
  have HB := Lib.hid (mk1_any 17 pi pe 0 (by decide) (by decide) hl hr)
  generalize mk1 17 pi pe 0 f = L at *
  clear hr hl
  generalize f.length = fn at *
  go_enter Tryz.func153, Tryz.ntmps153
  go_wp2_with (go_at_call 45; (with_reducible refine HB.out.mono ?_); rintro e1 w2 ⟨A3, c3, rfl, R3, K3, F3⟩)
  go_ret
  exact ⟨A3, c3, rfl, R3, K3, F3⟩
theorem c_Next (hl : f.length ≤ 9223372036854775807) (hr : Rd w (.slice A f.length c) 6 f.length (fmC f)) : Calls Tryz.prog 128 #[.slice A f.length c] w (FmPost w (mk1 18 0 0 0 f)) := by
  have HB := Lib.hid (mk1_any 18 0 0 0 (by decide) (by decide) hl hr)
  generalize mk1 18 0 0 0 f = L at *
  clear hr hl
  generalize f.length = fn at *
  go_enter Tryz.func128, Tryz.ntmps128
  go_wp2_with (go_at_call 45; (with_reducible refine HB.out.mono ?_); rintro e1 w2 ⟨A3, c3, rfl, R3, K3, F3⟩)
  go_ret
  exact ⟨A3, c3, rfl, R3, K3, F3⟩
theorem c_Until (hl : f.length ≤ 9223372036854775807) (hr : Rd w (.slice A f.length c) 6 f.length (fmC f)) (hl' : g.length ≤ 9223372036854775807) (hr' : Rd w (.slice A' g.length c') 6 g.length (fmC g)) : Calls Tryz.prog 118 #[.slice A f.length c, .slice A' g.length c'] w (FmPost w (mk2 19 0 0 0 f g)) := by
  have HB := Lib.hid (mk2_any 19 0 0 0 (by decide) hl hr hl' hr')
  generalize mk2 19 0 0 0 f g = L at *
  clear hr hl hr' hl'
  generalize f.length = fn at *
  generalize g.length = gn at *
  go_enter Tryz.func118, Tryz.ntmps118
  go_wp2_with (go_at_call 45; (with_reducible refine HB.out.mono ?_); rintro e1 w2 ⟨A3, c3, rfl, R3, K3, F3⟩)
  go_ret
  exact ⟨A3, c3, rfl, R3, K3, F3⟩
theorem c_Prev (hl : f.length ≤ 9223372036854775807) (hr : Rd w (.slice A f.length c) 6 f.length (fmC f)) : Calls Tryz.prog 129 #[.slice A f.length c] w (FmPost w (mk1 20 0 0 0 f)) := by
  have HB := Lib.hid (mk1_any 20 0 0 0 (by decide) (by decide) hl hr)
  generalize mk1 20 0 0 0 f = L at *
  clear hr hl
  generalize f.length = fn at *
  go_enter Tryz.func129, Tryz.ntmps129
  go_wp2_with (go_at_call 45; (with_reducible refine HB.out.mono ?_); rintro e1 w2 ⟨A3, c3, rfl, R3, K3, F3⟩)
  go_ret
  exact ⟨A3, c3, rfl, R3, K3, F3⟩
theorem c_Since (hl : f.length ≤ 9223372036854775807) (hr : Rd w (.slice A f.length c) 6 f.length (fmC f)) (hl' : g.length ≤ 9223372036854775807) (hr' : Rd w (.slice A' g.length c') 6 g.length (fmC g)) : Calls Tryz.prog 119 #[.slice A f.length c, .slice A' g.length c'] w (FmPost w (mk2 21 0 0 0 f g)) := by
  have HB := Lib.hid (mk2_any 21 0 0 0 (by decide) hl hr hl' hr')
  generalize mk2 21 0 0 0 f g = L at *
  clear hr hl hr' hl'
  generalize f.length = fn at *
  generalize g.length = gn at *
  go_enter Tryz.func119, Tryz.ntmps119
  go_wp2_with (go_at_call 45; (with_reducible refine HB.out.mono ?_); rintro e1 w2 ⟨A3, c3, rfl, R3, K3, F3⟩)
  go_ret
  exact ⟨A3, c3, rfl, R3, K3, F3⟩
end
end Go.Proofs.YtbidfbojealmlaaGreatDoor
