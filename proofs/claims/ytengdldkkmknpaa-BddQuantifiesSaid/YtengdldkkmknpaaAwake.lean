/- What the law's awake does: the chapter's examples. No condition. -/
import Derived.Test.YtengdldkkmknpaaBuild
import Derived.Test.YtengdldkkmknpaaLaw
set_option linter.unusedVariables false
set_option linter.unusedSimpArgs false
namespace Go.Proofs.Ytengdldkkmknpaa
open Go.RowKit
open Dd (Rn rat ofN toN checkErr den lo var Within Valid cn supp anyP)

def awM : List Nd := [(2, 0, 1), (0, 0, 2)]
theorem awM_good : Dd.Good awM := by
  have h := (good_var 2 (by omega)).snoc (v := 0) (l := 0) (h := 2) (by omega) (by simp) (by simp) (by omega) (by simp [var]) (by simp [var]) (by simp)
  simpa [awM] using h
theorem awM_valid : Valid 3 awM 3 := by
  refine ⟨by omega, by simp [awM], awM_good, fun i h1 h2 => ?_, by simp [awM], rfl⟩
  simp [awM] at h2
  have : i = 2 ∨ i = 3 := by omega
  rcases this with rfl | rfl <;> simp [var, awM]
theorem awM_den (ρ : Nat → Bool) : den awM 3 ρ = (ρ 0 && ρ 2) := by
  rw [Dd.den_node awM_good (by omega) (by simp [awM])]
  have e : den awM (Dd.hi awM 3) ρ = ρ 2 := by
    have h : Dd.hi awM 3 = 2 := rfl
    rw [h, Dd.den_node awM_good (by omega) (by simp [awM])]
    simp [var, lo, Dd.hi, awM]
  rw [e]
  have h2 : den awM (lo awM 3) ρ = false := rfl
  have h3 : var awM 3 = 0 := rfl
  rw [h2, h3]
  cases ρ 0 <;> simp

theorem aw_is {w : World} {A : Option Addr} {n c r : Nat} (h : IsD w 3 (fun ρ => ρ 0 && ρ 2) A n c r) : n = 2 ∧ r = 3 ∧ Rd w (.slice A n c) 3 2 (ndsC awM) := by
  obtain ⟨M, rfl, h2, h3, h4⟩ := h
  obtain ⟨e1, e2⟩ := Dd.valid_eq h3 awM_valid fun ρ => by rw [h4, awM_den]
  subst e1 e2
  exact ⟨rfl, rfl, h2⟩
theorem aw_zero {w : World} {A : Option Addr} {n c r : Nat} (h : IsD w 3 (fun ρ => Bool.xor (ρ 0 && ρ 2) (ρ 0 && ρ 2)) A n c r) : n = 0 ∧ r = 0 := by
  obtain ⟨M, rfl, h2, h3, h4⟩ := h
  obtain ⟨e1, e2⟩ := Dd.valid_eq h3 (valid_const 3 (by omega) false) fun ρ => by rw [h4]; simp [Dd.den_zero]
  subst e1 e2
  exact ⟨rfl, rfl⟩
theorem aw_ex (ρ : Nat → Bool) : Dd.qf true (1 : Nat).testBit (fun ρ => ρ 0 && ρ 2) ρ = ρ 2 := by
  have e : (fun ρ : Nat → Bool => ρ 0 && ρ 2) = fun σ => if σ 0 then (fun ρ : Nat → Bool => ρ 2) σ else (fun _ => false) σ := by funext σ; cases σ 0 <;> simp
  have h2 : (fun ρ : Nat → Bool => ρ 2) = fun σ => if σ 2 then (fun _ => true) σ else (fun _ => false) σ := by funext σ; simp
  rw [e, Dd.qf_in true _ 0 (by rfl) _ _ (fun _ _ => rfl) (fun ρ b => by simp [Dd.upd]), Dd.qf_const, h2, Dd.qf_out true _ 2 (by rfl), Dd.qf_const, Dd.qf_const]
  simp

def D3 (w : World) (f : BF) (e : Ending) (w' : World) : Prop :=
  ∃ A n c, ∃ r : Nat, e = .returned (.tuple #[.agg #[.int .i64 3, .slice A n c, .int .i64 r], .int .i64 0]) ∧ IsD w' 3 f A n c r ∧ Keep NoF w w'
theorem DPost.d3 {w : World} {f : BF} {e : Ending} {w' : World} (h : DPost w 3 f e w') : D3 w f e w' := by
  obtain ⟨A, n, c, r, he, hd, hk, _⟩ := h
  exact ⟨A, n, c, r, he, hd, hk⟩
theorem a_var0 (W : World) : Calls Try.prog 36 #[.int .i64 3, .int .i64 0] W (D3 W fun ρ => ρ 0) := (d_var 3 0 (by omega) (by omega) W).mono fun _ _ h => h.d3
theorem a_var2 (W : World) : Calls Try.prog 36 #[.int .i64 3, .int .i64 2] W (D3 W fun ρ => ρ 2) := (d_var 3 2 (by omega) (by omega) W).mono fun _ _ h => h.d3
section
variable {W : World} {f g : BF} {A B : Option Addr} {n c r n' c' r' : Nat}
theorem a_and (ha : IsD W 3 f A n c r) (hb : IsD W 3 g B n' c' r') : Calls Try.prog 23 #[.agg #[.int .i64 3, .slice A n c, .int .i64 r], .agg #[.int .i64 3, .slice B n' c', .int .i64 r']] W (D3 W fun ρ => f ρ && g ρ) := (d_and (by omega) ha hb).mono fun _ _ h => h.d3
theorem a_xor (ha : IsD W 3 f A n c r) (hb : IsD W 3 g B n' c' r') : Calls Try.prog 28 #[.agg #[.int .i64 3, .slice A n c, .int .i64 r], .agg #[.int .i64 3, .slice B n' c', .int .i64 r']] W (D3 W fun ρ => Bool.xor (f ρ) (g ρ)) := (d_xor (by omega) ha hb).mono fun _ _ h => h.d3
theorem a_same (ha : IsD W 3 f A n c r) (hb : IsD W 3 f B n' c' r') : Calls Try.prog 25 #[.agg #[.int .i64 3, .slice A n c, .int .i64 r], .agg #[.int .i64 3, .slice B n' c', .int .i64 r']] W fun e w' => e = .returned (.bool true) ∧ Keep NoF W w' := d_same ha hb true (by simp)
theorem a_ex (ha : IsD W 3 (fun ρ => ρ 0 && ρ 2) A n c r) : Calls Try.prog 47 #[.agg #[.int .i64 3, .slice A n c, .int .i64 r], .int .u64 1] W (D3 W fun ρ => ρ 2) :=
  (d_exists (S := 1) (by omega) (by omega) ha).mono fun e w' ⟨A, n, c, r, he, hd, hk, _⟩ => ⟨A, n, c, r, he, hd.congr aw_ex, hk⟩
theorem a_ev7 (ha : IsD W 3 (fun ρ => ρ 0 && ρ 2) A 2 c 3) : Calls Try.prog 17 #[.agg #[.int .i64 3, .slice A 2 c, .int .i64 3], .int .u64 7] W fun e w' => e = .returned (.bool true) ∧ Keep NoF W w' := d_eval (s := 7) (by omega) ha
theorem a_ev3 (ha : IsD W 3 (fun ρ => ρ 0 && ρ 2) A 2 c 3) : Calls Try.prog 17 #[.agg #[.int .i64 3, .slice A 2 c, .int .i64 3], .int .u64 3] W fun e w' => e = .returned (.bool false) ∧ Keep NoF W w' := d_eval (s := 3) (by omega) ha
end

structure AwF (W : World) (bc bd bx bz : Nat) (Ac : Option Addr) (nc cc rc : Nat) (Ad : Option Addr) (nd cd rd : Nat) (Ax : Option Addr) (nx cx rx : Nat) (Az : Option Addr) (nz cz rz : Nat) : Prop where
  c : Bk W bc 24 #[.int .i64 3, .slice Ac nc cc, .int .i64 rc]
  d : Bk W bd 24 #[.int .i64 3, .slice Ad nd cd, .int .i64 rd]
  x : Bk W bx 24 #[.int .i64 3, .slice Ax nx cx, .int .i64 rx]
  z : Bk W bz 24 #[.int .i64 3, .slice Az nz cz, .int .i64 rz]
  fc : IsD W 3 (fun ρ => ρ 2) Ac nc cc rc
  fd : IsD W 3 (fun ρ => ρ 0 && ρ 2) Ad nd cd rd
  fx : IsD W 3 (fun ρ => ρ 2) Ax nx cx rx
theorem AwF.keep {W W' : World} {bc bd bx bz : Nat} {Ac : Option Addr} {nc cc rc : Nat} {Ad : Option Addr} {nd cd rd : Nat} {Ax : Option Addr} {nx cx rx : Nat} {Az : Option Addr} {nz cz rz : Nat} (h : AwF W bc bd bx bz Ac nc cc rc Ad nd cd rd Ax nx cx rx Az nz cz rz) (hk : Keep NoF W W') :
    AwF W' bc bd bx bz Ac nc cc rc Ad nd cd rd Ax nx cx rx Az nz cz rz :=
  ⟨h.c.keep hk fun h => h, h.d.keep hk fun h => h, h.x.keep hk fun h => h, h.z.keep hk fun h => h, h.fc.keep hk, h.fd.keep hk, h.fx.keep hk⟩

theorem aw_any {W : World} {A : Option Addr} {c : Nat} (h : IsD W 3 (fun ρ => ρ 0 && ρ 2) A 2 c 3) : Calls Try.prog 13 #[.agg #[.int .i64 3, .slice A 2 c, .int .i64 3]] W fun e w' => e = .returned (.tuple #[.int .u64 5, .bool true]) ∧ Keep NoF W w' := by
  obtain ⟨d, e1, e2, e3, e4, e5, M, rfl, hv, hd⟩ := h.dg
  obtain ⟨_, h2⟩ := Dd.valid_eq hv awM_valid fun ρ => by rw [hd, awM_den]
  subst h2
  have k := Any_any _ W e2
  rw [e1] at k
  refine k.mono fun e w' ⟨he, hk⟩ => ⟨?_, hk⟩
  rw [he]
  have : anyD ⟨(3 : Nat), ofN awM, (3 : Nat), .slice A 2 c⟩ = (5, true) := by
    unfold anyD
    rw [if_pos ⟨e3, by simp⟩]
    simp only [Dd.toN_ofN, Int.toNat_natCast]
    rfl
  rw [this]; rfl
theorem aw_count {W : World} {A : Option Addr} {c : Nat} (h : IsD W 3 (fun ρ => ρ 0 && ρ 2) A 2 c 3) : Calls Try.prog 19 #[.agg #[.int .i64 3, .slice A 2 c, .int .i64 3]] W fun e w' => e = .returned (.int .i64 2) ∧ Keep NoF W w' := by
  obtain ⟨d, e1, e2, e3, e4, e5, M, rfl, hv, hd⟩ := h.dg
  obtain ⟨_, h2⟩ := Dd.valid_eq hv awM_valid fun ρ => by rw [hd, awM_den]
  subst h2
  have k := Count_any _ W e2
  rw [e1] at k
  refine k.mono fun e w' ⟨he, hk⟩ => ⟨?_, hk⟩
  rw [he]
  have : countD ⟨(3 : Nat), ofN awM, (3 : Nat), .slice A 2 c⟩ = 2 := by
    unfold countD
    rw [if_pos e3]
    simp only [Dd.toN_ofN, Int.toNat_natCast]
    rfl
  rw [this]; rfl
theorem aw_supp {W : World} {A : Option Addr} {c : Nat} (h : IsD W 3 (fun ρ => ρ 0 && ρ 2) A 2 c 3) : Calls Try.prog 21 #[.agg #[.int .i64 3, .slice A 2 c, .int .i64 3]] W fun e w' => e = .returned (.int .u64 5) ∧ Keep NoF W w' := by
  obtain ⟨d, e1, e2, e3, e4, e5, M, rfl, hv, hd⟩ := h.dg
  obtain ⟨_, h2⟩ := Dd.valid_eq hv awM_valid fun ρ => by rw [hd, awM_den]
  subst h2
  have k := Support_any _ W e2
  rw [e1] at k
  refine k.mono fun e w' ⟨he, hk⟩ => ⟨?_, hk⟩
  rw [he]
  have : suppD ⟨(3 : Nat), ofN awM, (3 : Nat), .slice A 2 c⟩ = 5 := by
    unfold suppD
    rw [if_pos e3]
    simp only [Dd.toN_ofN]
    rfl
  rw [this]; rfl
theorem aw_eq {W : World} {A : Option Addr} {c : Nat} (h : IsD W 3 (fun ρ => ρ 0 && ρ 2) A 2 c 3) (sl : Value) (hs : Rd W sl 3 2 [.int .i64 2, .int .i64 0, .int .i64 1, .int .i64 0, .int .i64 0, .int .i64 2]) : Calls Try.prog 52 #[.slice A 2 c, sl] W fun e w' => e = .returned (.bool true) ∧ Keep NoF W w' := by
  obtain ⟨_, _, hr⟩ := aw_is h
  have k := slEq_any (ofN awM) (ofN awM) (.slice A 2 c) sl W (by rw [rnsC_ofN]; exact hr) (by rw [rnsC_ofN]; exact hs) (by simp [ofN, awM]) (by simp [ofN, awM])
  refine k.mono fun e w' ⟨he, hk⟩ => ⟨?_, hk⟩
  rw [he]; simp

set_option maxRecDepth 100000 in
set_option maxHeartbeats 2000000 in
theorem awake_any (w : World) : Calls Try.prog 12 #[] w fun e w' => e = .returned (.bool true) ∧ Keep NoF w w' := by
  have HA := Lib.hid fun (W : World) => a_var0 W
  have HC := Lib.hid fun (W : World) => a_var2 W
  go_enter Try.func12, Try.ntmps12
  go_upto_region 2 with (go_at_call 36
                         (with_reducible refine (HA.out _).mono ?_)
                         rintro e w1 ⟨Aa, na, ca, ra, rfl, da, ka⟩)

  have kka : Keep NoF w1 (w1.alloc (.cells #[.int .i64 3, .slice Aa na ca, .int .i64 ra] 24)) := (Keep.refl _ _).alloc _
  have qa := Bk.new w1 24 #[.int .i64 3, .slice Aa na ca, .int .i64 ra]
  have fa := da.keep kka
  have kw := ka.trans kka fun _ _ h => h
  clear da ka kka
  generalize (w1.alloc (.cells #[.int .i64 3, .slice Aa na ca, .int .i64 ra] 24)) = W1 at *
  have la := qa.lt
  go_upto_region 3 with (go_at_call 36
                         (with_reducible refine (HC.out _).mono ?_)
                         rintro e w2 ⟨Ac, nc, cc, rc, rfl, dc, kc⟩)
  have kkc : Keep NoF w2 (w2.alloc (.cells #[.int .i64 3, .slice Ac nc cc, .int .i64 rc] 24)) := (Keep.refl _ _).alloc _
  have qc := Bk.new w2 24 #[.int .i64 3, .slice Ac nc cc, .int .i64 rc]
  have fc := dc.keep kkc
  have qa := (qa.keep kc (fun h => h)).keep kkc (fun h => h)
  have fa := (fa.keep kc).keep kkc
  have kw := (kw.trans kc fun _ _ h => h).trans kkc fun _ _ h => h
  clear dc kc kkc
  generalize (w2.alloc (.cells #[.int .i64 3, .slice Ac nc cc, .int .i64 rc] 24)) = W2 at *
  have la := qa.lt
  have lc := qc.lt
  have HD := Lib.hid (a_and (W := W2) fa fc)
  have ua0 : W2.cell? ⟨w1.heap.size, 0, none⟩ = some (.int .i64 3) := qa.cell 0
  have ua1 : W2.cell? ⟨w1.heap.size, 1, none⟩ = some (.slice Aa na ca) := qa.cell 1
  have ua2 : W2.cell? ⟨w1.heap.size, 2, none⟩ = some (.int .i64 ra) := qa.cell 2
  have uc0 : W2.cell? ⟨w2.heap.size, 0, none⟩ = some (.int .i64 3) := qc.cell 0
  have uc1 : W2.cell? ⟨w2.heap.size, 1, none⟩ = some (.slice Ac nc cc) := qc.cell 1
  have uc2 : W2.cell? ⟨w2.heap.size, 2, none⟩ = some (.int .i64 rc) := qc.cell 2
  go_upto_region 4 with (go_at_call 23
                         (with_reducible refine HD.out.mono ?_)
                         rintro e w3 ⟨Ad, nd, cd, rd, rfl, dd, kd⟩)
  clear ua0 ua1 ua2 uc0 uc1 uc2
  have kkd : Keep NoF w3 (w3.alloc (.cells #[.int .i64 3, .slice Ad nd cd, .int .i64 rd] 24)) := (Keep.refl _ _).alloc _
  have qd := Bk.new w3 24 #[.int .i64 3, .slice Ad nd cd, .int .i64 rd]
  have fd := dd.keep kkd
  have qa := (qa.keep kd (fun h => h)).keep kkd (fun h => h)
  have fa := (fa.keep kd).keep kkd
  have qc := (qc.keep kd (fun h => h)).keep kkd (fun h => h)
  have fc := (fc.keep kd).keep kkd
  have kw := (kw.trans kd fun _ _ h => h).trans kkd fun _ _ h => h
  clear dd kd kkd
  generalize (w3.alloc (.cells #[.int .i64 3, .slice Ad nd cd, .int .i64 rd] 24)) = W3 at *
  have la := qa.lt
  have lc := qc.lt
  have ld := qd.lt
  have HX := Lib.hid (a_ex (W := W3) fd)
  have ud0 : W3.cell? ⟨w3.heap.size, 0, none⟩ = some (.int .i64 3) := qd.cell 0
  have ud1 : W3.cell? ⟨w3.heap.size, 1, none⟩ = some (.slice Ad nd cd) := qd.cell 1
  have ud2 : W3.cell? ⟨w3.heap.size, 2, none⟩ = some (.int .i64 rd) := qd.cell 2
  go_upto_region 5 with (go_at_call 47
                         (with_reducible refine HX.out.mono ?_)
                         rintro e w4 ⟨Ax, nx, cx, rx, rfl, dx, kx⟩)
  clear ud0 ud1 ud2
  have kkx : Keep NoF w4 (w4.alloc (.cells #[.int .i64 3, .slice Ax nx cx, .int .i64 rx] 24)) := (Keep.refl _ _).alloc _
  have qx := Bk.new w4 24 #[.int .i64 3, .slice Ax nx cx, .int .i64 rx]
  have fx := dx.keep kkx
  have qc := (qc.keep kx (fun h => h)).keep kkx (fun h => h)
  have fc := (fc.keep kx).keep kkx
  have qd := (qd.keep kx (fun h => h)).keep kkx (fun h => h)
  have fd := (fd.keep kx).keep kkx
  have kw := (kw.trans kx fun _ _ h => h).trans kkx fun _ _ h => h
  clear dx kx kkx
  generalize (w4.alloc (.cells #[.int .i64 3, .slice Ax nx cx, .int .i64 rx] 24)) = W4 at *
  have lc := qc.lt
  have ld := qd.lt
  have lx := qx.lt
  have HZ := Lib.hid (a_xor (W := W4) fd fd)
  have ud0 : W4.cell? ⟨w3.heap.size, 0, none⟩ = some (.int .i64 3) := qd.cell 0
  have ud1 : W4.cell? ⟨w3.heap.size, 1, none⟩ = some (.slice Ad nd cd) := qd.cell 1
  have ud2 : W4.cell? ⟨w3.heap.size, 2, none⟩ = some (.int .i64 rd) := qd.cell 2
  go_upto_region 6 with (go_at_call 28
                         (with_reducible refine HZ.out.mono ?_)
                         rintro e w5 ⟨Az, nz, cz, rz, rfl, dz, kz⟩)
  clear ud0 ud1 ud2
  have kkz : Keep NoF w5 (w5.alloc (.cells #[.int .i64 3, .slice Az nz cz, .int .i64 rz] 24)) := (Keep.refl _ _).alloc _
  have qz := Bk.new w5 24 #[.int .i64 3, .slice Az nz cz, .int .i64 rz]
  have fz := dz.keep kkz
  have qc := (qc.keep kz (fun h => h)).keep kkz (fun h => h)
  have fc := (fc.keep kz).keep kkz
  have qd := (qd.keep kz (fun h => h)).keep kkz (fun h => h)
  have fd := (fd.keep kz).keep kkz
  have qx := (qx.keep kz (fun h => h)).keep kkz (fun h => h)
  have fx := (fx.keep kz).keep kkz
  have kw := (kw.trans kz fun _ _ h => h).trans kkz fun _ _ h => h
  clear dz kz kkz
  generalize (w5.alloc (.cells #[.int .i64 3, .slice Az nz cz, .int .i64 rz] 24)) = W5 at *
  have lc := qc.lt
  have ld := qd.lt
  have lx := qx.lt
  have lz := qz.lt
  obtain ⟨rfl, rfl⟩ := aw_zero fz
  obtain ⟨rfl, rfl, _⟩ := aw_is fd
  have F0 : AwF W5 w2.heap.size w3.heap.size w4.heap.size w5.heap.size Ac nc cc rc Ad 2 cd 3 Ax nx cx rx Az 0 cz 0 := ⟨qc, qd, qx, qz, fc, fd, fx⟩
  have kw0 := kw
  clear qc qd qx qz fc fd fx fz kw qa fa HA HC HD HX HZ
  have uc0 : W5.cell? ⟨w2.heap.size, 0, none⟩ = some (.int .i64 3) := F0.c.cell 0
  have uc1 : W5.cell? ⟨w2.heap.size, 1, none⟩ = some (.slice Ac nc cc) := F0.c.cell 1
  have uc2 : W5.cell? ⟨w2.heap.size, 2, none⟩ = some (.int .i64 rc) := F0.c.cell 2
  have ud0 : W5.cell? ⟨w3.heap.size, 0, none⟩ = some (.int .i64 3) := F0.d.cell 0
  have ud1 : W5.cell? ⟨w3.heap.size, 1, none⟩ = some (.slice Ad 2 cd) := F0.d.cell 1
  have ud2 : W5.cell? ⟨w3.heap.size, 2, none⟩ = some (.int .i64 3) := F0.d.cell 2
  have ux0 : W5.cell? ⟨w4.heap.size, 0, none⟩ = some (.int .i64 3) := F0.x.cell 0
  have ux1 : W5.cell? ⟨w4.heap.size, 1, none⟩ = some (.slice Ax nx cx) := F0.x.cell 1
  have ux2 : W5.cell? ⟨w4.heap.size, 2, none⟩ = some (.int .i64 rx) := F0.x.cell 2
  have uz0 : W5.cell? ⟨w5.heap.size, 0, none⟩ = some (.int .i64 3) := F0.z.cell 0
  have uz1 : W5.cell? ⟨w5.heap.size, 1, none⟩ = some (.slice Az 0 cz) := F0.z.cell 1
  have uz2 : W5.cell? ⟨w5.heap.size, 2, none⟩ = some (.int .i64 0) := F0.z.cell 2
  go_wp2_with (first
    | (go_at_call 17
       (with_reducible refine (a_ev3 F6.fd).mono ?_)
       rintro e w12 ⟨rfl, k12⟩
       have F7 := F6.keep k12
       have kw7 := kw6.trans k12 fun _ _ h => h
       have uc0 : w12.cell? ⟨w2.heap.size, 0, none⟩ = some (.int .i64 3) := F7.c.cell 0
       have uc1 : w12.cell? ⟨w2.heap.size, 1, none⟩ = some (.slice Ac nc cc) := F7.c.cell 1
       have uc2 : w12.cell? ⟨w2.heap.size, 2, none⟩ = some (.int .i64 rc) := F7.c.cell 2
       have ud0 : w12.cell? ⟨w3.heap.size, 0, none⟩ = some (.int .i64 3) := F7.d.cell 0
       have ud1 : w12.cell? ⟨w3.heap.size, 1, none⟩ = some (.slice Ad 2 cd) := F7.d.cell 1
       have ud2 : w12.cell? ⟨w3.heap.size, 2, none⟩ = some (.int .i64 3) := F7.d.cell 2
       have ux0 : w12.cell? ⟨w4.heap.size, 0, none⟩ = some (.int .i64 3) := F7.x.cell 0
       have ux1 : w12.cell? ⟨w4.heap.size, 1, none⟩ = some (.slice Ax nx cx) := F7.x.cell 1
       have ux2 : w12.cell? ⟨w4.heap.size, 2, none⟩ = some (.int .i64 rx) := F7.x.cell 2
       have uz0 : w12.cell? ⟨w5.heap.size, 0, none⟩ = some (.int .i64 3) := F7.z.cell 0
       have uz1 : w12.cell? ⟨w5.heap.size, 1, none⟩ = some (.slice Az 0 cz) := F7.z.cell 1
       have uz2 : w12.cell? ⟨w5.heap.size, 2, none⟩ = some (.int .i64 0) := F7.z.cell 2)
    | (go_at_call 17
       (with_reducible refine (a_ev7 F5.fd).mono ?_)
       rintro e w11 ⟨rfl, k11⟩
       have F6 := F5.keep k11
       have kw6 := kw5.trans k11 fun _ _ h => h
       have uc0 : w11.cell? ⟨w2.heap.size, 0, none⟩ = some (.int .i64 3) := F6.c.cell 0
       have uc1 : w11.cell? ⟨w2.heap.size, 1, none⟩ = some (.slice Ac nc cc) := F6.c.cell 1
       have uc2 : w11.cell? ⟨w2.heap.size, 2, none⟩ = some (.int .i64 rc) := F6.c.cell 2
       have ud0 : w11.cell? ⟨w3.heap.size, 0, none⟩ = some (.int .i64 3) := F6.d.cell 0
       have ud1 : w11.cell? ⟨w3.heap.size, 1, none⟩ = some (.slice Ad 2 cd) := F6.d.cell 1
       have ud2 : w11.cell? ⟨w3.heap.size, 2, none⟩ = some (.int .i64 3) := F6.d.cell 2
       have ux0 : w11.cell? ⟨w4.heap.size, 0, none⟩ = some (.int .i64 3) := F6.x.cell 0
       have ux1 : w11.cell? ⟨w4.heap.size, 1, none⟩ = some (.slice Ax nx cx) := F6.x.cell 1
       have ux2 : w11.cell? ⟨w4.heap.size, 2, none⟩ = some (.int .i64 rx) := F6.x.cell 2
       have uz0 : w11.cell? ⟨w5.heap.size, 0, none⟩ = some (.int .i64 3) := F6.z.cell 0
       have uz1 : w11.cell? ⟨w5.heap.size, 1, none⟩ = some (.slice Az 0 cz) := F6.z.cell 1
       have uz2 : w11.cell? ⟨w5.heap.size, 2, none⟩ = some (.int .i64 0) := F6.z.cell 2)
    | (go_at_call 25
       (with_reducible refine (a_same F4.fx F4.fc).mono ?_)
       rintro e w10 ⟨rfl, k10⟩
       have F5 := F4.keep k10
       have kw5 := kw4.trans k10 fun _ _ h => h
       have uc0 : w10.cell? ⟨w2.heap.size, 0, none⟩ = some (.int .i64 3) := F5.c.cell 0
       have uc1 : w10.cell? ⟨w2.heap.size, 1, none⟩ = some (.slice Ac nc cc) := F5.c.cell 1
       have uc2 : w10.cell? ⟨w2.heap.size, 2, none⟩ = some (.int .i64 rc) := F5.c.cell 2
       have ud0 : w10.cell? ⟨w3.heap.size, 0, none⟩ = some (.int .i64 3) := F5.d.cell 0
       have ud1 : w10.cell? ⟨w3.heap.size, 1, none⟩ = some (.slice Ad 2 cd) := F5.d.cell 1
       have ud2 : w10.cell? ⟨w3.heap.size, 2, none⟩ = some (.int .i64 3) := F5.d.cell 2
       have ux0 : w10.cell? ⟨w4.heap.size, 0, none⟩ = some (.int .i64 3) := F5.x.cell 0
       have ux1 : w10.cell? ⟨w4.heap.size, 1, none⟩ = some (.slice Ax nx cx) := F5.x.cell 1
       have ux2 : w10.cell? ⟨w4.heap.size, 2, none⟩ = some (.int .i64 rx) := F5.x.cell 2
       have uz0 : w10.cell? ⟨w5.heap.size, 0, none⟩ = some (.int .i64 3) := F5.z.cell 0
       have uz1 : w10.cell? ⟨w5.heap.size, 1, none⟩ = some (.slice Az 0 cz) := F5.z.cell 1
       have uz2 : w10.cell? ⟨w5.heap.size, 2, none⟩ = some (.int .i64 0) := F5.z.cell 2)
    | (go_at_call 21
       (with_reducible refine (aw_supp F3.fd).mono ?_)
       rintro e w9 ⟨rfl, k9⟩
       have F4 := F3.keep k9
       have kw4 := kw3.trans k9 fun _ _ h => h
       have uc0 : w9.cell? ⟨w2.heap.size, 0, none⟩ = some (.int .i64 3) := F4.c.cell 0
       have uc1 : w9.cell? ⟨w2.heap.size, 1, none⟩ = some (.slice Ac nc cc) := F4.c.cell 1
       have uc2 : w9.cell? ⟨w2.heap.size, 2, none⟩ = some (.int .i64 rc) := F4.c.cell 2
       have ud0 : w9.cell? ⟨w3.heap.size, 0, none⟩ = some (.int .i64 3) := F4.d.cell 0
       have ud1 : w9.cell? ⟨w3.heap.size, 1, none⟩ = some (.slice Ad 2 cd) := F4.d.cell 1
       have ud2 : w9.cell? ⟨w3.heap.size, 2, none⟩ = some (.int .i64 3) := F4.d.cell 2
       have ux0 : w9.cell? ⟨w4.heap.size, 0, none⟩ = some (.int .i64 3) := F4.x.cell 0
       have ux1 : w9.cell? ⟨w4.heap.size, 1, none⟩ = some (.slice Ax nx cx) := F4.x.cell 1
       have ux2 : w9.cell? ⟨w4.heap.size, 2, none⟩ = some (.int .i64 rx) := F4.x.cell 2
       have uz0 : w9.cell? ⟨w5.heap.size, 0, none⟩ = some (.int .i64 3) := F4.z.cell 0
       have uz1 : w9.cell? ⟨w5.heap.size, 1, none⟩ = some (.slice Az 0 cz) := F4.z.cell 1
       have uz2 : w9.cell? ⟨w5.heap.size, 2, none⟩ = some (.int .i64 0) := F4.z.cell 2)
    | (go_at_call 19
       (with_reducible refine (aw_count F2.fd).mono ?_)
       rintro e w8 ⟨rfl, k8⟩
       have F3 := F2.keep k8
       have kw3 := kw2.trans k8 fun _ _ h => h
       have uc0 : w8.cell? ⟨w2.heap.size, 0, none⟩ = some (.int .i64 3) := F3.c.cell 0
       have uc1 : w8.cell? ⟨w2.heap.size, 1, none⟩ = some (.slice Ac nc cc) := F3.c.cell 1
       have uc2 : w8.cell? ⟨w2.heap.size, 2, none⟩ = some (.int .i64 rc) := F3.c.cell 2
       have ud0 : w8.cell? ⟨w3.heap.size, 0, none⟩ = some (.int .i64 3) := F3.d.cell 0
       have ud1 : w8.cell? ⟨w3.heap.size, 1, none⟩ = some (.slice Ad 2 cd) := F3.d.cell 1
       have ud2 : w8.cell? ⟨w3.heap.size, 2, none⟩ = some (.int .i64 3) := F3.d.cell 2
       have ux0 : w8.cell? ⟨w4.heap.size, 0, none⟩ = some (.int .i64 3) := F3.x.cell 0
       have ux1 : w8.cell? ⟨w4.heap.size, 1, none⟩ = some (.slice Ax nx cx) := F3.x.cell 1
       have ux2 : w8.cell? ⟨w4.heap.size, 2, none⟩ = some (.int .i64 rx) := F3.x.cell 2
       have uz0 : w8.cell? ⟨w5.heap.size, 0, none⟩ = some (.int .i64 3) := F3.z.cell 0
       have uz1 : w8.cell? ⟨w5.heap.size, 1, none⟩ = some (.slice Az 0 cz) := F3.z.cell 1
       have uz2 : w8.cell? ⟨w5.heap.size, 2, none⟩ = some (.int .i64 0) := F3.z.cell 2)
    | (go_at_call 52
       (with_reducible refine (aw_eq (F1.fd.keep ((Keep.refl NoF w6).alloc _)) _ (rd_new (w := w6) 63 #[.int .i64 2, .int .i64 0, .int .i64 1, .int .i64 0, .int .i64 0, .int .i64 2] 3 2 2 rfl rfl (by omega))).mono ?_)
       rintro e w7 ⟨rfl, k7⟩
       have F2 := F1.keep (((Keep.refl NoF w6).alloc _).trans k7 fun _ _ h => h)
       have kw2 := kw1.trans (((Keep.refl NoF w6).alloc _).trans k7 fun _ _ h => h) fun _ _ h => h
       have uc0 : w7.cell? ⟨w2.heap.size, 0, none⟩ = some (.int .i64 3) := F2.c.cell 0
       have uc1 : w7.cell? ⟨w2.heap.size, 1, none⟩ = some (.slice Ac nc cc) := F2.c.cell 1
       have uc2 : w7.cell? ⟨w2.heap.size, 2, none⟩ = some (.int .i64 rc) := F2.c.cell 2
       have ud0 : w7.cell? ⟨w3.heap.size, 0, none⟩ = some (.int .i64 3) := F2.d.cell 0
       have ud1 : w7.cell? ⟨w3.heap.size, 1, none⟩ = some (.slice Ad 2 cd) := F2.d.cell 1
       have ud2 : w7.cell? ⟨w3.heap.size, 2, none⟩ = some (.int .i64 3) := F2.d.cell 2
       have ux0 : w7.cell? ⟨w4.heap.size, 0, none⟩ = some (.int .i64 3) := F2.x.cell 0
       have ux1 : w7.cell? ⟨w4.heap.size, 1, none⟩ = some (.slice Ax nx cx) := F2.x.cell 1
       have ux2 : w7.cell? ⟨w4.heap.size, 2, none⟩ = some (.int .i64 rx) := F2.x.cell 2
       have uz0 : w7.cell? ⟨w5.heap.size, 0, none⟩ = some (.int .i64 3) := F2.z.cell 0
       have uz1 : w7.cell? ⟨w5.heap.size, 1, none⟩ = some (.slice Az 0 cz) := F2.z.cell 1
       have uz2 : w7.cell? ⟨w5.heap.size, 2, none⟩ = some (.int .i64 0) := F2.z.cell 2)
    | (go_at_call 13
       (with_reducible refine (aw_any F0.fd).mono ?_)
       rintro e w6 ⟨rfl, k6⟩
       have F1 := F0.keep k6
       have kw1 := kw0.trans k6 fun _ _ h => h
       have uc0 : w6.cell? ⟨w2.heap.size, 0, none⟩ = some (.int .i64 3) := F1.c.cell 0
       have uc1 : w6.cell? ⟨w2.heap.size, 1, none⟩ = some (.slice Ac nc cc) := F1.c.cell 1
       have uc2 : w6.cell? ⟨w2.heap.size, 2, none⟩ = some (.int .i64 rc) := F1.c.cell 2
       have ud0 : w6.cell? ⟨w3.heap.size, 0, none⟩ = some (.int .i64 3) := F1.d.cell 0
       have ud1 : w6.cell? ⟨w3.heap.size, 1, none⟩ = some (.slice Ad 2 cd) := F1.d.cell 1
       have ud2 : w6.cell? ⟨w3.heap.size, 2, none⟩ = some (.int .i64 3) := F1.d.cell 2
       have ux0 : w6.cell? ⟨w4.heap.size, 0, none⟩ = some (.int .i64 3) := F1.x.cell 0
       have ux1 : w6.cell? ⟨w4.heap.size, 1, none⟩ = some (.slice Ax nx cx) := F1.x.cell 1
       have ux2 : w6.cell? ⟨w4.heap.size, 2, none⟩ = some (.int .i64 rx) := F1.x.cell 2
       have uz0 : w6.cell? ⟨w5.heap.size, 0, none⟩ = some (.int .i64 3) := F1.z.cell 0
       have uz1 : w6.cell? ⟨w5.heap.size, 1, none⟩ = some (.slice Az 0 cz) := F1.z.cell 1
       have uz2 : w6.cell? ⟨w5.heap.size, 2, none⟩ = some (.int .i64 0) := F1.z.cell 2))

  go_ret
  exact ⟨rfl, kw7⟩
end Go.Proofs.Ytengdldkkmknpaa
