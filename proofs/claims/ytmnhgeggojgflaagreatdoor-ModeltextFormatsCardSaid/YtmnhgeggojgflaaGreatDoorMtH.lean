/- Sets of worlds in a model's text: how the reader reads them. No condition. -/
import Derived.Test.YtmnhgeggojgflaaGreatDoorMtG
import Derived.Test.YtmnhgeggojgflaaGreatDoorEvF
import Derived.Test.YtmnhgeggojgflaaGreatDoorWtPcd
set_option linter.unusedVariables false
set_option linter.unusedSimpArgs false
namespace Mt
open Go.Proofs.YtmnhgeggojgflaaGreatDoor.Ws (parseS dgs chk nums flds midL)
open Ev (adN adN_bit)
theorem chk_lt : ∀ (l : List Nat) (s : Nat) (last : Int), s < 18446744073709551616 → (chk l s last).1 < 18446744073709551616
  | [], s, _, h => h
  | n :: r, s, last, h => by
    unfold Go.Proofs.YtmnhgeggojgflaaGreatDoor.Ws.chk
    split
    · decide
    · split
      · decide
      · next h1 _ => exact chk_lt r _ _ (Nat.or_lt_two_pow (n := 64) h (Nat.pow_lt_pow_right (by omega) (by omega)))
theorem parseS_lt (t : List UInt8) : (parseS t).1 < 18446744073709551616 := by
  unfold Go.Proofs.YtmnhgeggojgflaaGreatDoor.Ws.parseS
  split
  · decide
  · split
    · decide
    · split
      · decide
      · exact chk_lt _ _ _ (by decide)
def preP (xs : List Nat) (r : List Nat × Int) : List Nat × Int := if r.2 ≠ 0 then ([], r.2) else (xs ++ r.1, 0)
theorem setsP_err {n : Nat} : ∀ {l : List (List UInt8)}, (setsP n l).2 ≠ 0 → (setsP n l).1 = []
  | [], h => rfl
  | t :: l, h => by
    unfold setsP at h ⊢
    split
    · rfl
    · split
      · rfl
      · split
        · rfl
        · next h1 h2 h3 => rw [if_neg h1, if_neg h2, if_neg h3] at h; exact absurd rfl h
theorem preP_nil (n : Nat) (l : List (List UInt8)) : preP [] (setsP n l) = setsP n l := by
  unfold preP
  split
  · next h => exact Prod.ext (setsP_err h).symm rfl
  · next h => exact Prod.ext rfl (by simpa using (Decidable.not_not.1 h).symm)
theorem preP_bad {n : Nat} {t : List UInt8} {l : List (List UInt8)} {xs : List Nat} (h : (parseS t).2 ≠ 0) : preP xs (setsP n (t :: l)) = ([], (parseS t).2) := by
  unfold preP setsP
  rw [if_pos h, if_pos h]
theorem preP_big {n : Nat} {t : List UInt8} {l : List (List UInt8)} {xs : List Nat} (h : (parseS t).2 = 0) (h2 : 2 ^ n ≤ (parseS t).1) : preP xs (setsP n (t :: l)) = ([], 2) := by
  have e : setsP n (t :: l) = ([], 2) := by rw [setsP, if_neg (by omega), if_pos h2]
  rw [e]
  rfl
theorem preP_step {n : Nat} {t : List UInt8} {l : List (List UInt8)} {xs : List Nat} (h : (parseS t).2 = 0) (h2 : ¬ 2 ^ n ≤ (parseS t).1) : preP xs (setsP n (t :: l)) = preP (xs ++ [(parseS t).1]) (setsP n l) := by
  have e : setsP n (t :: l) = if (setsP n l).2 ≠ 0 then ([], (setsP n l).2) else ((parseS t).1 :: (setsP n l).1, 0) := by
    rw [setsP, if_neg (by omega), if_neg h2]
  rw [e]
  unfold preP
  by_cases h3 : (setsP n l).2 ≠ 0
  · rw [if_pos h3, if_pos h3, if_pos h3]
  · rw [if_neg h3, if_neg h3, if_neg (by simp)]
    simp
theorem preP_end (n : Nat) (xs : List Nat) : preP xs (setsP n []) = (xs, 0) := by simp [preP, setsP]
/-- What lies in no world of a model. -/
theorem out_iff {n : Nat} (hn : n ≤ 64) {x : Nat} (hx : x < 18446744073709551616) : adN x (2 ^ n - 1) = 0 ↔ x < 2 ^ n := by
  have hp : 2 ^ n - 1 < 18446744073709551616 := by have := Nat.pow_le_pow_right (n := 2) (by omega) hn; omega
  constructor
  · intro h
    refine Nat.lt_pow_two_of_testBit x fun i hi => ?_
    have h2 := congrArg (Nat.testBit · i) h
    simp only [Nat.zero_testBit] at h2
    rw [adN_bit hx hp, Nat.testBit_two_pow_sub_one] at h2
    have : decide (i < n) = false := decide_eq_false (by omega)
    rw [this] at h2
    simpa using h2
  · intro h
    refine Nat.eq_of_testBit_eq fun i => ?_
    rw [Nat.zero_testBit, adN_bit hx hp, Nat.testBit_two_pow_sub_one]
    by_cases hi : i < n
    · simp [hi]
    · rw [Nat.testBit_lt_two_pow (Nat.lt_of_lt_of_le h (Nat.pow_le_pow_right (by omega) (by omega)))]
      rfl
end Mt
namespace Go.Proofs.YtmnhgeggojgflaaGreatDoor
open Go.RowKit
open Mt
open Ev (adN)
attribute [local go_sem] Oper.semAt_some
theorem infoMtU6 : (Tryz.prog.info? 45).map (fun i => (i.zero, i.size, i.bytes)) = some (some (.int .u64 0), 1, 8) := by kernel_rfl
theorem eMtU6 : ElemT Tryz.prog 25 45 (.int .u64 0) 1 8 := ⟨Tryz.underlying25, info_parts infoMtU6, rfl, by omega⟩
theorem u6_snoc (l : List Nat) (x : Nat) : u6 l ++ [.int .u64 (x : Int)] = u6 (l ++ [x]) := by simp [u6]
def SetsPost (r : List Nat × Int) (w : World) (e : Ending) (w' : World) : Prop :=
  ∃ (A : Option Addr) (c : Nat), e = .returned (.tuple #[.slice A r.1.length c, .int .i64 r.2]) ∧ w'.ownsRow w.heap.size 45 1 (.slice A r.1.length c) r.1.length (u6 r.1) ∧ Keep NoF w w'
section
set_option maxRecDepth 100000
set_option maxHeartbeats 2000000
theorem mtsets_any (b n : Nat) (hn : n ≤ 64) (l : List (List UInt8)) (A : Option Addr) (c : Nat) (w : World) (hrd : Rd w (.slice A l.length c) 1 l.length (strs (l.map txt))) (hl : l.length ≤ 4294967296) (hls : ∀ x ∈ l, x.length ≤ 100000)
    (hb : w.cell? ⟨b, 3, none⟩ = some (.int .i64 n)) (hT : Ws.Tab w) :
    Calls Tryz.prog 105 #[.pointer (some ⟨b, 0, none⟩), .slice A l.length c] w (SetsPost (setsP n l) w) := by
  have HP := Lib.hid (preP_nil n l)
  obtain ⟨r, hr⟩ : ∃ r, setsP n l = r := ⟨_, rfl⟩
  rw [hr]
  rw [hr] at HP
  have HE0 : Hid (r = preP [] (setsP n l)) := Lib.hid (by rw [hr]; exact HP.out.symm)
  clear hr HP
  have HRD := Lib.hid hrd
  go_enter Tryz.func105, Tryz.ntmps105
  go_wp2
  go_loopw [6, 13] (fun ov iv wr => ∃ (i : Nat) (xs : List Nat), iv = .int .i64 i ∧ i ≤ l.length ∧ xs.length = i ∧ wr.ownsRow w.heap.size 45 1 ov xs.length (u6 xs) ∧ Hid (r = preP xs (setsP n (l.drop i))) ∧ Keep NoF w wr) (fun _ iv _ => l.length - (intOf iv).toNat)
  case atStart => exact ⟨0, [], rfl, by omega, rfl, World.ownsRow_nil _ _ _ _, Lib.hid (by rw [List.drop_zero]; exact HE0.out), Keep.refl _ _⟩
  case round =>
    obtain ⟨i, xs, rfl, hi, hxl, ho, HE, hkr⟩ := hrel
    have hz := hkr.size
    rw [hxl] at ho
    have HXL := Lib.hid hxl
    clear hxl
    obtain ⟨oA, oc, rfl⟩ := own_form ho
    by_cases hlt : i < l.length
    · have hx : l[i]? = some l[i] := List.getElem?_eq_getElem hlt
      have hx0 := hls _ (List.getElem_mem hlt)
      have hd : l.drop i = l[i] :: l.drop (i + 1) := List.drop_eq_getElem_cons hlt
      have hrk := HRD.out.kept hkr fun _ _ h => h
      have hcx := hrk.at_ (by omega)
      obtain ⟨-, hc1, bl, off, rfl, hcells⟩ := hcx
      have hc0 := hcells i (.string (txt l[i])) (by simp [strs, hx])
      clear hcells hrk
      rw [hd] at HE
      generalize l[i] = x at *
      have hb' := hkr.cellv hb (fun h => h)
      have HPA := Lib.hid fun w1 (hk : Keep NoF w w1) => Ws.Parse_any (txt x) w1 (by rw [← data_len, data_txt]; exact hx0) (hT.keep0 hk)
      rw [data_txt] at HPA
      have HB := Lib.hid (preP_bad (n := n) (t := x) (l := l.drop (i + 1)) (xs := xs))
      have HG := Lib.hid (preP_big (n := n) (t := x) (l := l.drop (i + 1)) (xs := xs))
      have HS := Lib.hid (preP_step (n := n) (t := x) (l := l.drop (i + 1)) (xs := xs))
      have hlt2 := Mt.parseS_lt x
      clear hx hd hx0
      generalize (Ws.parseS x).1 = p at *
      generalize (Ws.parseS x).2 = e at *
      have hi2 : (i : Int) < (l.length : Int) := by omega
      by_cases he : e = 0
      · subst he
        have HA := Lib.hid fun W => Ws.All_any (w := W) (n : Int)
        have hal : Ws.allS (n : Int) = 2 ^ n - 1 := by unfold Ws.allS; rw [if_neg (by omega)]; rfl
        rw [hal] at HA
        have hpn : 2 ^ n - 1 < 18446744073709551616 := by have := Nat.pow_le_pow_right (n := 2) (by omega) hn; omega
        have hand := and_not p (2 ^ n - 1) hlt2 hpn
        by_cases hbig : 2 ^ n ≤ p
        · have HR : Hid (r = ([], 2)) := Lib.hid (by rw [HE.out]; exact HG.out rfl hbig)
          have hne : (((adN p (2 ^ n - 1) : Nat) : Int) != 0) = true := by
            have : adN p (2 ^ n - 1) ≠ 0 := fun e => by have := (out_iff hn hlt2).1 e; omega
            simp
            omega
          clear HB HG HS HE hal
          generalize adN p (2 ^ n - 1) = q at *
          generalize 2 ^ n - 1 = al at *
          go_wp2_with (first
            | (go_at_call 131; (with_reducible refine (HPA.out _ hkr).mono ?_); rintro e w2 ⟨rfl, hk2⟩; have hkr2 := hkr.trans hk2 fun _ _ h => h; have hb2 := hkr2.cellv hb (fun h => h))
            | (go_at_call 132; (with_reducible refine (HA.out _).mono ?_); rintro e w' ⟨rfl, hw'⟩; obtain rfl := hw'.symm))
          refine bodyPost_ret (v := .tuple #[.slice none 0 0, .int .i64 2]) (by simp [results, Tryz.results105, go_sem]) rfl ?_
          rw [HR.out]
          exact ⟨none, 0, rfl, World.ownsRow_nil _ _ _ _, hkr2⟩
        · have HR := Lib.hid (HE.out.trans (HS.out rfl hbig))
          have hne : (((adN p (2 ^ n - 1) : Nat) : Int) != 0) = false := by
            have : adN p (2 ^ n - 1) = 0 := (out_iff hn hlt2).2 (by omega)
            rw [this]
            rfl
          clear HB HG HS HE hal
          generalize adN p (2 ^ n - 1) = q at *
          generalize 2 ^ n - 1 = al at *
          go_wp2_with (first
            | (go_at_call 131
               (with_reducible refine (HPA.out _ hkr).mono ?_)
               rintro e w2 ⟨rfl, hk2⟩
               have hkr2 := hkr.trans hk2 fun _ _ h => h
               have hb2 := hkr2.cellv hb (fun h => h)
               have hz2 := hkr2.size
               have ho2 := own_keep ho fun k hk => hk2.block k (ho.lt k hk).2 fun h => h)
            | (go_at_call 132; (with_reducible refine (HA.out _).mono ?_); rintro e w' ⟨rfl, hw'⟩; obtain rfl := hw'.symm)
            | (at_builtin
               refine wpList_app (by rfl) eMtU6 (.tmp 34) (.tmp 36) (by rfl) (by rfl) (ho2.alloc _) ⟨w2.heap.size, 0, none⟩ 1 1 [.int .u64 (p : Int)] (by rfl) (by rfl)
                 (World.news_of_block (cs := #[.int .u64 (p : Int)]) (t := 45) (fr := (0, 0)) (heap_alloc_new w2 _)) (by simp [Value.oneCell']) (by omega) (by omega) (by omega) (by simp; omega) ?_
               intro g4 cap4 w4 hown4 hA4))
          go_roundw
          case rel =>
            refine ⟨i + 1, xs ++ [p], by go_num, by omega, by rw [List.length_append, HXL.out]; rfl, ?_, HR, (hkr2.alloc _).grown hA4.grown fun x hx => .inr (ho.lt x hx).1⟩
            rw [← u6_snoc, List.length_append, HXL.out]
            exact hown4
          case measure => simp only [intOf]; omega
      · have HR : Hid (r = ([], e)) := Lib.hid (by rw [HE.out]; exact HB.out he)
        have hne : (e != 0) = true := by simpa using he
        clear HB HG HS HE he
        go_wp2_with (first
          | (go_at_call 131; (with_reducible refine (HPA.out _ hkr).mono ?_); rintro e w2 ⟨rfl, hk2⟩; have hkr2 := hkr.trans hk2 fun _ _ h => h; have hb2 := hkr2.cellv hb (fun h => h)))
        refine bodyPost_ret (v := .tuple #[.slice none 0 0, .int .i64 e]) (by simp [results, Tryz.results105, go_sem]) rfl ?_
        rw [HR.out]
        exact ⟨none, 0, rfl, World.ownsRow_nil _ _ _ _, hkr2⟩
    · obtain rfl : i = l.length := by omega
      have HR : Hid (r = (xs, 0)) := Lib.hid (by rw [HE.out, List.drop_length, preP_end])
      clear HE
      go_wp2
      refine bodyPost_ret (v := .tuple #[.slice oA l.length oc, .int .i64 0]) (by simp [results, Tryz.results105, go_sem]) rfl ?_
      rw [HR.out]
      have e : xs.length = l.length := HXL.out
      refine ⟨oA, oc, ?_, ?_, hkr⟩
      · simp only [e]
      · simp only [e]
        exact ho
end
end Go.Proofs.YtmnhgeggojgflaaGreatDoor
