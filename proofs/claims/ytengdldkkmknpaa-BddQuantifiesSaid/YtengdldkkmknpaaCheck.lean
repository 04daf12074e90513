/- What the function Check does: the error of a diagram. No condition. -/
import Derived.Test.YtengdldkkmknpaaSingle
import Derived.Deep.CutBlock
set_option linter.unusedVariables false
set_option linter.unusedSimpArgs false
namespace Go.Proofs.Ytengdldkkmknpaa
open Go.RowKit
open Dd (Rn rat ofN toN nodeErr firstErr checkErr)

def boV (b : Bool) : Value := .bool b
abbrev MapSeen (w : World) (b : Nat) (g : Nd → Option Bool) : Prop := MapT Try.prog 63 ndV boV ndOk w b g
theorem zeroBool : ∀ w, (zeroValue 4).run Try.prog w = .ok (.bool false) w := by intro w; kernel_rfl

/-- What load leaves: number t of the grown list N' means what number r of M means. -/
structure LdRel (N M : List Nd) (r t : Nat) (N' : List Nd) : Prop where
  pre : N <+: N'
  good : Dd.Good N'
  lt : t < N'.length + 2
  den : ∀ ρ, Dd.den N' t ρ = Dd.den M r ρ
  len : N'.length ≤ N.length + M.length

theorem LdRel.canon {N M N' : List Nd} {r t : Nat} (h : LdRel N M r t N') (H : Dd.Good M) (hr : r < M.length + 2) : Dd.canon N' t = Dd.canon M r := Dd.canon_eq h.good H h.lt hr h.den

theorem load_rel {b : Nat} {N : List Nd} {G : Nd → Option Nat} {F : Nat → Prop} {w : World} (hs : Sto w b N G F) (hg : Dd.Good N) (M : List Nd) (hm : Dd.Good M) (V : Int) (sl : Value) (r : Nat) (hr : r < M.length + 2)
    (hM : M.length ≤ 4096) (hlen : N.length ≤ 1099511000000) (hrd : Rd w sl 3 M.length (ndsC M)) (hf : 0 < M.length → ∀ k, sl.ownBlock = some k → ¬ F k) :
    Calls Try.prog 57 #[.pointer (some ⟨b, 0, none⟩), .agg #[.int .i64 V, sl, .int .i64 r]] w fun e w' => ∃ F' N' t, e = .returned (.int .i64 (t : Nat)) ∧ Sto w' b N' G F' ∧ LdRel N M r t N' ∧ Keep F w w' ∧
      ∀ k, F' k → F k ∨ w.heap.size ≤ k := by
  refine (load_any hs hg M hm V sl r hr hM hlen hrd hf).mono fun e w' ⟨F', he, hs', hk, hF⟩ => ?_
  obtain ⟨h1, h2, h3, h4, h5⟩ := Dd.ld_spec hg hm hr
  exact ⟨F', _, _, he, hs', ⟨h1, h2, h3, h4, h5⟩, hk, hF⟩

theorem export_small {b : Nat} {F : Nat → Prop} {w : World} {N : List Nd} {G : Nd → Option Nat} (hsto : Sto w b N G F) (hg : Dd.Good N) (hN : N.length ≤ 1099510000000) (V : Int) (i : Nat) (hi : i < N.length + 2) {C : Nat × List Nd} (hC : Dd.canon N i = C) (hl : C.2.length ≤ 4096) :
    Calls Try.prog 56 #[.pointer (some ⟨b, 0, none⟩), .int .i64 V, .int .i64 i] w fun e w' => ∃ A c, e = .returned (.tuple #[.agg #[.int .i64 V, .slice A C.2.length c, .int .i64 (C.1 : Nat)], .int .i64 0]) ∧ Rd w' (.slice A C.2.length c) 3 C.2.length (ndsC C.2) ∧ (∀ k, (Value.slice A C.2.length c).ownBlock = some k → w.heap.size ≤ k) ∧ Keep NoF w w' := by
  subst hC
  refine (export_any hsto hg hN V i hi).mono fun e w' ⟨h, hk⟩ => ?_
  rcases h with ⟨h, _⟩ | ⟨_, sl, he, hr, ho⟩
  · omega
  · obtain ⟨h1, A, c, rfl, hc, h2⟩ := hr
    exact ⟨A, c, he, ⟨h1, A, c, rfl, hc, h2⟩, ho, hk⟩

theorem Sto.alloc {w : World} {b : Nat} {N : List Nd} {G : Nd → Option Nat} {F : Nat → Prop} (hs : Sto w b N G F) (o : Obj) : Sto (w.alloc o) b N G F := hs.block fun x hx => Below.heap_alloc _ _ _ (hs.lt x hx)
theorem Sto.drew {w : World} {b : Nat} {N : List Nd} {G : Nd → Option Nat} {F : Nat → Prop} (hs : Sto w b N G F) : Sto w.drew b N G F := hs.block fun _ _ => rfl
theorem Rd.alloc {w : World} {v : Value} {size n : Nat} {xs : List Value} (h : Rd w v size n xs) (o : Obj) : Rd (w.alloc o) v size n xs := h.keep fun k _ hk => Below.heap_alloc _ _ _ hk
theorem Rd.drew {w : World} {v : Value} {size n : Nat} {xs : List Value} (h : Rd w v size n xs) : Rd w.drew v size n xs := h.keep fun _ _ _ => rfl

set_option maxRecDepth 100000 in
set_option maxHeartbeats 2000000 in
theorem check_any (V : Int) (R : List Rn) (root : Int) (sl : Value) (w : World) (hR : R.length ≤ 1000000000000) (hrd : Rd w sl 3 R.length (rnsC R)) :
    Calls Try.prog 15 #[.agg #[.int .i64 V, sl, .int .i64 root]] w fun e w' => e = .returned (.int .i64 (checkErr V R root)) ∧ Keep NoF w w' := by
  have hrd' := hrd
  have HB0 : Hid (0 < R.length → ∀ k, sl.ownBlock = some k → k < w.heap.size) := Lib.hid fun h => hrd.blk_lt h (by omega)
  obtain ⟨_, A, c, rfl, hc, _⟩ := hrd'
  have hmm := @run_makeMap Try.prog
  by_cases q0 : V < 0
  · have HV : Hid (checkErr V R root = 2) := Lib.hid (by unfold checkErr; rw [if_pos (.inl q0)])
    go_enter Try.func15, Try.ntmps15
    go_wp2
    go_ret
    exact ⟨by rw [HV.out]; rfl, (Keep.refl _ _).alloc _⟩
  by_cases q1 : 24 < V
  · have HV : Hid (checkErr V R root = 2) := Lib.hid (by unfold checkErr; rw [if_pos (.inr q1)])
    go_enter Try.func15, Try.ntmps15
    go_wp2
    go_ret
    exact ⟨by rw [HV.out]; rfl, (Keep.refl _ _).alloc _⟩
  by_cases q2 : 4096 < R.length
  · have HV : Hid (checkErr V R root = 8) := Lib.hid (by unfold checkErr; rw [if_neg (by omega), if_pos q2])
    go_enter Try.func15, Try.ntmps15
    go_wp2
    go_ret
    exact ⟨by rw [HV.out]; rfl, (Keep.refl _ _).alloc _⟩
  have HV : Hid (checkErr V R root = if firstErr V R R.length ≠ 0 then firstErr V R R.length else if ¬ R.Nodup then 7
      else if root < 0 ∨ (R.length : Int) + 1 < root then 3 else if Dd.canon (toN R) root.toNat ≠ (root.toNat, toN R) then 16 else 0) := Lib.hid (by
    unfold checkErr; rw [if_neg (by omega), if_neg q2])
  go_enter Try.func15, Try.ntmps15
  go_upto_block 0 with (fail)
  have hd0 := Bk.new w 24 #[.int .i64 V, .slice A R.length c, .int .i64 root]
  have hk0 : Keep NoF w (w.alloc (.cells #[.int .i64 V, .slice A R.length c, .int .i64 root] 24)) := (Keep.refl _ _).alloc _
  have hrd0 := hrd.kept hk0 fun _ _ h => h
  clear hrd
  generalize (w.alloc (.cells #[.int .i64 V, .slice A R.length c, .int .i64 root] 24)) = W0 at *
  go_cut [] (fun wc => firstErr V R R.length = 0 ∧ Keep NoF W0 wc)
  case first =>
    go_wp2
    go_loopw [26] (fun i wr => ∃ k : Nat, i = .int .i64 k ∧ k ≤ R.length ∧ firstErr V R k = 0 ∧ Keep NoF W0 wr) (fun i _ => R.length - (intOf i).toNat)
    case atStart => exact ⟨0, rfl, by omega, rfl, Keep.refl _ _⟩
    case round =>
      obtain ⟨k, rfl, hk, hz, hkr⟩ := hrel
      have HZ := Lib.hid hz
      clear hz
      by_cases hlt : k < R.length
      · have c0 : wr.cell? ⟨w.heap.size, 0, none⟩ = some (.int .i64 V) := (hd0.keep hkr (fun h => h)).cell 0
        have c1 : wr.cell? ⟨w.heap.size, 1, none⟩ = some (.slice A R.length c) := (hd0.keep hkr (fun h => h)).cell 1
        have c2 : wr.cell? ⟨w.heap.size, 2, none⟩ = some (.int .i64 root) := (hd0.keep hkr (fun h => h)).cell 2
        have hs := single_any V R root _ k wr hlt (by omega) (hrd0.kept hkr fun _ _ h => h)
        have HS := Lib.hid hs
        clear hs
        generalize hne : nodeErr V R k = ne at *
        have HNE := Lib.hid hne
        clear hne
        by_cases h0 : ne = 0
        · subst h0
          go_wp2_with (go_at_call 54; refine HS.out.mono ?_; rintro e w1 ⟨rfl, hk1⟩)
          go_roundw
          case rel =>
            refine ⟨k + 1, by go_num, by omega, ?_, hkr.trans hk1 fun _ _ h => h⟩
            simp only [firstErr]
            rw [HZ.out, if_neg (by simp)]
            exact HNE.out
          case measure => simp [intOf]; omega
        · have hne0 : (ne != 0) = true := by simpa using h0
          go_wp2_with (go_at_call 54; refine HS.out.mono ?_; rintro e w1 ⟨rfl, hk1⟩)
          go_ret
          have hf := Dd.firstErr_stop HZ.out (by rw [HNE.out]; exact h0) R.length hlt
          exact ⟨by rw [HV.out, hf, HNE.out, if_pos h0]; rfl, (hk0.trans hkr fun _ _ h => h).trans hk1 fun _ _ h => h⟩
      · go_wp2
        go_meet
        case rel =>
          have : k = R.length := by omega
          exact ⟨this ▸ HZ.out, hkr⟩
  case rest =>
    obtain ⟨hf, hkc⟩ := hcut
    obtain ⟨wa, rfl⟩ : ∃ wa : World, wa = wc := ⟨_, rfl⟩
    obtain ⟨hback, hsm⟩ := Dd.nat_of (V := V) (R := R) ⟨by omega, by omega⟩ hf
    have HF := Lib.hid hf
    have hlenM := Dd.toN_len R
    have hMok : ∀ n ∈ toN R, ndOk n := fun n hn => by
      obtain ⟨h1, h2, h3⟩ := hsm n hn
      exact ⟨by unfold tiny; omega, by unfold tiny; omega, by unfold tiny; omega⟩
    have HOK := Lib.hid hMok
    have HBACK := Lib.hid hback
    have HLM := Lib.hid hlenM
    have hrdc := hrd0.kept hkc fun _ _ h => h
    have hdc := hd0.keep hkc (fun h => h)
    have hkw := hk0.trans hkc fun _ _ h => h
    have l0 : w.heap.size < wa.heap.size := hdc.lt
    have c1 : wa.cell? ⟨w.heap.size, 1, none⟩ = some (.slice A R.length c) := hdc.cell 1
    clear hf hback hsm hMok hlenM hrd0 hd0 hkc hk0
    go_upto_block 2 with (fail)
    have hm0 : MapSeen (wa.alloc (.map #[] 0)) wa.heap.size (fun _ => none) := MapT.new _ _ _ _ _ _
    have hk1 : Keep NoF wa (wa.alloc (.map #[] 0)) := (Keep.refl _ _).alloc _
    have hkw1 := hkw.trans hk1 fun _ _ h => h
    have hdc1 := hdc.keep hk1 (fun h => h)
    have hrd1 := hrdc.kept hk1 fun _ _ h => h
    clear hkw hk1 hdc hrdc c1
    generalize wa.alloc (.map #[] 0) = W1 at *
    go_cut [] (fun w2 => R.Nodup ∧ Keep (fun x => x = wa.heap.size) W1 w2)
    case first =>
      go_wp2
      go_loopw [40] (fun i wr => ∃ k : Nat, i = .int .i64 k ∧ k ≤ R.length ∧ ((toN R).take k).Nodup ∧ MapSeen wr wa.heap.size (fun n => if n ∈ (toN R).take k then some true else none) ∧ Keep (fun x => x = wa.heap.size) W1 wr) (fun i _ => R.length - (intOf i).toNat)
      case atStart => exact ⟨0, rfl, by omega, by simp, hm0.congr fun x => by simp, Keep.refl _ _⟩
      case round =>
        obtain ⟨k, rfl, hk, hnd, hmk, hkr⟩ := hrel
        have HND := Lib.hid hnd
        clear hnd hm0
        by_cases hlt : k < R.length
        · have hkM : k < (toN R).length := by rw [HLM.out]; exact hlt
          have hMk : (toN R)[k]? = some (toN R)[k] := List.getElem?_eq_getElem hkM
          have hmem : (toN R)[k] ∈ toN R := List.getElem_mem hkM
          have hok := HOK.out _ hmem
          obtain ⟨bl, off, rfl, x1, x2, x3⟩ := (hrd1.kept hkr fun x hx h => by
            have := HB0.out (by omega) x hx
            omega).node hlt
          have hrat : rat R k = (((toN R)[k].1 : Int), ((toN R)[k].2.1 : Int), ((toN R)[k].2.2 : Int)) := by
            have h := congrArg (rat · k) HBACK.out
            simp only [Dd.ofN_at, List.getD_eq_getElem?_getD, hMk] at h
            exact h
          rw [hrat] at x1 x2 x3
          have htake : (toN R).take (k + 1) = (toN R).take k ++ [(toN R)[k]] := by rw [List.take_add_one, hMk]; rfl
          have HTK := Lib.hid htake
          clear hrat htake
          generalize (toN R)[k] = n at *
          obtain ⟨v, l, h⟩ := n
          simp only at x1 x2 x3
          have hmk1 := hmk.block (w' := wr.alloc (.cells #[.int .i64 v, .int .i64 l, .int .i64 h] 63)) (Below.heap_alloc _ _ _ hmk.lt)
          have hlook := hmk1.look encNode Try.underlying66 (zeroBool _) (x := (v, l, h)) hok false
          clear hMk hmem
          by_cases hin : (v, l, h) ∈ (toN R).take k
          · have hlook' : (Instr.lookup 66 (.map (some wa.heap.size)) (.agg #[.int .i64 v, .int .i64 l, .int .i64 h]) false).run Try.prog (wr.alloc (.cells #[.int .i64 v, .int .i64 l, .int .i64 h] 63)) =
              .ok (.bool true) (wr.alloc (.cells #[.int .i64 v, .int .i64 l, .int .i64 h] 63)) := by simpa [hin, boV, ndV] using hlook
            clear hlook
            have HIN := Lib.hid hin
            clear hin
            go_wp2
            go_ret
            have hdup : ¬ R.Nodup := fun hR => by
              have h1 := ((Dd.nodup_iff HBACK.out).1 hR).sublist (List.take_sublist (k + 1) (toN R))
              rw [HTK.out] at h1
              exact (List.nodup_append.1 h1).2.2 _ HIN.out (v, l, h) (by simp) rfl
            have h0 : checkErr V R root = 7 := by rw [HV.out, HF.out, if_neg (by simp), if_pos hdup]
            exact ⟨by rw [h0]; rfl, (hkw1.trans hkr fun i hi (h : i = wa.heap.size) => by omega).alloc _⟩
          · have hlook' : (Instr.lookup 66 (.map (some wa.heap.size)) (.agg #[.int .i64 v, .int .i64 l, .int .i64 h]) false).run Try.prog (wr.alloc (.cells #[.int .i64 v, .int .i64 l, .int .i64 h] 63)) =
              .ok (.bool false) (wr.alloc (.cells #[.int .i64 v, .int .i64 l, .int .i64 h] 63)) := by simpa [hin, boV, ndV] using hlook
            clear hlook
            have HIN := Lib.hid hin
            clear hin
            go_wp2_with (at_mapUpdate
                         refine wpList_mapT (by rfl) hmk1 encNode Try.underlying66 (x := (v, l, h)) hok true (.tmp 47) (.tmp 48) (.const (.bool true)) (by rfl) (by rfl) (by rfl) (by rfl) ?_
                         intro w3 hm3 hg3 hsz3)
            go_roundw
            case rel =>
              refine ⟨k + 1, by go_num, by omega, ?_, ?_, ?_⟩
              · rw [HTK.out]
                refine List.nodup_append.2 ⟨HND.out, by simp, fun x hx y hy e => ?_⟩
                have hy' : y = (v, l, h) := by simpa using hy
                exact HIN.out (hy' ▸ e ▸ hx)
              · rw [HTK.out]
                refine hm3.congr fun y => ?_
                by_cases hy : y = (v, l, h)
                · simp [hy]
                · simp [hy]
              · exact (hkr.alloc _).grown hg3 fun x hx => .inl (by simpa using hx.symm)
            case measure => simp [intOf]; omega
        · go_wp2
          go_meet
          case rel =>
            have e : k = (toN R).length := by rw [HLM.out]; omega
            refine ⟨(Dd.nodup_iff HBACK.out).2 ?_, hkr⟩
            have := HND.out
            rwa [e, List.take_length] at this
    case rest =>
      obtain ⟨hnd, hk2⟩ := hcut
      obtain ⟨w2, rfl⟩ : ∃ w2 : World, w2 = wc := ⟨_, rfl⟩
      have HND := Lib.hid hnd
      clear hnd hm0
      have hd2 := hdc1.keep hk2 (fun h => by omega)
      have hkw2 : Keep NoF w w2 := hkw1.trans hk2 fun i hi (h : i = wa.heap.size) => by omega
      have HRD : Hid (0 < R.length → Rd w2 (.slice A R.length c) 3 R.length (rnsC R)) := Lib.hid fun h0 => hrd1.kept hk2 fun x hx h => by
        have := HB0.out h0 x hx
        omega
      clear hrd1 hk2 hdc1 hkw1
      have c0 : w2.cell? ⟨w.heap.size, 0, none⟩ = some (.int .i64 V) := hd2.cell 0
      have c1 : w2.cell? ⟨w.heap.size, 1, none⟩ = some (.slice A R.length c) := hd2.cell 1
      have c2 : w2.cell? ⟨w.heap.size, 2, none⟩ = some (.int .i64 root) := hd2.cell 2
      have l2 : w.heap.size < w2.heap.size := hd2.lt
      by_cases q3 : root < 0
      · have h0 : Hid (checkErr V R root = 3) := Lib.hid (by rw [HV.out, HF.out, if_neg (by simp), if_neg (by simp [HND.out]), if_pos (.inl q3)])
        go_wp2
        go_ret
        exact ⟨by rw [h0.out]; rfl, hkw2⟩
      by_cases q4 : (R.length : Int) + 1 < root
      · have h0 : Hid (checkErr V R root = 3) := Lib.hid (by rw [HV.out, HF.out, if_neg (by simp), if_neg (by simp [HND.out]), if_pos (.inr q4)])
        go_wp2
        go_ret
        exact ⟨by rw [h0.out]; rfl, hkw2⟩
      have HV2 : Hid (checkErr V R root = if Dd.canon (toN R) root.toNat ≠ (root.toNat, toN R) then 16 else 0) := Lib.hid (by
        rw [HV.out, HF.out, if_neg (by simp), if_neg (by simp [HND.out]), if_neg (by omega)])
      have hgood := (Dd.good_of (V := V) (R := R) ⟨by omega, by omega⟩ HF.out HND.out).1
      have HG := Lib.hid hgood
      clear hgood HV
      obtain ⟨r, rfl⟩ := Int.eq_ofNat_of_zero_le (show 0 ≤ root by omega)
      go_upto_region 23 with (go_at_call 55; refine (newStore_any _).mono ?_; rintro e w3 ⟨b, F, rfl, hs3, hk3, hF3⟩)
      have hrdR : Rd w2 (.slice A R.length c) 3 R.length (rnsC R) := by
        by_cases h0 : 0 < R.length
        · exact HRD.out h0
        · exact ⟨by cases hx : R with
            | nil => rfl
            | cons _ _ => rw [hx] at h0; simp at h0, A, c, rfl, hc, fun h => absurd h h0⟩
      have hrd3 : Rd w3 (.slice A R.length c) 3 (toN R).length (ndsC (toN R)) := by
        have e : rnsC R = ndsC (toN R) := (congrArg rnsC HBACK.out).trans (rnsC_ofN _)
        rw [← e, HLM.out]
        exact hrdR.kept hk3 fun _ _ h => h
      have hd3 := hd2.keep hk3 (fun h => h)
      have hkw3 := hkw2.trans hk3 fun _ _ h => h
      have x0 : w3.cell? ⟨w.heap.size, 0, none⟩ = some (.int .i64 V) := hd3.cell 0
      have x1 : w3.cell? ⟨w.heap.size, 1, none⟩ = some (.slice A R.length c) := hd3.cell 1
      have x2 : w3.cell? ⟨w.heap.size, 2, none⟩ = some (.int .i64 r) := hd3.cell 2
      have hFw : ¬ F w.heap.size := fun h => by have := hF3 _ h; omega
      have hF3n : ¬ F w3.heap.size := fun h => by have := hs3.lt _ h; omega
      have l3 : w.heap.size < w3.heap.size := hd3.lt
      have hsD := hs3.drew
      have hrD := hrd3.drew
      have hsA : ∀ o, Sto (w3.alloc o).drew b [] (fun _ => none) F := fun o => (hs3.alloc o).drew
      have hrA : ∀ o, Rd (w3.alloc o).drew (.slice A R.length c) 3 (toN R).length (ndsC (toN R)) := fun o => (hrd3.alloc o).drew
      have xd0 : w3.drew.cell? ⟨w.heap.size, 0, none⟩ = some (.int .i64 V) := x0
      have xd1 : w3.drew.cell? ⟨w.heap.size, 1, none⟩ = some (.slice A R.length c) := x1
      have xd2 : w3.drew.cell? ⟨w.heap.size, 2, none⟩ = some (.int .i64 r) := x2
      have xa0 : ∀ o, (w3.alloc o).drew.cell? ⟨w.heap.size, 0, none⟩ = some (.int .i64 V) := fun o => ((Keep.refl NoF w3).alloc o).cellv x0 (fun h => h)
      have xa1 : ∀ o, (w3.alloc o).drew.cell? ⟨w.heap.size, 1, none⟩ = some (.slice A R.length c) := fun o => ((Keep.refl NoF w3).alloc o).cellv x1 (fun h => h)
      have xa2 : ∀ o, (w3.alloc o).drew.cell? ⟨w.heap.size, 2, none⟩ = some (.int .i64 r) := fun o => ((Keep.refl NoF w3).alloc o).cellv x2 (fun h => h)
      have hlr : r < (toN R).length + 2 := by rw [HLM.out]; omega
      have hln : (toN R).length ≤ 4096 := by rw [HLM.out]; omega
      have hAF : 0 < (toN R).length → ∀ k, (Value.slice A R.length c).ownBlock = some k → ¬ F k := fun h0 k hk h => by
        have h1 := HB0.out (by rw [← HLM.out]; exact h0) k hk
        have h2 := hF3 k h
        omega
      have hcl := Dd.visit_bound HG.out hlr
      have hcl : (Dd.canon (toN R) r).2.length ≤ 4096 := by omega
      clear c0 c1 c2 hs3 hrd3
      generalize hCC : Dd.canon (toN R) r = C at *
      have HCC := Lib.hid hCC
      clear hCC
      obtain ⟨C1, C2⟩ := C
      simp only at hcl
      go_cut [9] (fun v9 wc => ∃ cb sl2, v9 = .pointer (some ⟨cb, 0, none⟩) ∧ Bk wc cb 24 #[.int .i64 V, sl2, .int .i64 (C1 : Nat)] ∧ Rd wc sl2 3 C2.length (ndsC C2) ∧ Keep NoF w2 wc)
      case first =>
        go_region_held3 (fun w' => w'.cell? ⟨w.heap.size, 0, none⟩ = some (.int .i64 V) ∧ w'.cell? ⟨w.heap.size, 1, none⟩ = some (.slice A R.length c) ∧ w'.cell? ⟨w.heap.size, 2, none⟩ = some (.int .i64 r))
          (first
            | with_reducible exact ⟨xd0, xd1, xd2⟩
            | with_reducible exact ⟨xa0 _, xa1 _, xa2 _⟩
            | with_reducible exact ⟨y0, y1, y2⟩
            | with_reducible exact ⟨ya0 _, ya1 _, ya2 _⟩
            | with_reducible exact ⟨z0, z1, z2⟩
            | with_reducible exact ⟨za0 _, za1 _, za2 _⟩
            | (go_split_ands
               refine ⟨?_, ?_, ?_⟩
               all_goals exact Keep.cellv ((((Keep.refl (fun x => x ≠ w.heap.size) _).setCell (.inl (by simp; omega)) _).setCell (.inl (by simp; omega)) _).setCell (.inl (by simp; omega)) _) (by first | assumption | exact za0 _ | exact za1 _ | exact za2 _) (by simp)))
          (first
            | (go_at_call 57
               (with_reducible refine (load_rel (b := b) (N := []) (G := fun _ => none) (F := F) hsD Dd.Good.nil (toN R) HG.out V _ r hlr hln (by simp) hrD hAF).mono ?_)
               rintro e w4 ⟨F4, N4, t4, rfl, hs4, L4, hk4, hF4⟩
               have hl4 : N4.length ≤ 1099510000000 := by have := L4.len; simp at this; omega
               have k4 : Keep NoF w2 w4 := by first | exact hk3.drew.trans hk4 fun i hi h => absurd (hF3 i h) (by omega) | exact (hk3.alloc _).drew.trans hk4 fun i hi h => absurd (hF3 i h) (by omega)
               have s4 : w.heap.size < w4.heap.size := by have := hk4.size; simp at this; omega
               have y0 : w4.cell? ⟨w.heap.size, 0, none⟩ = some (.int .i64 V) := hk4.cellv xd0 hFw
               have y1 : w4.cell? ⟨w.heap.size, 1, none⟩ = some (.slice A R.length c) := hk4.cellv xd1 hFw
               have y2 : w4.cell? ⟨w.heap.size, 2, none⟩ = some (.int .i64 r) := hk4.cellv xd2 hFw
               have ya0 : ∀ o, (w4.alloc o).cell? ⟨w.heap.size, 0, none⟩ = some (.int .i64 V) := fun o => ((Keep.refl NoF w4).alloc o).cellv y0 (fun h => h)
               have ya1 : ∀ o, (w4.alloc o).cell? ⟨w.heap.size, 1, none⟩ = some (.slice A R.length c) := fun o => ((Keep.refl NoF w4).alloc o).cellv y1 (fun h => h)
               have ya2 : ∀ o, (w4.alloc o).cell? ⟨w.heap.size, 2, none⟩ = some (.int .i64 r) := fun o => ((Keep.refl NoF w4).alloc o).cellv y2 (fun h => h))
            | (go_at_call 57
               (with_reducible refine (load_rel (b := b) (N := []) (G := fun _ => none) (F := F) (hsA _) Dd.Good.nil (toN R) HG.out V _ r hlr hln (by simp) (hrA _) hAF).mono ?_)
               rintro e w4 ⟨F4, N4, t4, rfl, hs4, L4, hk4, hF4⟩
               have hl4 : N4.length ≤ 1099510000000 := by have := L4.len; simp at this; omega
               have k4 : Keep NoF w2 w4 := by first | exact hk3.drew.trans hk4 fun i hi h => absurd (hF3 i h) (by omega) | exact (hk3.alloc _).drew.trans hk4 fun i hi h => absurd (hF3 i h) (by omega)
               have s4 : w.heap.size < w4.heap.size := by have := hk4.size; simp at this; omega
               have y0 : w4.cell? ⟨w.heap.size, 0, none⟩ = some (.int .i64 V) := hk4.cellv (xa0 _) hFw
               have y1 : w4.cell? ⟨w.heap.size, 1, none⟩ = some (.slice A R.length c) := hk4.cellv (xa1 _) hFw
               have y2 : w4.cell? ⟨w.heap.size, 2, none⟩ = some (.int .i64 r) := hk4.cellv (xa2 _) hFw
               have abk : Bk w4 w3.heap.size 24 #[.int .i64 0, .slice none 0 0, .int .i64 0] := (Bk.drew (Bk.new w3 _ _)).keep hk4 hF3n)
            | (go_at_call 56
               have akk := abk
               (with_reducible refine (export_small (b := b) hs4 L4.good hl4 V _ L4.lt ((L4.canon HG.out hlr).trans HCC.out) hcl).mono ?_)
               rintro e w5 ⟨A2, c2, rfl, hrd5, ho5, hk5⟩
               have k5 : Keep NoF w2 w5 := by first | exact k4.trans hk5 fun _ _ h => h | exact (k4.alloc _).trans hk5 fun _ _ h => h
               have s5 : w.heap.size < w5.heap.size := by have := hk5.size; (try simp at this); omega
               have z0 : w5.cell? ⟨w.heap.size, 0, none⟩ = some (.int .i64 V) := hk5.cellv y0 (fun h => h)
               have z1 : w5.cell? ⟨w.heap.size, 1, none⟩ = some (.slice A R.length c) := hk5.cellv y1 (fun h => h)
               have z2 : w5.cell? ⟨w.heap.size, 2, none⟩ = some (.int .i64 r) := hk5.cellv y2 (fun h => h)
               have bbk : Bk w5 w3.heap.size 24 #[.int .i64 0, .slice none 0 0, .int .i64 0] := akk.keep hk5 (fun h => h)
               have g0 := bbk.cell 0
               have gf0 := bbk.frozen 0
               simp only [List.getElem?_toArray, List.getElem?_cons_zero, List.getElem?_cons_succ] at g0
               have g1 := bbk.cell 1
               have gf1 := bbk.frozen 1
               simp only [List.getElem?_toArray, List.getElem?_cons_zero, List.getElem?_cons_succ] at g1
               have g2 := bbk.cell 2
               have gf2 := bbk.frozen 2
               simp only [List.getElem?_toArray, List.getElem?_cons_zero, List.getElem?_cons_succ] at g2)
            | (go_at_call 56
               (with_reducible refine (export_small (b := b) hs4 L4.good hl4 V _ L4.lt ((L4.canon HG.out hlr).trans HCC.out) hcl).mono ?_)
               rintro e w5 ⟨A2, c2, rfl, hrd5, ho5, hk5⟩
               have k5 : Keep NoF w2 w5 := by first | exact k4.trans hk5 fun _ _ h => h | exact (k4.alloc _).trans hk5 fun _ _ h => h
               have s5 : w.heap.size < w5.heap.size := by have := hk5.size; (try simp at this); omega
               have z0 : w5.cell? ⟨w.heap.size, 0, none⟩ = some (.int .i64 V) := hk5.cellv y0 (fun h => h)
               have z1 : w5.cell? ⟨w.heap.size, 1, none⟩ = some (.slice A R.length c) := hk5.cellv y1 (fun h => h)
               have z2 : w5.cell? ⟨w.heap.size, 2, none⟩ = some (.int .i64 r) := hk5.cellv y2 (fun h => h)
               have za0 : ∀ o, (w5.alloc o).cell? ⟨w.heap.size, 0, none⟩ = some (.int .i64 V) := fun o => ((Keep.refl NoF w5).alloc o).cellv z0 (fun h => h)
               have za1 : ∀ o, (w5.alloc o).cell? ⟨w.heap.size, 1, none⟩ = some (.slice A R.length c) := fun o => ((Keep.refl NoF w5).alloc o).cellv z1 (fun h => h)
               have za2 : ∀ o, (w5.alloc o).cell? ⟨w.heap.size, 2, none⟩ = some (.int .i64 r) := fun o => ((Keep.refl NoF w5).alloc o).cellv z2 (fun h => h))
            | (go_at_call 56
               (with_reducible refine (export_small (b := b) (hs4.alloc _) L4.good hl4 V _ L4.lt ((L4.canon HG.out hlr).trans HCC.out) hcl).mono ?_)
               rintro e w5 ⟨A2, c2, rfl, hrd5, ho5, hk5⟩
               have k5 : Keep NoF w2 w5 := by first | exact k4.trans hk5 fun _ _ h => h | exact (k4.alloc _).trans hk5 fun _ _ h => h
               have s5 : w.heap.size < w5.heap.size := by have := hk5.size; (try simp at this); omega
               have z0 : w5.cell? ⟨w.heap.size, 0, none⟩ = some (.int .i64 V) := hk5.cellv (ya0 _) (fun h => h)
               have z1 : w5.cell? ⟨w.heap.size, 1, none⟩ = some (.slice A R.length c) := hk5.cellv (ya1 _) (fun h => h)
               have z2 : w5.cell? ⟨w.heap.size, 2, none⟩ = some (.int .i64 r) := hk5.cellv (ya2 _) (fun h => h)
               have bbk : Bk w5 w4.heap.size 24 #[.int .i64 0, .slice none 0 0, .int .i64 0] := (Bk.new w4 _ _).keep hk5 (fun h => h)
               have g0 := bbk.cell 0
               have gf0 := bbk.frozen 0
               simp only [List.getElem?_toArray, List.getElem?_cons_zero, List.getElem?_cons_succ] at g0
               have g1 := bbk.cell 1
               have gf1 := bbk.frozen 1
               simp only [List.getElem?_toArray, List.getElem?_cons_zero, List.getElem?_cons_succ] at g1
               have g2 := bbk.cell 2
               have gf2 := bbk.frozen 2
               simp only [List.getElem?_toArray, List.getElem?_cons_zero, List.getElem?_cons_succ] at g2))
        all_goals go_wp2
        all_goals go_meet
        · case rel => exact ⟨w5.heap.size, _, rfl, Bk.new _ _ _, hrd5.alloc _, k5.alloc _⟩
        · case rel =>
            have hb4 : w2.heap.size ≤ w4.heap.size := k4.size
            refine ⟨w4.heap.size, _, rfl, ((bbk.put 0 _).put 1 _).put 2 _, ?_, ((k5.setCell (.inr hb4) _).setCell (.inr hb4) _).setCell (.inr hb4) _⟩
            refine hrd5.keep fun k hk _ => ?_
            have hne : k ≠ w4.heap.size := fun e => by have := ho5 k hk; simp at this; omega
            exact ((Below.heap_setCell _ _ _ k hne).trans (Below.heap_setCell _ _ _ k hne)).trans (Below.heap_setCell _ _ _ k hne)
        · case rel =>
            have hb4 : w2.heap.size ≤ w3.heap.size := hk3.size
            refine ⟨w3.heap.size, _, rfl, ((bbk.put 0 _).put 1 _).put 2 _, ?_, ((k5.setCell (.inr hb4) _).setCell (.inr hb4) _).setCell (.inr hb4) _⟩
            refine hrd5.keep fun k hk _ => ?_
            have hne : k ≠ w3.heap.size := fun e => by have := ho5 k hk; have := akk.lt; omega
            exact ((Below.heap_setCell _ _ _ k hne).trans (Below.heap_setCell _ _ _ k hne)).trans (Below.heap_setCell _ _ _ k hne)
      case rest =>
        obtain ⟨cb, sl2, rfl, hcb, hrdc, hkc⟩ := hcut
        obtain ⟨w6, rfl⟩ : ∃ w6 : World, w6 = wc := ⟨_, rfl⟩
        have hd6 := hd2.keep hkc (fun h => h)
        have hrd6 := hrdR.kept hkc fun _ _ h => h
        have hkw6 : Keep NoF w w6 := hkw2.trans hkc fun _ _ h => h
        obtain ⟨hx2, A2, c2, rfl, hc2, hy2⟩ := hrdc
        have hrdc : Rd w6 (.slice A2 C2.length c2) 3 C2.length (ndsC C2) := ⟨hx2, A2, c2, rfl, hc2, hy2⟩
        clear hx2 hc2 hy2 hd2 hrdR hsD hsA hrD hrA xd0 xd1 xd2 xa0 xa1 xa2 x0 x1 x2 hd3 hkw3 hk3 hF3 hFw
        have x0 : w6.cell? ⟨w.heap.size, 0, none⟩ = some (.int .i64 V) := hd6.cell 0
        have x1 : w6.cell? ⟨w.heap.size, 1, none⟩ = some (.slice A R.length c) := hd6.cell 1
        have x2 : w6.cell? ⟨w.heap.size, 2, none⟩ = some (.int .i64 r) := hd6.cell 2
        have y1 : w6.cell? ⟨cb, 1, none⟩ = some (.slice A2 C2.length c2) := hcb.cell 1
        have y2 : w6.cell? ⟨cb, 2, none⟩ = some (.int .i64 (C1 : Nat)) := hcb.cell 2
        have hslq := slEq_any (Dd.ofN C2) R (.slice A2 C2.length c2) (.slice A R.length c) w6 (by rw [rnsC_ofN, Dd.ofN_len]; exact hrdc) hrd6 (by rw [Dd.ofN_len]; omega) hR
        have HS := Lib.hid hslq
        clear hslq
        by_cases hroot : C1 = r
        · have e1 : ((C1 : Int) != (r : Int)) = false := by simp; omega
          by_cases heq : Dd.ofN C2 = R
          · have h0 : Hid (checkErr V R r = 0) := Lib.hid (by
              rw [HV2.out, Int.toNat_natCast, HCC.out, if_neg (by simp only [ne_eq, Decidable.not_not]; rw [hroot, ← heq, Dd.toN_ofN])])
            have hde : decide (Dd.ofN C2 = R) = true := decide_eq_true heq
            rw [hde] at HS
            clear heq hroot hde
            go_wp2_with (go_at_call 52; (with_reducible refine HS.out.mono ?_); rintro e w7 ⟨rfl, hk7⟩)
            go_ret
            exact ⟨by rw [h0.out]; rfl, hkw6.trans hk7 fun _ _ h => h⟩
          · have h0 : Hid (checkErr V R r = 16) := Lib.hid (by
              rw [HV2.out, Int.toNat_natCast, HCC.out, if_pos (fun h => heq (by
                simp only [Prod.mk.injEq] at h
                rw [h.2]; exact HBACK.out.symm))])
            have hde : decide (Dd.ofN C2 = R) = false := decide_eq_false heq
            rw [hde] at HS
            clear heq hroot hde
            go_wp2_with (go_at_call 52; (with_reducible refine HS.out.mono ?_); rintro e w7 ⟨rfl, hk7⟩)
            go_ret
            exact ⟨by rw [h0.out]; rfl, hkw6.trans hk7 fun _ _ h => h⟩
        · have e1 : ((C1 : Int) != (r : Int)) = true := by simp; omega
          have h0 : Hid (checkErr V R r = 16) := Lib.hid (by
            rw [HV2.out, Int.toNat_natCast, HCC.out, if_pos (fun h => hroot (by simp only [Prod.mk.injEq] at h; exact h.1))])
          clear hroot
          go_wp2
          go_ret
          exact ⟨by rw [h0.out]; rfl, hkw6⟩
end Go.Proofs.Ytengdldkkmknpaa
