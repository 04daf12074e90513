/- What the function Check does: the error of a diagram. What the closures of the operations do: Not, And, Or, Xor, Ite. What the function operate does, for any operation. What the closure of Xor does. No condition. -/
import Derived.Test.YtgdmcidcappkpaaDoorExp
import Derived.Deep.CutBlock
set_option linter.unusedVariables false
set_option linter.unusedSimpArgs false
namespace Go.Proofs.YtgdmcidcappkpaaDoor
open Go.RowKit
open Dd (Rn rat ofN toN nodeErr firstErr checkErr)

def boV (b : Bool) : Value := .bool b
abbrev MapSeen (w : World) (b : Nat) (g : Nd → Option Bool) : Prop := MapT Tryd.prog 74 ndV boV ndOk w b g
theorem zeroBool : ∀ w, (zeroValue 4).run Tryd.prog w = .ok (.bool false) w := by intro w; kernel_rfl

/-- What load leaves: number t of the grown list N' means what number r of M means. -/
structure LdRel (N M : List Nd) (r t : Nat) (N' : List Nd) : Prop where
  pre : N <+: N'
  good : Dd.Good N'
  lt : t < N'.length + 2
  den : ∀ ρ, Dd.den N' t ρ = Dd.den M r ρ
  len : N'.length ≤ N.length + M.length

theorem LdRel.canon {N M N' : List Nd} {r t : Nat} (h : LdRel N M r t N') (H : Dd.Good M) (hr : r < M.length + 2) : Dd.canon N' t = Dd.canon M r := Dd.canon_eq h.good H h.lt hr h.den

theorem load_rel {b : Nat} {N : List Nd} {G : Nd → Option Nat} {F : Nat → Prop} {w : World} (hs : Sto w b N G F) (hg : Dd.Good N) (M : List Nd) (hm : Dd.Good M) (V : Int) (sl : Value) (r : Nat) (hr : r < M.length + 2)
    (hM : M.length ≤ 4096) (hlen : N.length ≤ 1099511000000) (hrd : Rd w sl 3 M.length (ndsC M)) (hf : 0 < M.length → ∀ k, sl.ownBlock = some k → ¬ F k) :
    Calls Tryd.prog 69 #[.pointer (some ⟨b, 0, none⟩), .agg #[.int .i64 V, sl, .int .i64 r]] w fun e w' => ∃ F' N' t, e = .returned (.int .i64 (t : Nat)) ∧ Sto w' b N' G F' ∧ LdRel N M r t N' ∧ Keep F w w' ∧
      ∀ k, F' k → F k ∨ w.heap.size ≤ k := by
  refine (load_any hs hg M hm V sl r hr hM hlen hrd hf).mono fun e w' ⟨F', he, hs', hk, hF⟩ => ?_
  obtain ⟨h1, h2, h3, h4, h5⟩ := Dd.ld_spec hg hm hr
  exact ⟨F', _, _, he, hs', ⟨h1, h2, h3, h4, h5⟩, hk, hF⟩

theorem export_small {b : Nat} {F : Nat → Prop} {w : World} {N : List Nd} {G : Nd → Option Nat} (hsto : Sto w b N G F) (hg : Dd.Good N) (hN : N.length ≤ 1099510000000) (V : Int) (i : Nat) (hi : i < N.length + 2) {C : Nat × List Nd} (hC : Dd.canon N i = C) (hl : C.2.length ≤ 4096) :
    Calls Tryd.prog 70 #[.pointer (some ⟨b, 0, none⟩), .int .i64 V, .int .i64 i] w fun e w' => ∃ A c, e = .returned (.tuple #[.agg #[.int .i64 V, .slice A C.2.length c, .int .i64 (C.1 : Nat)], .int .i64 0]) ∧ Rd w' (.slice A C.2.length c) 3 C.2.length (ndsC C.2) ∧ (∀ k, (Value.slice A C.2.length c).ownBlock = some k → w.heap.size ≤ k) ∧ Keep NoF w w' := by
  subst hC
  refine (export_any hsto hg hN V i hi).mono fun e w' ⟨h, hk⟩ => ?_
  rcases h with ⟨h, _⟩ | ⟨_, sl, he, hr, ho⟩
  · omega
  · obtain ⟨h1, A, c, rfl, hc, h2⟩ := hr
    exact ⟨A, c, he, ⟨h1, A, c, rfl, hc, h2⟩, ho, hk⟩

theorem Sto.alloc {w : World} {b : Nat} {N : List Nd} {G : Nd → Option Nat} {F : Nat → Prop} (hs : Sto w b N G F) (o : Obj) : Sto (w.alloc o) b N G F := hs.block fun x hx => Below.heap_alloc _ _ _ (hs.lt x hx)
theorem Sto.drew {w : World} {b : Nat} {N : List Nd} {G : Nd → Option Nat} {F : Nat → Prop} (hs : Sto w b N G F) : Sto w.drew b N G F := hs.block fun _ _ => rfl
theorem Rd.alloc {w : World} {v : Value} {size n : Nat} {xs : List Value} (h : Rd w v size n xs) (o : Obj) : Rd (w.alloc o) v size n xs := h.keep fun k _ hk => Below.heap_alloc _ _ _ hk
theorem Rd.drew {w : World} {v : Value} {size n : Nat} {xs : List Value} (h : Rd w v size n xs) : Rd w.drew v size n xs := h.keep fun _ _ _ => rfl

set_option maxRecDepth 100000 in
set_option maxHeartbeats 2000000 in
theorem check_any (V : Int) (R : List Rn) (root : Int) (sl : Value) (w : World) (hR : R.length ≤ 1000000000000) (hrd : Rd w sl 3 R.length (rnsC R)) :
    Calls Tryd.prog 60 #[.agg #[.int .i64 V, sl, .int .i64 root]] w fun e w' => e = .returned (.int .i64 (checkErr V R root)) ∧ Keep NoF w w' := by
  have hrd' := hrd
  have HB0 : Hid (0 < R.length → ∀ k, sl.ownBlock = some k → k < w.heap.size) := Lib.hid fun h => hrd.blk_lt h (by omega)
  obtain ⟨_, A, c, rfl, hc, _⟩ := hrd'
  have hmm := @run_makeMap Tryd.prog
  by_cases q0 : V < 0
  · have HV : Hid (checkErr V R root = 2) := Lib.hid (by unfold checkErr; rw [if_pos (.inl q0)])
    go_enter Tryd.func60, Tryd.ntmps60
    go_wp2
    go_ret
    exact ⟨by rw [HV.out]; rfl, (Keep.refl _ _).alloc _⟩
  by_cases q1 : 24 < V
  · have HV : Hid (checkErr V R root = 2) := Lib.hid (by unfold checkErr; rw [if_pos (.inr q1)])
    go_enter Tryd.func60, Tryd.ntmps60
    go_wp2
    go_ret
    exact ⟨by rw [HV.out]; rfl, (Keep.refl _ _).alloc _⟩
  by_cases q2 : 4096 < R.length
  · have HV : Hid (checkErr V R root = 8) := Lib.hid (by unfold checkErr; rw [if_neg (by omega), if_pos q2])
    go_enter Tryd.func60, Tryd.ntmps60
    go_wp2
    go_ret
    exact ⟨by rw [HV.out]; rfl, (Keep.refl _ _).alloc _⟩
  have HV : Hid (checkErr V R root = if firstErr V R R.length ≠ 0 then firstErr V R R.length else if ¬ R.Nodup then 7
      else if root < 0 ∨ (R.length : Int) + 1 < root then 3 else if Dd.canon (toN R) root.toNat ≠ (root.toNat, toN R) then 16 else 0) := Lib.hid (by
    unfold checkErr; rw [if_neg (by omega), if_neg q2])
  go_enter Tryd.func60, Tryd.ntmps60
  go_upto_block 0 with (fail)
  have hd0 := Bk.new w 26 #[.int .i64 V, .slice A R.length c, .int .i64 root]
  have hk0 : Keep NoF w (w.alloc (.cells #[.int .i64 V, .slice A R.length c, .int .i64 root] 26)) := (Keep.refl _ _).alloc _
  have hrd0 := hrd.kept hk0 fun _ _ h => h
  clear hrd
  generalize (w.alloc (.cells #[.int .i64 V, .slice A R.length c, .int .i64 root] 26)) = W0 at *
  go_cut [] (fun wc => firstErr V R R.length = 0 ∧ Keep NoF W0 wc)
  case first =>
    go_wp2
    go_loopw [26] (fun i wr => ∃ k : Nat, i = .int .i64 k ∧ k ≤ R.length ∧ firstErr V R k = 0 ∧ Keep NoF W0 wr) (fun i _ => R.length - (intOf i).toNat)
    case atStart => exact ⟨0, rfl, by omega, rfl, Keep.refl _ _⟩
    case round =>
      obtain ⟨k, rfl, hk, hz, hkr⟩ := hrel
      have HZ := Lib.hid hz
      clear hz
      by_cases hlt : k < R.length
      · have c0 : wr.cell? ⟨w.heap.size, 0, none⟩ = some (.int .i64 V) := (hd0.keep hkr (fun h => h)).cell 0
        have c1 : wr.cell? ⟨w.heap.size, 1, none⟩ = some (.slice A R.length c) := (hd0.keep hkr (fun h => h)).cell 1
        have c2 : wr.cell? ⟨w.heap.size, 2, none⟩ = some (.int .i64 root) := (hd0.keep hkr (fun h => h)).cell 2
        have hs := single_any V R root _ k wr hlt (by omega) (hrd0.kept hkr fun _ _ h => h)
        have HS := Lib.hid hs
        clear hs
        generalize hne : nodeErr V R k = ne at *
        have HNE := Lib.hid hne
        clear hne
        by_cases h0 : ne = 0
        · subst h0
          go_wp2_with (go_at_call 75; refine HS.out.mono ?_; rintro e w1 ⟨rfl, hk1⟩)
          go_roundw
          case rel =>
            refine ⟨k + 1, by go_num, by omega, ?_, hkr.trans hk1 fun _ _ h => h⟩
            simp only [firstErr]
            rw [HZ.out, if_neg (by simp)]
            exact HNE.out
          case measure => simp [intOf]; omega
        · have hne0 : (ne != 0) = true := by simpa using h0
          go_wp2_with (go_at_call 75; refine HS.out.mono ?_; rintro e w1 ⟨rfl, hk1⟩)
          go_ret
          have hf := Dd.firstErr_stop HZ.out (by rw [HNE.out]; exact h0) R.length hlt
          exact ⟨by rw [HV.out, hf, HNE.out, if_pos h0]; rfl, (hk0.trans hkr fun _ _ h => h).trans hk1 fun _ _ h => h⟩
      · go_wp2
        go_meet
        case rel =>
          have : k = R.length := by omega
          exact ⟨this ▸ HZ.out, hkr⟩
  case rest =>
    obtain ⟨hf, hkc⟩ := hcut
    obtain ⟨wa, rfl⟩ : ∃ wa : World, wa = wc := ⟨_, rfl⟩
    obtain ⟨hback, hsm⟩ := Dd.nat_of (V := V) (R := R) ⟨by omega, by omega⟩ hf
    have HF := Lib.hid hf
    have hlenM := Dd.toN_len R
    have hMok : ∀ n ∈ toN R, ndOk n := fun n hn => by
      obtain ⟨h1, h2, h3⟩ := hsm n hn
      exact ⟨by unfold tiny; omega, by unfold tiny; omega, by unfold tiny; omega⟩
    have HOK := Lib.hid hMok
    have HBACK := Lib.hid hback
    have HLM := Lib.hid hlenM
    have hrdc := hrd0.kept hkc fun _ _ h => h
    have hdc := hd0.keep hkc (fun h => h)
    have hkw := hk0.trans hkc fun _ _ h => h
    have l0 : w.heap.size < wa.heap.size := hdc.lt
    have c1 : wa.cell? ⟨w.heap.size, 1, none⟩ = some (.slice A R.length c) := hdc.cell 1
    clear hf hback hsm hMok hlenM hrd0 hd0 hkc hk0
    go_upto_block 2 with (fail)
    have hm0 : MapSeen (wa.alloc (.map #[] 0)) wa.heap.size (fun _ => none) := MapT.new _ _ _ _ _ _
    have hk1 : Keep NoF wa (wa.alloc (.map #[] 0)) := (Keep.refl _ _).alloc _
    have hkw1 := hkw.trans hk1 fun _ _ h => h
    have hdc1 := hdc.keep hk1 (fun h => h)
    have hrd1 := hrdc.kept hk1 fun _ _ h => h
    clear hkw hk1 hdc hrdc c1
    generalize wa.alloc (.map #[] 0) = W1 at *
    go_cut [] (fun w2 => R.Nodup ∧ Keep (fun x => x = wa.heap.size) W1 w2)
    case first =>
      go_wp2
      go_loopw [40] (fun i wr => ∃ k : Nat, i = .int .i64 k ∧ k ≤ R.length ∧ ((toN R).take k).Nodup ∧ MapSeen wr wa.heap.size (fun n => if n ∈ (toN R).take k then some true else none) ∧ Keep (fun x => x = wa.heap.size) W1 wr) (fun i _ => R.length - (intOf i).toNat)
      case atStart => exact ⟨0, rfl, by omega, by simp, hm0.congr fun x => by simp, Keep.refl _ _⟩
      case round =>
        obtain ⟨k, rfl, hk, hnd, hmk, hkr⟩ := hrel
        have HND := Lib.hid hnd
        clear hnd hm0
        by_cases hlt : k < R.length
        · have hkM : k < (toN R).length := by rw [HLM.out]; exact hlt
          have hMk : (toN R)[k]? = some (toN R)[k] := List.getElem?_eq_getElem hkM
          have hmem : (toN R)[k] ∈ toN R := List.getElem_mem hkM
          have hok := HOK.out _ hmem
          obtain ⟨bl, off, rfl, x1, x2, x3⟩ := (hrd1.kept hkr fun x hx h => by
            have := HB0.out (by omega) x hx
            omega).node hlt
          have hrat : rat R k = (((toN R)[k].1 : Int), ((toN R)[k].2.1 : Int), ((toN R)[k].2.2 : Int)) := by
            have h := congrArg (rat · k) HBACK.out
            simp only [Dd.ofN_at, List.getD_eq_getElem?_getD, hMk] at h
            exact h
          rw [hrat] at x1 x2 x3
          have htake : (toN R).take (k + 1) = (toN R).take k ++ [(toN R)[k]] := by rw [List.take_add_one, hMk]; rfl
          have HTK := Lib.hid htake
          clear hrat htake
          generalize (toN R)[k] = n at *
          obtain ⟨v, l, h⟩ := n
          simp only at x1 x2 x3
          have hmk1 := hmk.block (w' := wr.alloc (.cells #[.int .i64 v, .int .i64 l, .int .i64 h] 74)) (Below.heap_alloc _ _ _ hmk.lt)
          have hlook := hmk1.look encNode Tryd.underlying94 (zeroBool _) (x := (v, l, h)) hok false
          clear hMk hmem
          by_cases hin : (v, l, h) ∈ (toN R).take k
          · have hlook' : (Instr.lookup 94 (.map (some wa.heap.size)) (.agg #[.int .i64 v, .int .i64 l, .int .i64 h]) false).run Tryd.prog (wr.alloc (.cells #[.int .i64 v, .int .i64 l, .int .i64 h] 74)) =
              .ok (.bool true) (wr.alloc (.cells #[.int .i64 v, .int .i64 l, .int .i64 h] 74)) := by simpa [hin, boV, ndV] using hlook
            clear hlook
            have HIN := Lib.hid hin
            clear hin
            go_wp2
            go_ret
            have hdup : ¬ R.Nodup := fun hR => by
              have h1 := ((Dd.nodup_iff HBACK.out).1 hR).sublist (List.take_sublist (k + 1) (toN R))
              rw [HTK.out] at h1
              exact (List.nodup_append.1 h1).2.2 _ HIN.out (v, l, h) (by simp) rfl
            have h0 : checkErr V R root = 7 := by rw [HV.out, HF.out, if_neg (by simp), if_pos hdup]
            exact ⟨by rw [h0]; rfl, (hkw1.trans hkr fun i hi (h : i = wa.heap.size) => by omega).alloc _⟩
          · have hlook' : (Instr.lookup 94 (.map (some wa.heap.size)) (.agg #[.int .i64 v, .int .i64 l, .int .i64 h]) false).run Tryd.prog (wr.alloc (.cells #[.int .i64 v, .int .i64 l, .int .i64 h] 74)) =
              .ok (.bool false) (wr.alloc (.cells #[.int .i64 v, .int .i64 l, .int .i64 h] 74)) := by simpa [hin, boV, ndV] using hlook
            clear hlook
            have HIN := Lib.hid hin
            clear hin
            go_wp2_with (at_mapUpdate
                         refine wpList_mapT (by rfl) hmk1 encNode Tryd.underlying94 (x := (v, l, h)) hok true (.tmp 47) (.tmp 48) (.const (.bool true)) (by rfl) (by rfl) (by rfl) (by rfl) ?_
                         intro w3 hm3 hg3 hsz3)
            go_roundw
            case rel =>
              refine ⟨k + 1, by go_num, by omega, ?_, ?_, ?_⟩
              · rw [HTK.out]
                refine List.nodup_append.2 ⟨HND.out, by simp, fun x hx y hy e => ?_⟩
                have hy' : y = (v, l, h) := by simpa using hy
                exact HIN.out (hy' ▸ e ▸ hx)
              · rw [HTK.out]
                refine hm3.congr fun y => ?_
                by_cases hy : y = (v, l, h)
                · simp [hy]
                · simp [hy]
              · exact (hkr.alloc _).grown hg3 fun x hx => .inl (by simpa using hx.symm)
            case measure => simp [intOf]; omega
        · go_wp2
          go_meet
          case rel =>
            have e : k = (toN R).length := by rw [HLM.out]; omega
            refine ⟨(Dd.nodup_iff HBACK.out).2 ?_, hkr⟩
            have := HND.out
            rwa [e, List.take_length] at this
    case rest =>
      obtain ⟨hnd, hk2⟩ := hcut
      obtain ⟨w2, rfl⟩ : ∃ w2 : World, w2 = wc := ⟨_, rfl⟩
      have HND := Lib.hid hnd
      clear hnd hm0
      have hd2 := hdc1.keep hk2 (fun h => by omega)
      have hkw2 : Keep NoF w w2 := hkw1.trans hk2 fun i hi (h : i = wa.heap.size) => by omega
      have HRD : Hid (0 < R.length → Rd w2 (.slice A R.length c) 3 R.length (rnsC R)) := Lib.hid fun h0 => hrd1.kept hk2 fun x hx h => by
        have := HB0.out h0 x hx
        omega
      clear hrd1 hk2 hdc1 hkw1
      have c0 : w2.cell? ⟨w.heap.size, 0, none⟩ = some (.int .i64 V) := hd2.cell 0
      have c1 : w2.cell? ⟨w.heap.size, 1, none⟩ = some (.slice A R.length c) := hd2.cell 1
      have c2 : w2.cell? ⟨w.heap.size, 2, none⟩ = some (.int .i64 root) := hd2.cell 2
      have l2 : w.heap.size < w2.heap.size := hd2.lt
      by_cases q3 : root < 0
      · have h0 : Hid (checkErr V R root = 3) := Lib.hid (by rw [HV.out, HF.out, if_neg (by simp), if_neg (by simp [HND.out]), if_pos (.inl q3)])
        go_wp2
        go_ret
        exact ⟨by rw [h0.out]; rfl, hkw2⟩
      by_cases q4 : (R.length : Int) + 1 < root
      · have h0 : Hid (checkErr V R root = 3) := Lib.hid (by rw [HV.out, HF.out, if_neg (by simp), if_neg (by simp [HND.out]), if_pos (.inr q4)])
        go_wp2
        go_ret
        exact ⟨by rw [h0.out]; rfl, hkw2⟩
      have HV2 : Hid (checkErr V R root = if Dd.canon (toN R) root.toNat ≠ (root.toNat, toN R) then 16 else 0) := Lib.hid (by
        rw [HV.out, HF.out, if_neg (by simp), if_neg (by simp [HND.out]), if_neg (by omega)])
      have hgood := (Dd.good_of (V := V) (R := R) ⟨by omega, by omega⟩ HF.out HND.out).1
      have HG := Lib.hid hgood
      clear hgood HV
      obtain ⟨r, rfl⟩ := Int.eq_ofNat_of_zero_le (show 0 ≤ root by omega)
      go_upto_region 23 with (go_at_call 68; refine (newStore_any _).mono ?_; rintro e w3 ⟨b, F, rfl, hs3, hk3, hF3⟩)
      have hrdR : Rd w2 (.slice A R.length c) 3 R.length (rnsC R) := by
        by_cases h0 : 0 < R.length
        · exact HRD.out h0
        · exact ⟨by cases hx : R with
            | nil => rfl
            | cons _ _ => rw [hx] at h0; simp at h0, A, c, rfl, hc, fun h => absurd h h0⟩
      have hrd3 : Rd w3 (.slice A R.length c) 3 (toN R).length (ndsC (toN R)) := by
        have e : rnsC R = ndsC (toN R) := (congrArg rnsC HBACK.out).trans (rnsC_ofN _)
        rw [← e, HLM.out]
        exact hrdR.kept hk3 fun _ _ h => h
      have hd3 := hd2.keep hk3 (fun h => h)
      have hkw3 := hkw2.trans hk3 fun _ _ h => h
      have x0 : w3.cell? ⟨w.heap.size, 0, none⟩ = some (.int .i64 V) := hd3.cell 0
      have x1 : w3.cell? ⟨w.heap.size, 1, none⟩ = some (.slice A R.length c) := hd3.cell 1
      have x2 : w3.cell? ⟨w.heap.size, 2, none⟩ = some (.int .i64 r) := hd3.cell 2
      have hFw : ¬ F w.heap.size := fun h => by have := hF3 _ h; omega
      have hF3n : ¬ F w3.heap.size := fun h => by have := hs3.lt _ h; omega
      have l3 : w.heap.size < w3.heap.size := hd3.lt
      have hsD := hs3.drew
      have hrD := hrd3.drew
      have hsA : ∀ o, Sto (w3.alloc o).drew b [] (fun _ => none) F := fun o => (hs3.alloc o).drew
      have hrA : ∀ o, Rd (w3.alloc o).drew (.slice A R.length c) 3 (toN R).length (ndsC (toN R)) := fun o => (hrd3.alloc o).drew
      have xd0 : w3.drew.cell? ⟨w.heap.size, 0, none⟩ = some (.int .i64 V) := x0
      have xd1 : w3.drew.cell? ⟨w.heap.size, 1, none⟩ = some (.slice A R.length c) := x1
      have xd2 : w3.drew.cell? ⟨w.heap.size, 2, none⟩ = some (.int .i64 r) := x2
      have xa0 : ∀ o, (w3.alloc o).drew.cell? ⟨w.heap.size, 0, none⟩ = some (.int .i64 V) := fun o => ((Keep.refl NoF w3).alloc o).cellv x0 (fun h => h)
      have xa1 : ∀ o, (w3.alloc o).drew.cell? ⟨w.heap.size, 1, none⟩ = some (.slice A R.length c) := fun o => ((Keep.refl NoF w3).alloc o).cellv x1 (fun h => h)
      have xa2 : ∀ o, (w3.alloc o).drew.cell? ⟨w.heap.size, 2, none⟩ = some (.int .i64 r) := fun o => ((Keep.refl NoF w3).alloc o).cellv x2 (fun h => h)
      have hlr : r < (toN R).length + 2 := by rw [HLM.out]; omega
      have hln : (toN R).length ≤ 4096 := by rw [HLM.out]; omega
      have hAF : 0 < (toN R).length → ∀ k, (Value.slice A R.length c).ownBlock = some k → ¬ F k := fun h0 k hk h => by
        have h1 := HB0.out (by rw [← HLM.out]; exact h0) k hk
        have h2 := hF3 k h
        omega
      have hcl := Dd.visit_bound HG.out hlr
      have hcl : (Dd.canon (toN R) r).2.length ≤ 4096 := by omega
      clear c0 c1 c2 hs3 hrd3
      generalize hCC : Dd.canon (toN R) r = C at *
      have HCC := Lib.hid hCC
      clear hCC
      obtain ⟨C1, C2⟩ := C
      simp only at hcl
      go_cut [9] (fun v9 wc => ∃ cb sl2, v9 = .pointer (some ⟨cb, 0, none⟩) ∧ Bk wc cb 26 #[.int .i64 V, sl2, .int .i64 (C1 : Nat)] ∧ Rd wc sl2 3 C2.length (ndsC C2) ∧ Keep NoF w2 wc)
      case first =>
        go_region_held3 (fun w' => w'.cell? ⟨w.heap.size, 0, none⟩ = some (.int .i64 V) ∧ w'.cell? ⟨w.heap.size, 1, none⟩ = some (.slice A R.length c) ∧ w'.cell? ⟨w.heap.size, 2, none⟩ = some (.int .i64 r))
          (first
            | with_reducible exact ⟨xd0, xd1, xd2⟩
            | with_reducible exact ⟨xa0 _, xa1 _, xa2 _⟩
            | with_reducible exact ⟨y0, y1, y2⟩
            | with_reducible exact ⟨ya0 _, ya1 _, ya2 _⟩
            | with_reducible exact ⟨z0, z1, z2⟩
            | with_reducible exact ⟨za0 _, za1 _, za2 _⟩
            | (go_split_ands
               refine ⟨?_, ?_, ?_⟩
               all_goals exact Keep.cellv ((((Keep.refl (fun x => x ≠ w.heap.size) _).setCell (.inl (by simp; omega)) _).setCell (.inl (by simp; omega)) _).setCell (.inl (by simp; omega)) _) (by first | assumption | exact za0 _ | exact za1 _ | exact za2 _) (by simp)))
          (first
            | (go_at_call 69
               (with_reducible refine (load_rel (b := b) (N := []) (G := fun _ => none) (F := F) hsD Dd.Good.nil (toN R) HG.out V _ r hlr hln (by simp) hrD hAF).mono ?_)
               rintro e w4 ⟨F4, N4, t4, rfl, hs4, L4, hk4, hF4⟩
               have hl4 : N4.length ≤ 1099510000000 := by have := L4.len; simp at this; omega
               have k4 : Keep NoF w2 w4 := by first | exact hk3.drew.trans hk4 fun i hi h => absurd (hF3 i h) (by omega) | exact (hk3.alloc _).drew.trans hk4 fun i hi h => absurd (hF3 i h) (by omega)
               have s4 : w.heap.size < w4.heap.size := by have := hk4.size; simp at this; omega
               have y0 : w4.cell? ⟨w.heap.size, 0, none⟩ = some (.int .i64 V) := hk4.cellv xd0 hFw
               have y1 : w4.cell? ⟨w.heap.size, 1, none⟩ = some (.slice A R.length c) := hk4.cellv xd1 hFw
               have y2 : w4.cell? ⟨w.heap.size, 2, none⟩ = some (.int .i64 r) := hk4.cellv xd2 hFw
               have ya0 : ∀ o, (w4.alloc o).cell? ⟨w.heap.size, 0, none⟩ = some (.int .i64 V) := fun o => ((Keep.refl NoF w4).alloc o).cellv y0 (fun h => h)
               have ya1 : ∀ o, (w4.alloc o).cell? ⟨w.heap.size, 1, none⟩ = some (.slice A R.length c) := fun o => ((Keep.refl NoF w4).alloc o).cellv y1 (fun h => h)
               have ya2 : ∀ o, (w4.alloc o).cell? ⟨w.heap.size, 2, none⟩ = some (.int .i64 r) := fun o => ((Keep.refl NoF w4).alloc o).cellv y2 (fun h => h))
            | (go_at_call 69
               (with_reducible refine (load_rel (b := b) (N := []) (G := fun _ => none) (F := F) (hsA _) Dd.Good.nil (toN R) HG.out V _ r hlr hln (by simp) (hrA _) hAF).mono ?_)
               rintro e w4 ⟨F4, N4, t4, rfl, hs4, L4, hk4, hF4⟩
               have hl4 : N4.length ≤ 1099510000000 := by have := L4.len; simp at this; omega
               have k4 : Keep NoF w2 w4 := by first | exact hk3.drew.trans hk4 fun i hi h => absurd (hF3 i h) (by omega) | exact (hk3.alloc _).drew.trans hk4 fun i hi h => absurd (hF3 i h) (by omega)
               have s4 : w.heap.size < w4.heap.size := by have := hk4.size; simp at this; omega
               have y0 : w4.cell? ⟨w.heap.size, 0, none⟩ = some (.int .i64 V) := hk4.cellv (xa0 _) hFw
               have y1 : w4.cell? ⟨w.heap.size, 1, none⟩ = some (.slice A R.length c) := hk4.cellv (xa1 _) hFw
               have y2 : w4.cell? ⟨w.heap.size, 2, none⟩ = some (.int .i64 r) := hk4.cellv (xa2 _) hFw
               have abk : Bk w4 w3.heap.size 26 #[.int .i64 0, .slice none 0 0, .int .i64 0] := (Bk.drew (Bk.new w3 _ _)).keep hk4 hF3n)
            | (go_at_call 70
               have akk := abk
               (with_reducible refine (export_small (b := b) hs4 L4.good hl4 V _ L4.lt ((L4.canon HG.out hlr).trans HCC.out) hcl).mono ?_)
               rintro e w5 ⟨A2, c2, rfl, hrd5, ho5, hk5⟩
               have k5 : Keep NoF w2 w5 := by first | exact k4.trans hk5 fun _ _ h => h | exact (k4.alloc _).trans hk5 fun _ _ h => h
               have s5 : w.heap.size < w5.heap.size := by have := hk5.size; (try simp at this); omega
               have z0 : w5.cell? ⟨w.heap.size, 0, none⟩ = some (.int .i64 V) := hk5.cellv y0 (fun h => h)
               have z1 : w5.cell? ⟨w.heap.size, 1, none⟩ = some (.slice A R.length c) := hk5.cellv y1 (fun h => h)
               have z2 : w5.cell? ⟨w.heap.size, 2, none⟩ = some (.int .i64 r) := hk5.cellv y2 (fun h => h)
               have bbk : Bk w5 w3.heap.size 26 #[.int .i64 0, .slice none 0 0, .int .i64 0] := akk.keep hk5 (fun h => h)
               have g0 := bbk.cell 0
               have gf0 := bbk.frozen 0
               simp only [List.getElem?_toArray, List.getElem?_cons_zero, List.getElem?_cons_succ] at g0
               have g1 := bbk.cell 1
               have gf1 := bbk.frozen 1
               simp only [List.getElem?_toArray, List.getElem?_cons_zero, List.getElem?_cons_succ] at g1
               have g2 := bbk.cell 2
               have gf2 := bbk.frozen 2
               simp only [List.getElem?_toArray, List.getElem?_cons_zero, List.getElem?_cons_succ] at g2)
            | (go_at_call 70
               (with_reducible refine (export_small (b := b) hs4 L4.good hl4 V _ L4.lt ((L4.canon HG.out hlr).trans HCC.out) hcl).mono ?_)
               rintro e w5 ⟨A2, c2, rfl, hrd5, ho5, hk5⟩
               have k5 : Keep NoF w2 w5 := by first | exact k4.trans hk5 fun _ _ h => h | exact (k4.alloc _).trans hk5 fun _ _ h => h
               have s5 : w.heap.size < w5.heap.size := by have := hk5.size; (try simp at this); omega
               have z0 : w5.cell? ⟨w.heap.size, 0, none⟩ = some (.int .i64 V) := hk5.cellv y0 (fun h => h)
               have z1 : w5.cell? ⟨w.heap.size, 1, none⟩ = some (.slice A R.length c) := hk5.cellv y1 (fun h => h)
               have z2 : w5.cell? ⟨w.heap.size, 2, none⟩ = some (.int .i64 r) := hk5.cellv y2 (fun h => h)
               have za0 : ∀ o, (w5.alloc o).cell? ⟨w.heap.size, 0, none⟩ = some (.int .i64 V) := fun o => ((Keep.refl NoF w5).alloc o).cellv z0 (fun h => h)
               have za1 : ∀ o, (w5.alloc o).cell? ⟨w.heap.size, 1, none⟩ = some (.slice A R.length c) := fun o => ((Keep.refl NoF w5).alloc o).cellv z1 (fun h => h)
               have za2 : ∀ o, (w5.alloc o).cell? ⟨w.heap.size, 2, none⟩ = some (.int .i64 r) := fun o => ((Keep.refl NoF w5).alloc o).cellv z2 (fun h => h))
            | (go_at_call 70
               (with_reducible refine (export_small (b := b) (hs4.alloc _) L4.good hl4 V _ L4.lt ((L4.canon HG.out hlr).trans HCC.out) hcl).mono ?_)
               rintro e w5 ⟨A2, c2, rfl, hrd5, ho5, hk5⟩
               have k5 : Keep NoF w2 w5 := by first | exact k4.trans hk5 fun _ _ h => h | exact (k4.alloc _).trans hk5 fun _ _ h => h
               have s5 : w.heap.size < w5.heap.size := by have := hk5.size; (try simp at this); omega
               have z0 : w5.cell? ⟨w.heap.size, 0, none⟩ = some (.int .i64 V) := hk5.cellv (ya0 _) (fun h => h)
               have z1 : w5.cell? ⟨w.heap.size, 1, none⟩ = some (.slice A R.length c) := hk5.cellv (ya1 _) (fun h => h)
               have z2 : w5.cell? ⟨w.heap.size, 2, none⟩ = some (.int .i64 r) := hk5.cellv (ya2 _) (fun h => h)
               have bbk : Bk w5 w4.heap.size 26 #[.int .i64 0, .slice none 0 0, .int .i64 0] := (Bk.new w4 _ _).keep hk5 (fun h => h)
               have g0 := bbk.cell 0
               have gf0 := bbk.frozen 0
               simp only [List.getElem?_toArray, List.getElem?_cons_zero, List.getElem?_cons_succ] at g0
               have g1 := bbk.cell 1
               have gf1 := bbk.frozen 1
               simp only [List.getElem?_toArray, List.getElem?_cons_zero, List.getElem?_cons_succ] at g1
               have g2 := bbk.cell 2
               have gf2 := bbk.frozen 2
               simp only [List.getElem?_toArray, List.getElem?_cons_zero, List.getElem?_cons_succ] at g2))
        all_goals go_wp2
        all_goals go_meet
        · case rel => exact ⟨w5.heap.size, _, rfl, Bk.new _ _ _, hrd5.alloc _, k5.alloc _⟩
        · case rel =>
            have hb4 : w2.heap.size ≤ w4.heap.size := k4.size
            refine ⟨w4.heap.size, _, rfl, ((bbk.put 0 _).put 1 _).put 2 _, ?_, ((k5.setCell (.inr hb4) _).setCell (.inr hb4) _).setCell (.inr hb4) _⟩
            refine hrd5.keep fun k hk _ => ?_
            have hne : k ≠ w4.heap.size := fun e => by have := ho5 k hk; simp at this; omega
            exact ((Below.heap_setCell _ _ _ k hne).trans (Below.heap_setCell _ _ _ k hne)).trans (Below.heap_setCell _ _ _ k hne)
        · case rel =>
            have hb4 : w2.heap.size ≤ w3.heap.size := hk3.size
            refine ⟨w3.heap.size, _, rfl, ((bbk.put 0 _).put 1 _).put 2 _, ?_, ((k5.setCell (.inr hb4) _).setCell (.inr hb4) _).setCell (.inr hb4) _⟩
            refine hrd5.keep fun k hk _ => ?_
            have hne : k ≠ w3.heap.size := fun e => by have := ho5 k hk; have := akk.lt; omega
            exact ((Below.heap_setCell _ _ _ k hne).trans (Below.heap_setCell _ _ _ k hne)).trans (Below.heap_setCell _ _ _ k hne)
      case rest =>
        obtain ⟨cb, sl2, rfl, hcb, hrdc, hkc⟩ := hcut
        obtain ⟨w6, rfl⟩ : ∃ w6 : World, w6 = wc := ⟨_, rfl⟩
        have hd6 := hd2.keep hkc (fun h => h)
        have hrd6 := hrdR.kept hkc fun _ _ h => h
        have hkw6 : Keep NoF w w6 := hkw2.trans hkc fun _ _ h => h
        obtain ⟨hx2, A2, c2, rfl, hc2, hy2⟩ := hrdc
        have hrdc : Rd w6 (.slice A2 C2.length c2) 3 C2.length (ndsC C2) := ⟨hx2, A2, c2, rfl, hc2, hy2⟩
        clear hx2 hc2 hy2 hd2 hrdR hsD hsA hrD hrA xd0 xd1 xd2 xa0 xa1 xa2 x0 x1 x2 hd3 hkw3 hk3 hF3 hFw
        have x0 : w6.cell? ⟨w.heap.size, 0, none⟩ = some (.int .i64 V) := hd6.cell 0
        have x1 : w6.cell? ⟨w.heap.size, 1, none⟩ = some (.slice A R.length c) := hd6.cell 1
        have x2 : w6.cell? ⟨w.heap.size, 2, none⟩ = some (.int .i64 r) := hd6.cell 2
        have y1 : w6.cell? ⟨cb, 1, none⟩ = some (.slice A2 C2.length c2) := hcb.cell 1
        have y2 : w6.cell? ⟨cb, 2, none⟩ = some (.int .i64 (C1 : Nat)) := hcb.cell 2
        have hslq := slEq_any (Dd.ofN C2) R (.slice A2 C2.length c2) (.slice A R.length c) w6 (by rw [rnsC_ofN, Dd.ofN_len]; exact hrdc) hrd6 (by rw [Dd.ofN_len]; omega) hR
        have HS := Lib.hid hslq
        clear hslq
        by_cases hroot : C1 = r
        · have e1 : ((C1 : Int) != (r : Int)) = false := by simp; omega
          by_cases heq : Dd.ofN C2 = R
          · have h0 : Hid (checkErr V R r = 0) := Lib.hid (by
              rw [HV2.out, Int.toNat_natCast, HCC.out, if_neg (by simp only [ne_eq, Decidable.not_not]; rw [hroot, ← heq, Dd.toN_ofN])])
            have hde : decide (Dd.ofN C2 = R) = true := decide_eq_true heq
            rw [hde] at HS
            clear heq hroot hde
            go_wp2_with (go_at_call 74; (with_reducible refine HS.out.mono ?_); rintro e w7 ⟨rfl, hk7⟩)
            go_ret
            exact ⟨by rw [h0.out]; rfl, hkw6.trans hk7 fun _ _ h => h⟩
          · have h0 : Hid (checkErr V R r = 16) := Lib.hid (by
              rw [HV2.out, Int.toNat_natCast, HCC.out, if_pos (fun h => heq (by
                simp only [Prod.mk.injEq] at h
                rw [h.2]; exact HBACK.out.symm))])
            have hde : decide (Dd.ofN C2 = R) = false := decide_eq_false heq
            rw [hde] at HS
            clear heq hroot hde
            go_wp2_with (go_at_call 74; (with_reducible refine HS.out.mono ?_); rintro e w7 ⟨rfl, hk7⟩)
            go_ret
            exact ⟨by rw [h0.out]; rfl, hkw6.trans hk7 fun _ _ h => h⟩
        · have e1 : ((C1 : Int) != (r : Int)) = true := by simp; omega
          have h0 : Hid (checkErr V R r = 16) := Lib.hid (by
            rw [HV2.out, Int.toNat_natCast, HCC.out, if_pos (fun h => hroot (by simp only [Prod.mk.injEq] at h; exact h.1))])
          clear hroot
          go_wp2
          go_ret
          exact ⟨by rw [h0.out]; rfl, hkw6⟩
end Go.Proofs.YtgdmcidcappkpaaDoor
namespace Go.Proofs.YtgdmcidcappkpaaDoor
open Go.RowKit
open Dd (Rn rat ofN toN checkErr IteRel MemoOk den)

abbrev BF := (Nat → Bool) → Bool
/-- What an operation leaves in the store. -/
structure OpRel (N : List Nd) (φ : BF) (r : Nat) (N' : List Nd) (G' : Nd → Option Nat) : Prop where
  pre : N <+: N'
  good : Dd.Good N'
  memo : MemoOk N' G'
  lt : r < N'.length + 2
  den : ∀ ρ, Dd.den N' r ρ = φ ρ
  len : N'.length ≤ 1099000000000

theorem OpRel.of_ite {N N' : List Nd} {a b c r : Nat} {G' : Nd → Option Nat} (h : IteRel N a b c r N' G') {φ : BF} (hφ : ∀ ρ, (if Dd.den N a ρ then Dd.den N b ρ else Dd.den N c ρ) = φ ρ) (hN : N.length ≤ 1000000000000) : OpRel N φ r N' G' :=
  ⟨h.pre, h.good, h.memo, h.lt, fun ρ => by rw [h.den, hφ], by
    have := h.len
    have : 2 ^ (24 - min (Dd.var N a) (min (Dd.var N b) (Dd.var N c))) ≤ 2 ^ 24 := Nat.pow_le_pow_right (by omega) (by omega)
    omega⟩

/-- A closure (function f with the captured values cap) does the operation σ on k numbers, in every world that has what w0 has. -/
def OpSem (w0 : World) (f : Nat) (cap : Array Value) (k : Nat) (σ : List BF → BF) : Prop :=
  ∀ (w : World) (b : Nat) (N : List Nd) (G : Nd → Option Nat) (F : Nat → Prop) (xs : Value) (ts : List Nat), Below w0.heap.size w0 w → Sto w b N G F → Dd.Good N → MemoOk N G → ts.length = k → Rd w xs 1 k (ts.map inV) → (∀ x, F x → w0.heap.size ≤ x) →
    (∀ t ∈ ts, t < N.length + 2) → N.length ≤ 100000 → (∀ x, xs.ownBlock = some x → ¬ F x) →
    Calls Tryd.prog f (#[.pointer (some ⟨b, 0, none⟩), xs] ++ cap) w (StoPost b F w (fun r N' G' => OpRel N (σ (ts.map (den N))) r N' G'))

theorem rd_cells {w : World} {xs : Value} {k : Nat} {ts : List Nat} (h : Rd w xs 1 k (ts.map inV)) (hk : 0 < k) : ∃ bl off c, xs = .slice (some ⟨bl, off, none⟩) k c ∧ k ≤ c ∧ ∀ j t, ts[j]? = some t → w.cell? ⟨bl, off + j, none⟩ = some (.int .i64 (t : Nat)) := by
  obtain ⟨_, A, c, rfl, hc, h2⟩ := h
  obtain ⟨bl, off, rfl, hcell⟩ := h2 hk
  exact ⟨bl, off, c, rfl, hc, fun j t ht => hcell j _ (by simp [ht, inV])⟩

theorem post_drew {b : Nat} {F : Nat → Prop} {w : World} {R : Nat → List Nd → (Nd → Option Nat) → Prop} {e : Ending} {w' : World} (h : StoPost b F w.drew R e w') : StoPost b F w R e w' := by
  obtain ⟨F', N', G', r, he, hs, hR, hk, hF⟩ := h
  exact ⟨F', N', G', r, he, hs, hR, hk.undrew, hF⟩

def notSem : List BF → BF := fun l ρ => !(l.getD 0 (fun _ => false)) ρ
set_option maxRecDepth 100000 in
theorem not_sem (w0 : World) : OpSem w0 53 #[] 1 notSem := by
  intro w b N G F xs ts _ hs hg hm hlen hrd _ hts hN hx
  obtain ⟨x, rfl⟩ : ∃ x, ts = [x] := by
    match ts, hlen with
    | [x], _ => exact ⟨x, rfl⟩
  obtain ⟨bl, off, c, rfl, hc, hcell⟩ := rd_cells hrd (by omega)
  have c0 : w.cell? ⟨bl, off + 0, none⟩ = some (.int .i64 x) := hcell 0 x rfl
  simp only [Nat.add_zero] at c0
  have hx1 := hts x (by simp)
  have hbF := hx bl rfl
  have HI : Hid (Calls Tryd.prog 54 #[.pointer (some ⟨b, 0, none⟩), .int .i64 x, .int .i64 0, .int .i64 1] w (StoPost b F w (fun r N' G' => IteRel N x 0 1 r N' G'))) := Lib.hid (ite_any hs hg hm x 0 1 hx1 (by omega) (by omega) (by omega))
  refine Calls.mono (R := StoPost b F w (fun r N' G' => IteRel N x 0 1 r N' G')) ?_ fun e w' ⟨F', N', G', r, he, hs', hR, hk, hF⟩ => ⟨F', N', G', r, he, hs', OpRel.of_ite hR (fun ρ => by simp [notSem]; try (cases den N x ρ <;> simp)) (by omega), hk, hF⟩
  clear hs hrd hcell hts hx hlen
  show Calls Tryd.prog 53 #[.pointer (some ⟨b, 0, none⟩), .slice (some ⟨bl, off, none⟩) 1 c] w _
  have d0 : w.cell? ⟨bl, off, none⟩ = some (.int .i64 x) := c0
  go_enter Tryd.func53, Tryd.ntmps53
  go_wp2_with (go_at_call 54
               (with_reducible refine HI.out.mono ?_)
               rintro e w1 ⟨F1, N1, G1, r, rfl, hs1, hR, hk1, hF1⟩)
  go_ret
  exact ⟨F1, N1, G1, r, rfl, hs1, hR, hk1, hF1⟩

def andSem : List BF → BF := fun l ρ => (l.getD 0 (fun _ => false)) ρ && (l.getD 1 (fun _ => false)) ρ
set_option maxRecDepth 100000 in
theorem and_sem (w0 : World) : OpSem w0 56 #[] 2 andSem := by
  intro w b N G F xs ts _ hs hg hm hlen hrd _ hts hN hx
  obtain ⟨x, y, rfl⟩ : ∃ x y, ts = [x, y] := by
    match ts, hlen with
    | [x, y], _ => exact ⟨x, y, rfl⟩
  obtain ⟨bl, off, c, rfl, hc, hcell⟩ := rd_cells hrd (by omega)
  have c0 : w.cell? ⟨bl, off + 0, none⟩ = some (.int .i64 x) := hcell 0 x rfl
  have c1 : w.cell? ⟨bl, off + 1, none⟩ = some (.int .i64 y) := hcell 1 y rfl
  simp only [Nat.add_zero] at c0
  have hx1 := hts x (by simp)
  have hy1 := hts y (by simp)
  have hbF := hx bl rfl
  have HI : Hid (Calls Tryd.prog 54 #[.pointer (some ⟨b, 0, none⟩), .int .i64 x, .int .i64 y, .int .i64 0] w.drew (StoPost b F w.drew (fun r N' G' => IteRel N x y 0 r N' G'))) := Lib.hid (ite_any hs.drew hg hm x y 0 hx1 hy1 (by omega) (by omega))
  refine Calls.mono (R := StoPost b F w (fun r N' G' => IteRel N x y 0 r N' G')) ?_ fun e w' ⟨F', N', G', r, he, hs', hR, hk, hF⟩ => ⟨F', N', G', r, he, hs', OpRel.of_ite hR (fun ρ => by simp [andSem]; try (cases den N x ρ <;> simp)) (by omega), hk, hF⟩
  clear hs hrd hcell hts hx hlen
  show Calls Tryd.prog 56 #[.pointer (some ⟨b, 0, none⟩), .slice (some ⟨bl, off, none⟩) 2 c] w _
  have d0 : w.drew.cell? ⟨bl, off, none⟩ = some (.int .i64 x) := c0
  have d1 : w.drew.cell? ⟨bl, off + 1, none⟩ = some (.int .i64 y) := c1
  go_enter Tryd.func56, Tryd.ntmps56
  go_wp2
  go_region_held3 (fun w' => w'.cell? ⟨bl, off, none⟩ = some (.int .i64 x) ∧ w'.cell? ⟨bl, off + 1, none⟩ = some (.int .i64 y))
    (first | with_reducible exact ⟨d0, d1⟩ | with_reducible exact ⟨e0, e1⟩)
    ((go_at_call 54
      (with_reducible refine HI.out.mono ?_)
      rintro e w1 ⟨F1, N1, G1, r, rfl, hs1, hR, hk1, hF1⟩
      have e0 : w1.cell? ⟨bl, off, none⟩ = some (.int .i64 x) := hk1.cellv d0 hbF
      have e1 : w1.cell? ⟨bl, off + 1, none⟩ = some (.int .i64 y) := hk1.cellv d1 hbF))
  go_wp2
  go_ret
  exact ⟨F1, N1, G1, r, rfl, hs1, hR, hk1.undrew, hF1⟩

def orSem : List BF → BF := fun l ρ => (l.getD 0 (fun _ => false)) ρ || (l.getD 1 (fun _ => false)) ρ
set_option maxRecDepth 100000 in
theorem or_sem (w0 : World) : OpSem w0 57 #[] 2 orSem := by
  intro w b N G F xs ts _ hs hg hm hlen hrd _ hts hN hx
  obtain ⟨x, y, rfl⟩ : ∃ x y, ts = [x, y] := by
    match ts, hlen with
    | [x, y], _ => exact ⟨x, y, rfl⟩
  obtain ⟨bl, off, c, rfl, hc, hcell⟩ := rd_cells hrd (by omega)
  have c0 : w.cell? ⟨bl, off + 0, none⟩ = some (.int .i64 x) := hcell 0 x rfl
  have c1 : w.cell? ⟨bl, off + 1, none⟩ = some (.int .i64 y) := hcell 1 y rfl
  simp only [Nat.add_zero] at c0
  have hx1 := hts x (by simp)
  have hy1 := hts y (by simp)
  have hbF := hx bl rfl
  have HI : Hid (Calls Tryd.prog 54 #[.pointer (some ⟨b, 0, none⟩), .int .i64 x, .int .i64 1, .int .i64 y] w.drew (StoPost b F w.drew (fun r N' G' => IteRel N x 1 y r N' G'))) := Lib.hid (ite_any hs.drew hg hm x 1 y hx1 (by omega) hy1 (by omega))
  refine Calls.mono (R := StoPost b F w (fun r N' G' => IteRel N x 1 y r N' G')) ?_ fun e w' ⟨F', N', G', r, he, hs', hR, hk, hF⟩ => ⟨F', N', G', r, he, hs', OpRel.of_ite hR (fun ρ => by simp [orSem]; try (cases den N x ρ <;> simp)) (by omega), hk, hF⟩
  clear hs hrd hcell hts hx hlen
  show Calls Tryd.prog 57 #[.pointer (some ⟨b, 0, none⟩), .slice (some ⟨bl, off, none⟩) 2 c] w _
  have d0 : w.drew.cell? ⟨bl, off, none⟩ = some (.int .i64 x) := c0
  have d1 : w.drew.cell? ⟨bl, off + 1, none⟩ = some (.int .i64 y) := c1
  go_enter Tryd.func57, Tryd.ntmps57
  go_wp2
  go_region_held3 (fun w' => w'.cell? ⟨bl, off, none⟩ = some (.int .i64 x) ∧ w'.cell? ⟨bl, off + 1, none⟩ = some (.int .i64 y))
    (first | with_reducible exact ⟨d0, d1⟩ | with_reducible exact ⟨e0, e1⟩)
    ((go_at_call 54
      (with_reducible refine HI.out.mono ?_)
      rintro e w1 ⟨F1, N1, G1, r, rfl, hs1, hR, hk1, hF1⟩
      have e0 : w1.cell? ⟨bl, off, none⟩ = some (.int .i64 x) := hk1.cellv d0 hbF
      have e1 : w1.cell? ⟨bl, off + 1, none⟩ = some (.int .i64 y) := hk1.cellv d1 hbF))
  go_wp2
  go_ret
  exact ⟨F1, N1, G1, r, rfl, hs1, hR, hk1.undrew, hF1⟩

def ite3Sem : List BF → BF := fun l ρ => if (l.getD 0 (fun _ => false)) ρ then (l.getD 1 (fun _ => false)) ρ else (l.getD 2 (fun _ => false)) ρ
set_option maxRecDepth 100000 in
theorem ite3_sem (w0 : World) : OpSem w0 81 #[] 3 ite3Sem := by
  intro w b N G F xs ts _ hs hg hm hlen hrd _ hts hN hx
  obtain ⟨x, y, z, rfl⟩ : ∃ x y z, ts = [x, y, z] := by
    match ts, hlen with
    | [x, y, z], _ => exact ⟨x, y, z, rfl⟩
  obtain ⟨bl, off, c, rfl, hc, hcell⟩ := rd_cells hrd (by omega)
  have c0 : w.cell? ⟨bl, off + 0, none⟩ = some (.int .i64 x) := hcell 0 x rfl
  have c1 : w.cell? ⟨bl, off + 1, none⟩ = some (.int .i64 y) := hcell 1 y rfl
  have c2 : w.cell? ⟨bl, off + 2, none⟩ = some (.int .i64 z) := hcell 2 z rfl
  simp only [Nat.add_zero] at c0
  have hx1 := hts x (by simp)
  have hy1 := hts y (by simp)
  have hz1 := hts z (by simp)
  have hbF := hx bl rfl
  have HI : Hid (Calls Tryd.prog 54 #[.pointer (some ⟨b, 0, none⟩), .int .i64 x, .int .i64 y, .int .i64 z] w.drew (StoPost b F w.drew (fun r N' G' => IteRel N x y z r N' G'))) := Lib.hid (ite_any hs.drew hg hm x y z hx1 hy1 hz1 (by omega))
  refine Calls.mono (R := StoPost b F w (fun r N' G' => IteRel N x y z r N' G')) ?_ fun e w' ⟨F', N', G', r, he, hs', hR, hk, hF⟩ => ⟨F', N', G', r, he, hs', OpRel.of_ite hR (fun ρ => by simp [ite3Sem]; try (cases den N x ρ <;> simp)) (by omega), hk, hF⟩
  clear hs hrd hcell hts hx hlen
  show Calls Tryd.prog 81 #[.pointer (some ⟨b, 0, none⟩), .slice (some ⟨bl, off, none⟩) 3 c] w _
  have d0 : w.drew.cell? ⟨bl, off, none⟩ = some (.int .i64 x) := c0
  have d1 : w.drew.cell? ⟨bl, off + 1, none⟩ = some (.int .i64 y) := c1
  have d2 : w.drew.cell? ⟨bl, off + 2, none⟩ = some (.int .i64 z) := c2
  go_enter Tryd.func81, Tryd.ntmps81
  go_wp2
  go_region_held3 (fun w' => w'.cell? ⟨bl, off, none⟩ = some (.int .i64 x) ∧ w'.cell? ⟨bl, off + 1, none⟩ = some (.int .i64 y) ∧ w'.cell? ⟨bl, off + 2, none⟩ = some (.int .i64 z))
    (first | with_reducible exact ⟨d0, d1, d2⟩ | with_reducible exact ⟨e0, e1, e2⟩)
    ((go_at_call 54
      (with_reducible refine HI.out.mono ?_)
      rintro e w1 ⟨F1, N1, G1, r, rfl, hs1, hR, hk1, hF1⟩
      have e0 : w1.cell? ⟨bl, off, none⟩ = some (.int .i64 x) := hk1.cellv d0 hbF
      have e1 : w1.cell? ⟨bl, off + 1, none⟩ = some (.int .i64 y) := hk1.cellv d1 hbF
      have e2 : w1.cell? ⟨bl, off + 2, none⟩ = some (.int .i64 z) := hk1.cellv d2 hbF))
  go_wp2
  go_ret
  exact ⟨F1, N1, G1, r, rfl, hs1, hR, hk1.undrew, hF1⟩

end Go.Proofs.YtgdmcidcappkpaaDoor
namespace Go.Proofs.YtgdmcidcappkpaaDoor
open Go.RowKit
open Dd (Rn rat ofN toN checkErr MemoOk den canon)

/-- A diagram that comes in. -/
structure Dg where
  V : Int
  R : List Rn
  root : Int
  sl : Value
def Dg.cells (d : Dg) : List Value := [.int .i64 d.V, d.sl, .int .i64 d.root]
def Dg.err (d : Dg) : Int := checkErr d.V d.R d.root
def Dg.fn (d : Dg) : BF := den (toN d.R) d.root.toNat
def Dg.In (d : Dg) (w : World) : Prop := Rd w d.sl 3 d.R.length (rnsC d.R) ∧ d.R.length ≤ 1000000000000
def dgErr : List Dg → Int
  | [] => 0
  | d :: l => if d.err ≠ 0 then d.err else dgErr l
def opErr (V : Int) (l : List Dg) : Int := if dgErr l ≠ 0 then dgErr l else if l.all (fun d => decide (d.V = V)) then 0 else 3

theorem dgErr_stop {d : Dg} (h : d.err ≠ 0) : ∀ (k : Nat) (l : List Dg), l[k]? = some d → dgErr (l.take k) = 0 → dgErr l = d.err := by
  intro k
  induction k with
  | zero => intro l hl _; cases l with
    | nil => simp at hl
    | cons a l => simp at hl; subst hl; simp [dgErr, h]
  | succ k ih => intro l hl h0; cases l with
    | nil => simp at hl
    | cons a l =>
      simp only [List.getElem?_cons_succ] at hl
      simp only [List.take_succ_cons, dgErr] at h0 ⊢
      by_cases ha : a.err ≠ 0
      · rw [if_pos ha] at h0; exact (ha h0).elim
      · rw [if_neg ha] at h0 ⊢; exact ih l hl h0
theorem dgErr_go {d : Dg} (h : d.err = 0) : ∀ (k : Nat) (l : List Dg), l[k]? = some d → dgErr (l.take k) = 0 → dgErr (l.take (k + 1)) = 0 := by
  intro k
  induction k with
  | zero => intro l hl _; cases l with
    | nil => simp at hl
    | cons a l => simp at hl; subst hl; simp [dgErr, h]
  | succ k ih => intro l hl h0; cases l with
    | nil => simp at hl
    | cons a l =>
      simp only [List.getElem?_cons_succ] at hl
      rw [List.take_succ_cons] at h0 ⊢
      simp only [dgErr] at h0 ⊢
      by_cases ha : a.err ≠ 0
      · rw [if_pos ha] at h0; exact (ha h0).elim
      · rw [if_neg ha] at h0 ⊢; exact ih l hl h0
theorem dgErr_zero {l : List Dg} (h : dgErr l = 0) {k : Nat} {d : Dg} (hk : l[k]? = some d) : d.err = 0 := by
  induction l generalizing k with
  | nil => simp at hk
  | cons a l ih =>
    simp only [dgErr] at h
    by_cases ha : a.err ≠ 0
    · rw [if_pos ha] at h; exact (ha h).elim
    · rw [if_neg ha] at h
      cases k with
      | zero => simp at hk; subst hk; simpa using ha
      | succ k => exact ih h (by simpa using hk)
theorem dgs_at (l : List Dg) (i : Nat) (d : Dg) (h : l[i]? = some d) : (l.flatMap Dg.cells)[i * 3]? = some (.int .i64 d.V) ∧ (l.flatMap Dg.cells)[i * 3 + 1]? = some d.sl ∧ (l.flatMap Dg.cells)[i * 3 + 2]? = some (.int .i64 d.root) := by
  induction l generalizing i with
  | nil => simp at h
  | cons m l ih =>
    cases i with
    | zero =>
      simp at h
      subst h
      simp [Dg.cells]
    | succ i =>
      have := ih i (by simpa using h)
      have e : ∀ j, ((m :: l).flatMap Dg.cells)[(i + 1) * 3 + j]? = (l.flatMap Dg.cells)[i * 3 + j]? := fun j => by
        simp only [List.flatMap_cons]
        rw [List.getElem?_append_right (by simp [Dg.cells]; omega)]
        congr 1
        simp [Dg.cells]; omega
      have e0 := e 0
      simp only [Nat.add_zero] at e0
      rw [e0, e, e]
      exact this

/-- What an operation on diagrams hands back. -/
def OpPost (w : World) (V : Int) (ds : List Dg) (σ : List BF → BF) (e : Ending) (w' : World) : Prop :=
  (opErr V ds ≠ 0 → e = .returned (.tuple #[dgZero, .int .i64 (opErr V ds)])) ∧
  (opErr V ds = 0 → ∃ N t, Dd.Good N ∧ t < N.length + 2 ∧ (∀ ρ, den N t ρ = σ (ds.map Dg.fn) ρ) ∧ DgRes w.heap.size V (canon N t) e w') ∧ Keep NoF w w'

/-- The same as DgRes, in one piece. -/
def DgOut (H : Nat) (V : Int) (c : Nat × List Nd) (V' r' err : Int) (A : Option Addr) (n cc : Nat) (w' : World) : Prop :=
  DgRes H V c (.returned (.tuple #[.agg #[.int .i64 V', .slice A n cc, .int .i64 r'], .int .i64 err])) w'
theorem DgRes.out {H : Nat} {V : Int} {c : Nat × List Nd} {e : Ending} {w' : World} (h : DgRes H V c e w') : ∃ V' r' err A n cc, e = .returned (.tuple #[.agg #[.int .i64 V', .slice A n cc, .int .i64 r'], .int .i64 err]) ∧ DgOut H V c V' r' err A n cc w' := by
  rcases h with ⟨h1, rfl⟩ | ⟨h1, sl, rfl, h2, h3⟩
  · exact ⟨_, _, _, _, _, _, rfl, .inl ⟨h1, rfl⟩⟩
  · obtain ⟨hx, A, cc, rfl, hc, hh⟩ := h2
    exact ⟨_, _, _, _, _, _, rfl, .inr ⟨h1, _, rfl, ⟨hx, A, cc, rfl, hc, hh⟩, h3⟩⟩
theorem DgRes.move {H H' : Nat} {V : Int} {c : Nat × List Nd} {e : Ending} {w1 w' : World} (h : DgRes H V c e w1) (hH : H' ≤ H) (hk : ∀ k, H ≤ k → w'.heap[k]? = w1.heap[k]?) : DgRes H' V c e w' := by
  rcases h with ⟨h1, rfl⟩ | ⟨h1, sl, rfl, h2, h3⟩
  · exact .inl ⟨h1, rfl⟩
  · exact .inr ⟨h1, sl, rfl, h2.keep fun k hs _ => hk k (h3 k hs), fun k hs => Nat.le_trans hH (h3 k hs)⟩

/-- The head of operate's second loop. -/
def OpLoop (b rc : Nat) (V : Int) (ds : List Dg) (W0 : World) (k : Nat) (xv : Value) (wr : World) : Prop :=
  k ≤ ds.length ∧ ∃ (N : List Nd) (F' : Nat → Prop) (ts : List Nat), ts.length = k ∧ Sto wr b N (fun _ => none) F' ∧ Dd.Good N ∧ N.length ≤ k * 4096 ∧ wr.ownsRow W0.heap.size 3 1 xv k (ts.map inV) ∧ Keep NoF W0 wr ∧
    (∀ x, F' x → W0.heap.size ≤ x) ∧ (∀ t ∈ ts, t < N.length + 2) ∧ ts.map (den N) = (ds.take k).map Dg.fn ∧ ((ds.take k).all (fun d => decide (d.V = V)) = true) ∧ (∀ x, xv.ownBlock = some x → ¬ F' x)

set_option maxRecDepth 100000 in
set_option maxHeartbeats 2000000 in
theorem operate_any (f : Nat) (cap : Array Value) (σ : List BF → BF) (w : World) (V : Int) (ds : List Dg) (lv : Value) (hcf : ∀ args w', (callFunc f args).run Tryd.prog w' = .ok (.enter f args) w') (hop : OpSem w f cap ds.length σ) (hV : ∃ d0, ds[0]? = some d0 ∧ d0.V = V) (hn : ds.length ≤ 3)
    (hrd : Rd w lv 3 ds.length (ds.flatMap Dg.cells)) (hin : ∀ (i : Nat) d, ds[i]? = some d → d.In w) :
    Calls Tryd.prog 52 #[.func (.func f) #[] cap, lv] w (OpPost w V ds σ) := by
  have HOP := Lib.hid hop
  have HIN := Lib.hid hin
  have HRD := Lib.hid hrd
  clear hop hin
  obtain ⟨d0, h0, hV0⟩ := hV
  have hpos : 0 < ds.length := by cases ds with | nil => simp at h0 | cons _ _ => simp
  obtain ⟨_, A, c, rfl, hc, hy⟩ := hrd
  obtain ⟨lb, lo, rfl, hcell⟩ := hy hpos
  have hlb : lb < w.heap.size := HRD.out.blk_lt hpos (by omega) lb rfl
  have v0 : w.cell? ⟨lb, lo, none⟩ = some (.int .i64 V) := by
    have := hcell _ _ (dgs_at ds 0 d0 h0).1
    rw [hV0] at this
    simpa using this
  clear h0 hV0 hcell hy
  go_enter Tryd.func52, Tryd.ntmps52
  go_upto_block 0 with (fail)
  have hz0 := Bk.new w 26 #[.int .i64 0, .slice none 0 0, .int .i64 0]
  have hk0 : Keep NoF w (w.alloc (.cells #[.int .i64 0, .slice none 0 0, .int .i64 0] 26)) := (Keep.refl _ _).alloc _
  have hzs : (w.alloc (.cells #[.int .i64 0, .slice none 0 0, .int .i64 0] 26)).heap.size = w.heap.size + 1 := by simp
  have HRD0 : Hid (Rd (w.alloc (.cells #[.int .i64 0, .slice none 0 0, .int .i64 0] 26)) (.slice (some ⟨lb, lo, none⟩) ds.length c) 3 ds.length (ds.flatMap Dg.cells)) := Lib.hid (HRD.out.kept hk0 fun _ _ h => h)
  have HIN0 : Hid (∀ (i : Nat) d, ds[i]? = some d → d.In (w.alloc (.cells #[.int .i64 0, .slice none 0 0, .int .i64 0] 26))) := Lib.hid fun i d h => ⟨(HIN.out i d h).1.kept hk0 fun _ _ h => h, (HIN.out i d h).2⟩
  generalize w.alloc (.cells #[.int .i64 0, .slice none 0 0, .int .i64 0] 26) = W0 at *
  go_cut [] (fun wc => dgErr ds = 0 ∧ Keep NoF W0 wc)
  case first =>
    go_wp2
    go_loopw [15] (fun i wr => ∃ k : Nat, i = .int .i64 k ∧ k ≤ ds.length ∧ dgErr (ds.take k) = 0 ∧ Keep NoF W0 wr) (fun i _ => ds.length - (intOf i).toNat)
    case atStart => exact ⟨0, rfl, by omega, rfl, Keep.refl _ _⟩
    case round =>
      obtain ⟨k, rfl, hk, hz, hkr⟩ := hrel
      have HZ := Lib.hid hz
      clear hz
      by_cases hlt : k < ds.length
      · have hdk : ds[k]? = some ds[k] := List.getElem?_eq_getElem hlt
        obtain ⟨hdr, hdl⟩ := HIN0.out k _ hdk
        obtain ⟨_, _, bl, off, hA, hcell⟩ := (HRD0.out.kept hkr fun _ _ h => h).at_ hpos
        obtain ⟨rfl, rfl⟩ : lb = bl ∧ lo = off := by simpa using hA
        obtain ⟨c1, c2, c3⟩ := dgs_at ds k _ hdk
        have d1 := hcell _ _ c1
        have d2 := hcell _ _ c2
        have d3 := hcell _ _ c3
        simp only [← Nat.add_assoc] at d2 d3
        have HDK := Lib.hid hdk
        clear hdk c1 c2 c3 hcell hA
        generalize ds[k] = d at *
        obtain ⟨dV, dR, droot, dsl⟩ := d
        simp only at d1 d2 d3 hdr hdl
        have hdr2 := hdr
        obtain ⟨_, A2, cc2, rfl, _, _⟩ := hdr2
        have hs := check_any dV dR droot (.slice A2 dR.length cc2) (wr.alloc (.cells #[.int .i64 dV, .slice A2 dR.length cc2, .int .i64 droot] 26)) hdl ((hdr.kept hkr fun _ _ h => h).alloc _)
        have HS := Lib.hid hs
        clear hs hdr hdl
        have z0 : wr.cell? ⟨w.heap.size, 0, none⟩ = some (.int .i64 0) := (hz0.keep hkr (fun h => h)).cell 0
        have z1 : wr.cell? ⟨w.heap.size, 1, none⟩ = some (.slice none 0 0) := (hz0.keep hkr (fun h => h)).cell 1
        have z2 : wr.cell? ⟨w.heap.size, 2, none⟩ = some (.int .i64 0) := (hz0.keep hkr (fun h => h)).cell 2
        generalize hne : checkErr dV dR droot = ne at *
        have HNE := Lib.hid hne
        clear hne
        by_cases h0 : ne = 0
        · subst h0
          go_wp2_with (go_at_call 60; (with_reducible refine HS.out.mono ?_); rintro e w1 ⟨rfl, hk1⟩)
          go_roundw
          case rel => exact ⟨k + 1, by go_num, by omega, dgErr_go (d := ⟨dV, dR, droot, _⟩) HNE.out k ds HDK.out HZ.out, (hkr.alloc _).trans hk1 fun _ _ h => h⟩
          case measure => simp [intOf]; omega
        · have hne0 : (ne != 0) = true := by simpa using h0
          have hbk := hz0.keep hkr (fun h => h)
          go_wp2_with (go_at_call 60
                       (with_reducible refine HS.out.mono ?_)
                       rintro e w1 ⟨rfl, hk1⟩
                       have hb1 := (hbk.alloc (.cells #[.int .i64 dV, .slice A2 dR.length cc2, .int .i64 droot] 26)).keep hk1 (fun h => h)
                       have y0 : w1.cell? ⟨w.heap.size, 0, none⟩ = some (.int .i64 0) := hb1.cell 0
                       have y1 : w1.cell? ⟨w.heap.size, 1, none⟩ = some (.slice none 0 0) := hb1.cell 1
                       have y2 : w1.cell? ⟨w.heap.size, 2, none⟩ = some (.int .i64 0) := hb1.cell 2
                       have f0 := hb1.frozen 0
                       have f1 := hb1.frozen 1
                       have f2 := hb1.frozen 2)
          have hds := dgErr_stop (d := ⟨dV, dR, droot, .slice A2 dR.length cc2⟩) (by show checkErr dV dR droot ≠ 0; rw [HNE.out]; exact h0) k ds HDK.out HZ.out
          have hoe : opErr V ds = ne := by
            unfold opErr
            rw [hds]
            show (if checkErr dV dR droot ≠ 0 then checkErr dV dR droot else _) = ne
            rw [HNE.out, if_pos h0]
          refine bodyPost_ret (v := .tuple #[dgZero, .int .i64 ne]) (by simp [results, Tryd.results52, go_sem, dgZero, y0, y1, y2]) rfl ⟨fun _ => by rw [hoe], fun h => absurd (hoe.symm.trans h) h0, ?_⟩
          exact (((((hk0.trans hkr fun _ _ h => h).alloc _).trans hk1 fun _ _ h => h).setCell (.inr (by simp)) _).setCell (.inr (by simp)) _).setCell (.inr (by simp)) _
      · go_wp2
        go_meet
        case rel =>
          have e : k = ds.length := by omega
          have := HZ.out
          rw [e, List.take_length] at this
          exact ⟨this, hkr⟩
  case rest =>
    obtain ⟨hf, hkc⟩ := hcut
    obtain ⟨wa, rfl⟩ : ∃ wa : World, wa = wc := ⟨_, rfl⟩
    have HF := Lib.hid hf
    clear hf
    go_wp2_with (go_at_call 68; refine (newStore_any _).mono ?_; rintro e w2 ⟨b, F, rfl, hs2, hk2, hF2⟩)
    have hkw : Keep NoF W0 w2 := hkc.trans hk2 fun _ _ h => h
    have hFW : ∀ x, F x → W0.heap.size ≤ x := fun x hx => Nat.le_trans hkc.size (hF2 x hx)
    clear hk2 hF2 hkc
    go_loopw [10, 29] (fun xv i wr => ∃ k : Nat, i = .int .i64 k ∧ OpLoop b w.heap.size V ds W0 k xv wr) (fun _ i _ => ds.length - (intOf i).toNat)
    case atStart => exact ⟨0, rfl, by omega, [], F, [], rfl, hs2, Dd.Good.nil, by simp, World.ownsRow_nil _ _ _ _, hkw, hFW, by simp, by simp, by simp, by simp [Value.ownBlock]⟩
    case round =>
      obtain ⟨k, rfl, hk, N, F', ts, hlen, hsk, hg, hNl, hown, hkk, hFF, htl, hden, hVs, hxF⟩ := hrel
      by_cases hlt : k < ds.length
      · have hdk : ds[k]? = some ds[k] := List.getElem?_eq_getElem hlt
        obtain ⟨hdr, hdl⟩ := HIN0.out k _ hdk
        have hdr1 := HIN.out k _ hdk
        obtain ⟨_, _, bl, off, hA, hcell⟩ := (HRD0.out.kept hkk fun _ _ h => h).at_ hpos
        obtain ⟨rfl, rfl⟩ : lb = bl ∧ lo = off := by simpa using hA
        obtain ⟨c1, c2, c3⟩ := dgs_at ds k _ hdk
        have d1 := hcell _ _ c1
        have d2 := hcell _ _ c2
        have d3 := hcell _ _ c3
        simp only [← Nat.add_assoc] at d2 d3
        have htk : ds.take (k + 1) = ds.take k ++ [ds[k]] := by rw [List.take_add_one, hdk]; rfl
        have HTK := Lib.hid htk
        have hz := dgErr_zero HF.out hdk
        have hmem : ds[k] ∈ ds := List.getElem_mem hlt
        clear hdk c1 c2 c3 hcell hA htk
        generalize ds[k] = d at *
        obtain ⟨dV, dR, droot, dsl⟩ := d
        obtain ⟨v, M, r, e1, e2, e3, hval⟩ := Dd.valid_of (show checkErr dV dR droot = 0 from hz)
        simp only at d1 d2 d3 hdr hdl hdr1 e1 e2 e3
        subst e1 e2 e3
        have hdr2 := hdr
        obtain ⟨_, A2, cc2, hA2, _, _⟩ := hdr2
        subst hA2
        have hb1 : ∀ x, 0 < M.length → (Value.slice A2 (ofN M).length cc2).ownBlock = some x → x < w.heap.size := fun x h0 hx => hdr1.1.blk_lt (by rw [Dd.ofN_len]; exact h0) (by omega) x hx
        rw [Dd.ofN_len] at d2 hdr hb1
        rw [rnsC_ofN] at hdr
        have v1 : wr.cell? ⟨lb, lo, none⟩ = some (.int .i64 V) := hkk.cellv (hk0.cellv v0 (fun h => h)) (fun h => h)
        have z0 : wr.cell? ⟨w.heap.size, 0, none⟩ = some (.int .i64 0) := (hz0.keep hkk (fun h => h)).cell 0
        have z1 : wr.cell? ⟨w.heap.size, 1, none⟩ = some (.slice none 0 0) := (hz0.keep hkk (fun h => h)).cell 1
        have z2 : wr.cell? ⟨w.heap.size, 2, none⟩ = some (.int .i64 0) := (hz0.keep hkk (fun h => h)).cell 2
        have f0 := (hz0.keep hkk (fun h => h)).frozen 0
        have f1 := (hz0.keep hkk (fun h => h)).frozen 1
        have f2 := (hz0.keep hkk (fun h => h)).frozen 2
        have b0 : (0 : Int) < (ds.length : Int) := by omega
        have l1 : lb < wr.heap.size := by have := hkk.size; omega
        have l2 : w.heap.size < wr.heap.size := by have := hkk.size; omega
        by_cases hvv : (v : Int) = V
        · subst hvv
          have e1 : ((v : Int) != (v : Int)) = false := by simp
          have hM : M.length ≤ 4096 := hval.len
          have HL : Hid (∀ n, Calls Tryd.prog 69 #[.pointer (some ⟨b, 0, none⟩), .agg #[.int .i64 v, .slice A2 M.length cc2, .int .i64 r]] ((wr.alloc (.cells #[.int .i64 v, .slice A2 M.length cc2, .int .i64 r] 26)).drewN n) fun e w' => ∃ F' N' t, e = .returned (.int .i64 (t : Nat)) ∧ Sto w' b N' (fun _ => none) F' ∧ LdRel N M r t N' ∧ Keep NoF W0 w' ∧ (∀ x, F' x → W0.heap.size ≤ x) ∧ w'.ownsRow W0.heap.size 3 1 u10 k (ts.map inV) ∧ W0.heap.size ≤ w'.heap.size ∧ (∀ x, u10.ownBlock = some x → ¬ F' x) ∧ ∀ x, F' x → x < w'.heap.size) := Lib.hid fun n => by
            have hk1 : Keep NoF wr ((wr.alloc (.cells #[.int .i64 v, .slice A2 M.length cc2, .int .i64 r] 26)).drewN n) := ((Keep.refl _ _).alloc _).drewN n
            have hs1 := hsk.kept hk1 fun _ _ h => h
            have hown1 : ((wr.alloc (.cells #[.int .i64 v, .slice A2 M.length cc2, .int .i64 r] 26)).drewN n).ownsRow W0.heap.size 3 1 u10 k (ts.map inV) := own_keep hown fun x hx => hk1.block x (hown.lt x hx).2 (fun h => h)
            refine (load_rel (b := b) (N := N) (G := fun _ => none) (F := F') hs1 hg M hval.good v _ r hval.root hM (by omega) ((hdr.kept hkk fun _ _ h => h).kept hk1 fun _ _ h => h) (fun h0 x hx h => by
              have := hb1 x h0 hx
              have := hFF x h
              omega)).mono fun e w' ⟨F2, N2, t, he, hs2, hL, hk2, hF2⟩ => ?_
            have hF2' : ∀ x, F2 x → W0.heap.size ≤ x := fun x hx => by
              rcases hF2 x hx with h | h
              · exact hFF x h
              · exact Nat.le_trans (hkk.trans hk1 fun _ _ h => h).size h
            have hkw' : Keep NoF W0 w' := (hkk.trans hk1 fun _ _ h => h).trans hk2 fun x hx h => absurd (hFF x h) (by omega)
            refine ⟨F2, N2, t, he, hs2, hL, hkw', hF2', own_keep hown1 fun x hx => hk2.block x (hown1.lt x hx).2 (hxF x hx), hkw'.size, fun x hx h => ?_, hs2.lt⟩
            rcases hF2 x h with h | h
            · exact hxF x hx h
            · have := (hown1.lt x hx).2; omega
          have HD := Lib.hid (And.intro hden htl)
          clear hdr hdr1 hown hb1 hmem hsk hden htl hz
          go_wp2
          go_quiet (fail)
          go_wp2_with (first
            | (go_at_call 69
               (with_reducible refine (HL.out nq).mono ?_)
               rintro e w3 ⟨F3, N3, t3, rfl, hs3, hL3, hk3, hF3, hown3, hsz3, hxF3, hlt3⟩)
            | (at_builtin
               refine wpList_app (by rfl) eInts (.tmp 41) (.tmp 45) (by rfl) (by rfl) (hown3.alloc _) ⟨w3.heap.size, 0, none⟩ 1 1 [.int .i64 (t3 : Nat)] (by rfl) (by rfl)
                 (World.news_of_block (cs := #[.int .i64 (t3 : Nat)]) (t := 3) (fr := (0, 0)) (heap_alloc_new w3 _)) (by simp [Value.oneCell']) (by omega) (by omega) (by omega) (by simp; omega) ?_
               intro g4 cap4 w4 hown4 hA4))
          go_roundw
          case rel =>
            have h63 : Keep NoF W0 w4 := (hk3.alloc _).grown hA4.grown fun x hx => .inr (hown3.lt x hx).1
            refine ⟨k + 1, by go_num, by omega, N3, F3, ts ++ [t3], by simp [hlen], ?_, hL3.good, by have := hL3.len; omega, by simpa [inV] using hown4, h63, hF3, ?_, ?_, ?_, ?_⟩
            · exact (hs3.alloc _).block fun x hx => hA4.grown.block x (by have := hlt3 x hx; simp; omega) (fun e => hxF3 x e.symm hx)
            · intro t ht
              rcases List.mem_append.1 ht with h | h
              · have := HD.out.2 t h
                have := Dd.len_pre hL3.pre
                omega
              · have e : t = t3 := by simpa using h
                subst e; exact hL3.lt
            · rw [List.map_append, HTK.out, List.map_append, ← HD.out.1]
              congr 1
              · exact List.map_congr_left fun t ht => funext fun ρ => Dd.den_pre hg hL3.good hL3.pre (HD.out.2 t ht) ρ
              · simp only [List.map_cons, List.map_nil, Dg.fn, Dd.toN_ofN, Int.toNat_natCast, List.cons.injEq, and_true]
                exact funext hL3.den
            · rw [HTK.out, List.all_append, hVs]; simp
            · intro x hx h
              have e : g4 = x := by simpa [Value.ownBlock] using hx
              subst e
              rcases hA4.at_ with h1 | h1
              · exact hxF3 _ h1 h
              · have := hlt3 _ h; simp at h1; omega
          case measure => simp [intOf]; omega
        · have e1 : ((v : Int) != V) = true := by simp; omega
          have hoe : Hid (opErr V ds = 3) := Lib.hid (by
            unfold opErr
            rw [HF.out, if_neg (by simp), if_neg]
            intro h
            have := List.all_eq_true.1 h _ hmem
            simp at this
            exact hvv this)
          clear hdr hdr1 hsk hown htl hden hb1 hmem
          go_wp2
          go_quiet (fail)
          go_wp2
          have hbk := (((hz0.keep hkk (fun h => h)).alloc (.cells #[.int .i64 v, .slice A2 M.length cc2, .int .i64 r] 26)).drewN nq)
          have hkq : Keep NoF w ((wr.alloc (.cells #[.int .i64 v, .slice A2 M.length cc2, .int .i64 r] 26)).drewN nq) := ((hk0.trans hkk fun _ _ h => h).alloc _).drewN nq
          generalize (wr.alloc (.cells #[.int .i64 v, .slice A2 M.length cc2, .int .i64 r] 26)).drewN nq = W5 at *
          have y0 : W5.cell? ⟨w.heap.size, 0, none⟩ = some (.int .i64 0) := hbk.cell 0
          have y1 : W5.cell? ⟨w.heap.size, 1, none⟩ = some (.slice none 0 0) := hbk.cell 1
          have y2 : W5.cell? ⟨w.heap.size, 2, none⟩ = some (.int .i64 0) := hbk.cell 2
          refine bodyPost_ret (v := .tuple #[dgZero, .int .i64 3]) (by simp [results, Tryd.results52, go_sem, dgZero, y0, y1, y2]) rfl ⟨fun _ => by rw [hoe.out], fun h => absurd (hoe.out.symm.trans h) (by omega), ?_⟩
          exact ((hkq.setCell (.inr (by simp)) _).setCell (.inr (by simp)) _).setCell (.inr (by simp)) _
      · have ek : k = ds.length := by omega
        subst ek
        have htake : ds.take ds.length = ds := List.take_length
        rw [htake] at hden hVs
        have hoe : Hid (opErr V ds = 0) := Lib.hid (by unfold opErr; rw [HF.out, if_neg (by simp), if_pos hVs])
        clear hVs htake
        have hNb : N.length ≤ 100000 := by omega
        have HC : Hid (Calls Tryd.prog f (#[.pointer (some ⟨b, 0, none⟩), u10] ++ cap) wr.drew fun e w' => ∃ F' N' G' r, e = .returned (.int .i64 (r : Nat)) ∧ Sto w' b N' G' F' ∧ OpRel N (σ (ds.map Dg.fn)) r N' G' ∧ Keep NoF W0 w') := Lib.hid (by
          have h := HOP.out wr.drew b N (fun _ => none) F' u10 ts (hk0.trans hkk fun _ _ h => h).drew.below hsk.drew hg (MemoOk.none N) hlen ((Rd.of_own hown).drew) (fun x hx => by have := hFF x hx; omega) htl hNb hxF
          refine h.mono fun e w' ⟨F2, N2, G2, r, he, hs2, hR, hk2, hF2⟩ => ⟨F2, N2, G2, r, he, hs2, by rw [← hden]; exact hR, ?_⟩
          exact hkk.trans hk2.undrew fun x hx h => absurd (hFF x h) (by omega))
        have v1 : wr.drew.cell? ⟨lb, lo, none⟩ = some (.int .i64 V) := hkk.cellv (hk0.cellv v0 (fun h => h)) (fun h => h)
        have b0 : (0 : Int) < (ds.length : Int) := by omega
        clear hsk hown htl hden hxF hNl
        go_wp2
        go_region_held3 (fun w' => w'.cell? ⟨lb, lo, none⟩ = some (.int .i64 V))
          (first | with_reducible exact v1 | with_reducible exact v3 | with_reducible exact v4 | (refine Keep.cellv ((((Keep.refl (fun x => x ≠ lb) _).setCell (.inl (by simp; omega)) _).setCell (.inl (by simp; omega)) _).setCell (.inl (by simp; omega)) _) v4 (by simp)))
          (first
            | (with_reducible refine HC.out.mono ?_
               rintro e w3 ⟨F3, N3, G3, r3, rfl, hs3, hR3, hk3⟩
               have v3 : w3.cell? ⟨lb, lo, none⟩ = some (.int .i64 V) := hk3.cellv (hk0.cellv v0 (fun h => h)) (fun h => h))
            | (go_at_call 70
               (with_reducible refine ((export_any (b := b) hs3 hR3.good (Nat.le_trans hR3.len (by omega)) V _ hR3.lt).mono fun e w' h => And.intro h.1.out h.2).mono ?_)
               rintro e w4 ⟨⟨V', r', err, A', n', cc', rfl, hout⟩, hk4⟩
               have k4 : Keep NoF W0 w4 := hk3.trans hk4 fun _ _ h => h
               have hb4 := hz0.keep k4 (fun h => h)
               have v4 : w4.cell? ⟨lb, lo, none⟩ = some (.int .i64 V) := hk4.cellv v3 (fun h => h)
               have y0 : w4.cell? ⟨w.heap.size, 0, none⟩ = some (.int .i64 0) := hb4.cell 0
               have y1 : w4.cell? ⟨w.heap.size, 1, none⟩ = some (.slice none 0 0) := hb4.cell 1
               have y2 : w4.cell? ⟨w.heap.size, 2, none⟩ = some (.int .i64 0) := hb4.cell 2
               have f0 := hb4.frozen 0
               have f1 := hb4.frozen 1
               have f2 := hb4.frozen 2))
        have hsz : w.heap.size < w3.heap.size := by have := hk3.size; omega
        have hx0 : ((((w4.setCell ⟨w.heap.size, 0, none⟩ (.int .i64 V')).setCell ⟨w.heap.size, 1, none⟩ (.slice A' n' cc')).setCell ⟨w.heap.size, 2, none⟩ (.int .i64 r'))).cell? ⟨w.heap.size, 0, none⟩ = some (.int .i64 V') := (((hb4.put 0 _).put 1 _).put 2 _).cell 0
        have hx1 : ((((w4.setCell ⟨w.heap.size, 0, none⟩ (.int .i64 V')).setCell ⟨w.heap.size, 1, none⟩ (.slice A' n' cc')).setCell ⟨w.heap.size, 2, none⟩ (.int .i64 r'))).cell? ⟨w.heap.size, 1, none⟩ = some (.slice A' n' cc') := (((hb4.put 0 _).put 1 _).put 2 _).cell 1
        have hx2 : ((((w4.setCell ⟨w.heap.size, 0, none⟩ (.int .i64 V')).setCell ⟨w.heap.size, 1, none⟩ (.slice A' n' cc')).setCell ⟨w.heap.size, 2, none⟩ (.int .i64 r'))).cell? ⟨w.heap.size, 2, none⟩ = some (.int .i64 r') := (((hb4.put 0 _).put 1 _).put 2 _).cell 2
        have hset : ∀ k, w3.heap.size ≤ k → ((((w4.setCell ⟨w.heap.size, 0, none⟩ (.int .i64 V')).setCell ⟨w.heap.size, 1, none⟩ (.slice A' n' cc')).setCell ⟨w.heap.size, 2, none⟩ (.int .i64 r'))).heap[k]? = w4.heap[k]? := fun k hk =>
          have hne : k ≠ w.heap.size := by omega
          ((Below.heap_setCell _ _ _ k hne).trans (Below.heap_setCell _ _ _ k hne)).trans (Below.heap_setCell _ _ _ k hne)
        have hkf : Keep NoF w (((w4.setCell ⟨w.heap.size, 0, none⟩ (.int .i64 V')).setCell ⟨w.heap.size, 1, none⟩ (.slice A' n' cc')).setCell ⟨w.heap.size, 2, none⟩ (.int .i64 r')) := (((hk0.trans k4 fun _ _ h => h).setCell (.inr (by simp)) _).setCell (.inr (by simp)) _).setCell (.inr (by simp)) _
        generalize ((w4.setCell ⟨w.heap.size, 0, none⟩ (.int .i64 V')).setCell ⟨w.heap.size, 1, none⟩ (.slice A' n' cc')).setCell ⟨w.heap.size, 2, none⟩ (.int .i64 r') = W6 at *
        go_wp2
        refine bodyPost_ret (v := .tuple #[.agg #[.int .i64 V', .slice A' n' cc', .int .i64 r'], .int .i64 err]) (by simp [results, Tryd.results52, go_sem, hx0, hx1, hx2]) rfl ⟨fun h => (h hoe.out).elim, fun _ => ⟨N3, r3, hR3.good, hR3.lt, hR3.den, ?_⟩, hkf⟩
        exact DgRes.move hout (by omega) hset
end Go.Proofs.YtgdmcidcappkpaaDoor
namespace Go.Proofs.YtgdmcidcappkpaaDoor
open Go.RowKit
open Dd (IteRel MemoOk den)

def xorSem : List BF → BF := fun l ρ => Bool.xor ((l.getD 0 (fun _ => false)) ρ) ((l.getD 1 (fun _ => false)) ρ)
end Go.Proofs.YtgdmcidcappkpaaDoor
