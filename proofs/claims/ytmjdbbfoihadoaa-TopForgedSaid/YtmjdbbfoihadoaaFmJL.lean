/- Package formula: what build does. Conditions: at most two operands. Package formula: what the constructors do. Package formula: what slices.Equal at lists of nodes and Same do. No condition. -/
import Derived.Test.YtmjdbbfoihadoaaFmH
import Derived.BigQuiet
import Derived.Deep.QuietTactic
set_option linter.unusedVariables false
set_option linter.unusedSimpArgs false
namespace Go.Proofs.Ytmjdbbfoihadoaa
open Go.RowKit
open Fm (Nd okI okN tree checkE nodeE usesX usesY usesFact usesAgent usesGroup usesEvent isOp Form cl compactL accL bldX bldY bldR shiftL shiftN Okf)

/-- An operand as it came in. -/
structure Opd where
  l : List Nd
  A : Option Addr
  c : Nat
abbrev Opd.val (p : Opd) : Value := .slice p.A p.l.length p.c
theorem Rd.opd {w : World} {B : Option Addr} {cb : Nat} {ps : List Opd} (h : Rd w (.slice B ps.length cb) 1 ps.length (ps.map Opd.val)) {k : Nat} {p : Opd} (hk : ps[k]? = some p) : ∃ bl off, B = some ⟨bl, off, none⟩ ∧ ps.length ≤ cb ∧ w.cell? ⟨bl, off + k, none⟩ = some p.val := by
  have hlt : k < ps.length := (List.getElem?_eq_some_iff.1 hk).1
  obtain ⟨_, hc', bl, off, rfl, hc⟩ := h.at_ (by omega)
  exact ⟨bl, off, rfl, hc', hc k _ (by rw [List.getElem?_map, hk]; rfl)⟩
theorem fmC_snoc (l : List Nd) (n : Nd) : fmC (l ++ [n]) = fmC l ++ ndC n := by simp [fmC]
theorem take_snocJ {α : Type} {l : List α} {k : Nat} {x : α} (h : l[k]? = some x) : l.take (k + 1) = l.take k ++ [x] := by
  rw [List.take_add_one, h]
  rfl
theorem shift_take {m : Nat} {C : List Nd} {j : Nat} {n : Nd} (h : C[j]? = some n) : shiftL m (C.take (j + 1)) = shiftL m (C.take j) ++ [shiftN m n] := by
  rw [take_snocJ h]
  simp [shiftL]
section
set_option maxRecDepth 100000
set_option maxHeartbeats 4000000
theorem build_any (op i e g : Int) (ps : List Opd) (hps : ps.length ≤ 2) (B : Option Addr) (cb : Nat) (w : World) (hov : Rd w (.slice B ps.length cb) 1 ps.length (ps.map Opd.val)) (hop : ∀ p ∈ ps, p.l.length ≤ 9223372036854775807 ∧ Rd w p.val 6 p.l.length (fmC p.l)) :
    Calls Try.prog 19 #[.agg #[.int .i64 op, .int .i64 i, .int .i64 e, .int .i64 g, .int .i64 0, .int .i64 0], .slice B ps.length cb] w (FmPost w (bldR op i e g (ps.map Opd.l))) := by
  have Bx := Bk.new w 53 #[.int .i64 op, .int .i64 i, .int .i64 e, .int .i64 g, .int .i64 0, .int .i64 0]
  have Kx : Keep NoF w (w.alloc (.cells #[.int .i64 op, .int .i64 i, .int .i64 e, .int .i64 g, .int .i64 0, .int .i64 0] 53)) := (Keep.refl _ _).alloc _
  have HOP := Lib.hid hop
  have HOV := Lib.hid hov
  generalize hos : ps.map Opd.l = os at *
  have hol : os.length = ps.length := by rw [← hos]; simp
  have HAT : Hid (∀ (k : Nat) (p : Opd), ps[k]? = some p → os[k]? = some p.l) := Lib.hid fun k p h => by rw [← hos, List.getElem?_map, h]; rfl
  have HNIL : Hid (∀ w', Keep NoF w w' → (∃ o ∈ os, checkE o ≠ 0) → FmPost w (bldR op i e g os) (.returned (.slice none 0 0)) w') := Lib.hid fun w' hk ⟨o, ho, hc⟩ => by
    have e1 : bldR op i e g os = [] := by
      unfold bldR
      rw [if_pos (List.any_eq_true.2 ⟨o, ho, by simpa using hc⟩)]
    rw [e1]
    exact ⟨none, 0, rfl, Rd.nil _ _, hk, fun k h => by simp [Value.ownBlock] at h⟩
  clear hop hov hos
  go_enter Try.func19, Try.ntmps19
  go_wp2
  generalize w.alloc (.cells #[.int .i64 op, .int .i64 i, .int .i64 e, .int .i64 g, .int .i64 0, .int .i64 0] 53) = W0 at *
  have lx := Bx.lt
  go_loopw [5, 16] (fun fv kv wr => ∃ k : Nat, kv = .int .i64 k ∧ k ≤ ps.length ∧ Hid (∀ o ∈ os.take k, checkE o = 0) ∧ wr.ownsRow (w.heap.size + 1) 53 6 fv (accL (os.take k)).length (fmC (accL (os.take k))) ∧
    Bk wr w.heap.size 53 #[.int .i64 op, .int .i64 i, .int .i64 e, .int .i64 g, .int .i64 (bldX os k), .int .i64 (bldY os k)] ∧ Keep NoF w wr ∧ w.heap.size + 1 ≤ wr.heap.size) (fun _ kv _ => ps.length - (intOf kv).toNat)
  case atStart => exact ⟨0, rfl, by omega, Lib.hid (by simp), World.ownsRow_nil _ _ _ _, Bx, Kx, lx⟩
  case round =>
    clear Bx Kx lx
    obtain ⟨k, rfl, hk, hck, hown, Bx, Kx, lx⟩ := hrel
    obtain ⟨wo, rfl⟩ : ∃ wo : World, wo = wr := ⟨_, rfl⟩
    obtain ⟨OA, oc, rfl⟩ := own_form hown
    by_cases hlt : k < ps.length
    · obtain ⟨p, hp⟩ : ∃ p, ps[k]? = some p := ⟨_, List.getElem?_eq_getElem hlt⟩
      have hok := HAT.out k p hp
      obtain ⟨bl, off, rfl, hcb, hcell⟩ := (HOV.out.kept Kx fun _ _ h => h).opd hp
      obtain ⟨hpl, hprd⟩ := HOP.out p (List.mem_of_getElem? hp)
      have hlt' : (k : Int) < (ps.length : Int) := by omega
      have HCK := Lib.hid fun W (hk : Keep NoF wo W) => fmCheck_any p.l p.A p.c W hpl ((hprd.kept Kx fun _ _ h => h).kept hk fun _ _ h => h)
      have HCO := Lib.hid fun W (hk : Keep NoF wo W) => Compact_any p.l p.A p.c W hpl ((hprd.kept Kx fun _ _ h => h).kept hk fun _ _ h => h)
      obtain ⟨pl, pA, pc⟩ := p
      replace hcell : wo.cell? ⟨bl, off + k, none⟩ = some (.slice pA pl.length pc) := hcell
      simp only at hok hpl hprd HCK HCO
      have HPK := Lib.hid hp
      clear hp hprd
      by_cases hc : checkE pl = 0
      · rw [hc] at HCK
        obtain ⟨hC1, hC2⟩ := Fm.compactL_len hc
        have HCO1 := Lib.hid (Fm.compactL_ord hc)
        have HTK : Hid (os.take (k + 1) = os.take k ++ [pl]) := Lib.hid (take_snocJ hok)
        have HACC : Hid (accL (os.take (k + 1)) = accL (os.take k) ++ shiftL (accL (os.take k)).length (compactL pl)) := Lib.hid (by rw [HTK.out, Fm.accL_snoc])
        have HCK1 : Hid (∀ o ∈ os.take (k + 1), checkE o = 0) := Lib.hid (by
          rw [HTK.out]
          intro o ho
          rcases List.mem_append.1 ho with h | h
          · exact hck.out o h
          · rw [List.mem_singleton.1 h]; exact hc)
        have hal : (accL (os.take k)).length ≤ 400 := by
          have := (Fm.accL_ok hck.out).2.2
          have : (os.take k).length ≤ k := by simp; omega
          omega
        clear hok hc hpl
        generalize compactL pl = C at *
        generalize accL (os.take k) = acc at *
        generalize pl.length = pn at *
        go_wp2_with (first
          | (go_at_call 21; (with_reducible refine (HCK.out _ (Keep.refl _ _)).mono ?_); rintro e w2 ⟨rfl, K2⟩)
          | (go_at_call 7; (with_reducible refine (HCO.out _ K2).mono ?_); rintro e w3 ⟨CA, cc, rfl, RC, K3, FC⟩))
        have K13 : Keep NoF wo w3 := K2.trans K3 fun _ _ h => h
        have hown3 := own_keep hown fun b hb => K13.block b (hown.lt b hb).2 fun h => h
        have Bx3 := Bx.keep K13 fun h => h
        have hob3 : ∀ b, (Value.slice OA acc.length oc).ownBlock = some b → b < wo.heap.size ∨ w3.heap.size ≤ b := fun b hb => .inl (hown.lt b hb).2
        have FC1 : ∀ b, (Value.slice CA C.length cc).ownBlock = some b → wo.heap.size ≤ b ∧ b < w3.heap.size := fun b hb => ⟨Nat.le_trans K2.size (FC b hb), RC.blk_lt (by omega) (by omega) b hb⟩
        have z3 := K13.size
        have Kx3 := Kx.trans K13 fun _ _ h => h
        go_loopw [5, 29] (fun fv jv wr => ∃ j : Nat, jv = .int .i64 j ∧ j ≤ C.length ∧ wr.ownsRow (w.heap.size + 1) 53 6 fv (acc.length + j) (fmC (acc ++ shiftL acc.length (C.take j))) ∧
          Bk wr w.heap.size 53 #[.int .i64 op, .int .i64 i, .int .i64 e, .int .i64 g, .int .i64 (bldX os k), .int .i64 (bldY os k)] ∧ Keep NoF w wr ∧ w3.heap.size ≤ wr.heap.size ∧ Rd wr (.slice CA C.length cc) 6 C.length (fmC C) ∧ ∀ b, fv.ownBlock = some b → b < wo.heap.size ∨ w3.heap.size ≤ b) (fun _ jv _ => C.length - (intOf jv).toNat)
        case atStart => exact ⟨0, rfl, by omega, by simpa [shiftL] using hown3, Bx3, Kx3, Nat.le_refl _, RC, hob3⟩
        case round =>
          clear RC hown3 Bx3 Kx3 hob3 hown Bx Kx
          obtain ⟨j, rfl, hj, hown, Bx, Kx, hz, RC, hob⟩ := hrel
          obtain ⟨FA, fc, rfl⟩ := own_form hown
          by_cases hjl : j < C.length
          · obtain ⟨n, hn⟩ : ∃ n, C[j]? = some n := ⟨_, List.getElem?_eq_getElem hjl⟩
            obtain ⟨cbl, coff, rfl, _, hcc, q0, q1, q2, q3, q4, q5⟩ := RC.nd hn
            have hord := HCO1.out j n hn
            have HSN : Hid (shiftL acc.length (C.take (j + 1)) = shiftL acc.length (C.take j) ++ [shiftN acc.length n]) := Lib.hid (shift_take hn)
            obtain ⟨nop, ni, ne, ng, nx, ny⟩ := n
            simp only at q0 q1 q2 q3 q4 q5 hord
            have hj0 : (0 : Int) ≤ (j : Int) := by omega
            have hj1 : (j : Int) < (C.length : Int) := by omega
            have HUS := Lib.hid fun w => uses_any w nop
            have Bn := Bk.new wr 53 #[.int .i64 nop, .int .i64 ni, .int .i64 ne, .int .i64 ng, .int .i64 nx, .int .i64 ny]
            have Kn0 : Keep NoF wr (wr.alloc (.cells #[.int .i64 nop, .int .i64 ni, .int .i64 ne, .int .i64 ng, .int .i64 nx, .int .i64 ny] 53)) := (Keep.refl _ _).alloc _
            have hn0 := Bn.cell 0
            have hu : ∀ a b, usesX nop = a → usesY nop = b → Hid (∀ w, Calls Try.prog 38 #[.int .i64 nop] w fun e w' => e = .returned (.tuple #[.agg #[.bool a, .bool b, .bool (usesFact nop), .bool (usesAgent nop), .bool (usesGroup nop), .bool (usesEvent nop), .int .i64 (fragN nop)], .bool (isOp nop)]) ∧ Keep NoF w w') := fun a b ha hb => Lib.hid (by subst ha hb; exact HUS.out)
            clear HUS hn
            generalize hfi : usesFact nop = uf at *
            generalize hfa : usesAgent nop = ua at *
            generalize hfg : usesGroup nop = ug at *
            generalize hfe : usesEvent nop = ue at *
            generalize hfo : isOp nop = uo at *
            generalize hff : fragN nop = fr at *
            clear hfi hfa hfg hfe hfo hff
            cases huy : usesY nop with
            | true =>
              have hux := Fm.usesY_X huy
              have HU := hu _ _ hux huy
              have bx := hord.1 hux
              have bY := hord.2.2.1 huy
              clear hord hu
              go_upto_region 12 with (go_at_call 38
                                      (with_reducible refine (HU.out _).mono ?_)
                                      rintro e w2 ⟨rfl, K2n⟩)
              have Bn2 := Bk.keep (F := NoF) Bn K2n (fun h => h)
              have Kn : Keep NoF wr (w2.alloc (.cells #[.bool true, .bool true, .bool uf, .bool ua, .bool ug, .bool ue, .int .i64 fr] 81)) := (Kn0.trans K2n fun _ _ h => h).alloc _
              have Bu := Bk.new w2 81 #[.bool true, .bool true, .bool uf, .bool ua, .bool ug, .bool ue, .int .i64 fr]
              have Bn3 := Bn2.alloc (.cells #[.bool true, .bool true, .bool uf, .bool ua, .bool ug, .bool ue, .int .i64 fr] 81)
              have ln2 := Bn2.lt
              generalize w2.alloc (.cells #[.bool true, .bool true, .bool uf, .bool ua, .bool ug, .bool ue, .int .i64 fr] 81) = W3 at *
              have u0 := Bu.cell 0
              have u1 := Bu.cell 1
              have x0 := Bn3.cell 0
              have x1 := Bn3.cell 1
              have x2 := Bn3.cell 2
              have x3 := Bn3.cell 3
              have x4 := Bn3.cell 4
              have x5 := Bn3.cell 5
              have y4 := Bn3.frozen 4
              have y5 := Bn3.frozen 5
              clear q0 q1 q2 q3 q4 q5 K2n Bn2
              go_upto_region 16 with (fail)
              have B5 : Bk ((W3.setCell ⟨wr.heap.size, 4, none⟩ (.int .i64 (nx + (acc.length : Int)))).setCell ⟨wr.heap.size, 5, none⟩ (.int .i64 (ny + (acc.length : Int)))) wr.heap.size 53 #[.int .i64 nop, .int .i64 ni, .int .i64 ne, .int .i64 ng, .int .i64 (nx + (acc.length : Int)), .int .i64 (ny + (acc.length : Int))] := ((Bn3.put 4 (.int .i64 (nx + (acc.length : Int)))).put 5 (.int .i64 (ny + (acc.length : Int))))
              have K5 : Keep (fun b => b = wr.heap.size) W3 ((W3.setCell ⟨wr.heap.size, 4, none⟩ (.int .i64 (nx + (acc.length : Int)))).setCell ⟨wr.heap.size, 5, none⟩ (.int .i64 (ny + (acc.length : Int)))) := (((Keep.refl (fun b => b = wr.heap.size) W3).setCell (.inl rfl) _).setCell (.inl rfl) _)
              clear u0 u1 x0 x1 x2 x3 x4 x5 y4 y5 Bn3 Bu
              generalize ((W3.setCell ⟨wr.heap.size, 4, none⟩ (.int .i64 (nx + (acc.length : Int)))).setCell ⟨wr.heap.size, 5, none⟩ (.int .i64 (ny + (acc.length : Int)))) = W5 at *
              have KK : Keep (fun b => b = wr.heap.size) wr W5 := (Kn.mono fun _ _ h => h.elim).trans K5 fun _ _ h => h
              have hown5 := own_keep hown fun b hb => KK.block b (hown.lt b hb).2 (by have := (hown.lt b hb).2; omega)
              have RC5 := RC.kept KK fun b hb => by have := (FC1 b hb).2; omega
              have Bx5 := Bx.keep KK (by omega)
              have Kx5 : Keep NoF w W5 := Kx.trans KK fun b hb h => by omega
              have zz5 := KK.size
              have x0 := B5.cell 0
              have x1 := B5.cell 1
              have x2 := B5.cell 2
              have x3 := B5.cell 3
              have x4 := B5.cell 4
              have x5 := B5.cell 5
              go_wp2_with (at_builtin
                           refine wpList_app (by rfl) eNodes (.tmp 53) (.tmp 55) (by rfl) (by rfl) (hown5.alloc _) ⟨W5.heap.size, 0, none⟩ 1 1 [.int .i64 nop, .int .i64 ni, .int .i64 ne, .int .i64 ng, .int .i64 (nx + (acc.length : Int)), .int .i64 (ny + (acc.length : Int))] (by rfl) (by rfl)
                             (World.news_of_block (cs := #[.int .i64 nop, .int .i64 ni, .int .i64 ne, .int .i64 ng, .int .i64 (nx + (acc.length : Int)), .int .i64 (ny + (acc.length : Int))]) (t := 53) (fr := (0, 0)) (heap_alloc_new W5 _)) (by simp [Value.oneCell']) (by omega) (by omega) (by omega) (by simp; omega) ?_
                           intro g2 cap2 w4 hown4 hA4)
              have hat2 := hA4.at_
              have hgr := hA4.grown
              have KA : ∀ b, b < W5.heap.size → (Value.slice FA (acc.length + j) fc).ownBlock ≠ some b → w4.heap[b]? = W5.heap[b]? := fun b hb hne => (hgr.block b (by simp; omega) (Ne.symm hne)).trans (Below.heap_alloc _ _ _ hb)
              have hAs := hgr.size
              have hAlen : W5.heap.size + 1 ≤ w4.heap.size := by simpa using hAs
              have RC4 : Rd w4 (.slice (some ⟨cbl, coff, none⟩) C.length cc) 6 C.length (fmC C) := RC5.keep fun b hb hlt => KA b hlt fun e => by
                have := FC1 b hb
                rcases hob b e with h | h <;> omega
              have Bx4 : Bk w4 w.heap.size 53 #[.int .i64 op, .int .i64 i, .int .i64 e, .int .i64 g, .int .i64 (bldX os k), .int .i64 (bldY os k)] := Bx5.block (KA _ Bx5.lt fun e => by have := (hown5.lt _ e).1; omega)
              have Kx4 : Keep NoF w w4 := (Kx5.alloc _).grown hgr fun b hb => .inr (by have := (hown5.lt b hb).1; omega)
              have hob4 : ∀ b, (Value.slice (some ⟨g2, 0, none⟩) (acc.length + j + 1) cap2).ownBlock = some b → b < wo.heap.size ∨ w3.heap.size ≤ b := fun b hb => by
                obtain rfl : g2 = b := by simpa [Value.ownBlock] using hb
                rcases hat2 with h | h
                · exact hob _ h
                · have : g2 = W5.heap.size + 1 := by simpa using h
                  omega
              have hown4' : w4.ownsRow (w.heap.size + 1) 53 6 (.slice (some ⟨g2, 0, none⟩) (acc.length + (j + 1)) cap2) (acc.length + (j + 1)) (fmC (acc ++ shiftL acc.length (C.take (j + 1)))) := by
                rw [HSN.out, ← List.append_assoc, fmC_snoc, ← Nat.add_assoc]
                simpa [ndC, shiftN, hux, huy] using hown4
              clear hown4 hown5 RC5 Bx5 Kx5 hown RC Bx Kx KA hgr hA4 hAs x0 x1 x2 x3 x4 x5
              go_roundw
              case rel => exact ⟨j + 1, by go_num, by omega, hown4', Bx4, Kx4, by omega, RC4, hob4⟩
              case measure => simp only [intOf]; omega
            | false =>
              cases hux : usesX nop with
              | true =>
                have HU := hu _ _ hux huy
                have bx := hord.1 hux
                obtain rfl : ny = 0 := hord.2.2.2 huy
                clear hord hu
                go_upto_region 12 with (go_at_call 38
                                        (with_reducible refine (HU.out _).mono ?_)
                                        rintro e w2 ⟨rfl, K2n⟩)
                have Bn2 := Bk.keep (F := NoF) Bn K2n (fun h => h)
                have Kn : Keep NoF wr (w2.alloc (.cells #[.bool true, .bool false, .bool uf, .bool ua, .bool ug, .bool ue, .int .i64 fr] 81)) := (Kn0.trans K2n fun _ _ h => h).alloc _
                have Bu := Bk.new w2 81 #[.bool true, .bool false, .bool uf, .bool ua, .bool ug, .bool ue, .int .i64 fr]
                have Bn3 := Bn2.alloc (.cells #[.bool true, .bool false, .bool uf, .bool ua, .bool ug, .bool ue, .int .i64 fr] 81)
                have ln2 := Bn2.lt
                generalize w2.alloc (.cells #[.bool true, .bool false, .bool uf, .bool ua, .bool ug, .bool ue, .int .i64 fr] 81) = W3 at *
                have u0 := Bu.cell 0
                have u1 := Bu.cell 1
                have x0 := Bn3.cell 0
                have x1 := Bn3.cell 1
                have x2 := Bn3.cell 2
                have x3 := Bn3.cell 3
                have x4 := Bn3.cell 4
                have x5 := Bn3.cell 5
                have y4 := Bn3.frozen 4
                have y5 := Bn3.frozen 5
                clear q0 q1 q2 q3 q4 q5 K2n Bn2
                go_upto_region 16 with (fail)
                have B5 : Bk (W3.setCell ⟨wr.heap.size, 4, none⟩ (.int .i64 (nx + (acc.length : Int)))) wr.heap.size 53 #[.int .i64 nop, .int .i64 ni, .int .i64 ne, .int .i64 ng, .int .i64 (nx + (acc.length : Int)), .int .i64 0] := (Bn3.put 4 (.int .i64 (nx + (acc.length : Int))))
                have K5 : Keep (fun b => b = wr.heap.size) W3 (W3.setCell ⟨wr.heap.size, 4, none⟩ (.int .i64 (nx + (acc.length : Int)))) := ((Keep.refl (fun b => b = wr.heap.size) W3).setCell (.inl rfl) _)
                clear u0 u1 x0 x1 x2 x3 x4 x5 y4 y5 Bn3 Bu
                generalize (W3.setCell ⟨wr.heap.size, 4, none⟩ (.int .i64 (nx + (acc.length : Int)))) = W5 at *
                have KK : Keep (fun b => b = wr.heap.size) wr W5 := (Kn.mono fun _ _ h => h.elim).trans K5 fun _ _ h => h
                have hown5 := own_keep hown fun b hb => KK.block b (hown.lt b hb).2 (by have := (hown.lt b hb).2; omega)
                have RC5 := RC.kept KK fun b hb => by have := (FC1 b hb).2; omega
                have Bx5 := Bx.keep KK (by omega)
                have Kx5 : Keep NoF w W5 := Kx.trans KK fun b hb h => by omega
                have zz5 := KK.size
                have x0 := B5.cell 0
                have x1 := B5.cell 1
                have x2 := B5.cell 2
                have x3 := B5.cell 3
                have x4 := B5.cell 4
                have x5 := B5.cell 5
                go_wp2_with (at_builtin
                             refine wpList_app (by rfl) eNodes (.tmp 53) (.tmp 55) (by rfl) (by rfl) (hown5.alloc _) ⟨W5.heap.size, 0, none⟩ 1 1 [.int .i64 nop, .int .i64 ni, .int .i64 ne, .int .i64 ng, .int .i64 (nx + (acc.length : Int)), .int .i64 0] (by rfl) (by rfl)
                               (World.news_of_block (cs := #[.int .i64 nop, .int .i64 ni, .int .i64 ne, .int .i64 ng, .int .i64 (nx + (acc.length : Int)), .int .i64 0]) (t := 53) (fr := (0, 0)) (heap_alloc_new W5 _)) (by simp [Value.oneCell']) (by omega) (by omega) (by omega) (by simp; omega) ?_
                             intro g2 cap2 w4 hown4 hA4)
                have hat2 := hA4.at_
                have hgr := hA4.grown
                have KA : ∀ b, b < W5.heap.size → (Value.slice FA (acc.length + j) fc).ownBlock ≠ some b → w4.heap[b]? = W5.heap[b]? := fun b hb hne => (hgr.block b (by simp; omega) (Ne.symm hne)).trans (Below.heap_alloc _ _ _ hb)
                have hAs := hgr.size
                have hAlen : W5.heap.size + 1 ≤ w4.heap.size := by simpa using hAs
                have RC4 : Rd w4 (.slice (some ⟨cbl, coff, none⟩) C.length cc) 6 C.length (fmC C) := RC5.keep fun b hb hlt => KA b hlt fun e => by
                  have := FC1 b hb
                  rcases hob b e with h | h <;> omega
                have Bx4 : Bk w4 w.heap.size 53 #[.int .i64 op, .int .i64 i, .int .i64 e, .int .i64 g, .int .i64 (bldX os k), .int .i64 (bldY os k)] := Bx5.block (KA _ Bx5.lt fun e => by have := (hown5.lt _ e).1; omega)
                have Kx4 : Keep NoF w w4 := (Kx5.alloc _).grown hgr fun b hb => .inr (by have := (hown5.lt b hb).1; omega)
                have hob4 : ∀ b, (Value.slice (some ⟨g2, 0, none⟩) (acc.length + j + 1) cap2).ownBlock = some b → b < wo.heap.size ∨ w3.heap.size ≤ b := fun b hb => by
                  obtain rfl : g2 = b := by simpa [Value.ownBlock] using hb
                  rcases hat2 with h | h
                  · exact hob _ h
                  · have : g2 = W5.heap.size + 1 := by simpa using h
                    omega
                have hown4' : w4.ownsRow (w.heap.size + 1) 53 6 (.slice (some ⟨g2, 0, none⟩) (acc.length + (j + 1)) cap2) (acc.length + (j + 1)) (fmC (acc ++ shiftL acc.length (C.take (j + 1)))) := by
                  rw [HSN.out, ← List.append_assoc, fmC_snoc, ← Nat.add_assoc]
                  simpa [ndC, shiftN, hux, huy] using hown4
                clear hown4 hown5 RC5 Bx5 Kx5 hown RC Bx Kx KA hgr hA4 hAs x0 x1 x2 x3 x4 x5
                go_roundw
                case rel => exact ⟨j + 1, by go_num, by omega, hown4', Bx4, Kx4, by omega, RC4, hob4⟩
                case measure => simp only [intOf]; omega
              | false =>
                have HU := hu _ _ hux huy
                obtain rfl : nx = 0 := hord.2.1 hux
                obtain rfl : ny = 0 := hord.2.2.2 huy
                clear hord hu
                go_upto_region 12 with (go_at_call 38
                                        (with_reducible refine (HU.out _).mono ?_)
                                        rintro e w2 ⟨rfl, K2n⟩)
                have Bn2 := Bk.keep (F := NoF) Bn K2n (fun h => h)
                have Kn : Keep NoF wr (w2.alloc (.cells #[.bool false, .bool false, .bool uf, .bool ua, .bool ug, .bool ue, .int .i64 fr] 81)) := (Kn0.trans K2n fun _ _ h => h).alloc _
                have Bu := Bk.new w2 81 #[.bool false, .bool false, .bool uf, .bool ua, .bool ug, .bool ue, .int .i64 fr]
                have Bn3 := Bn2.alloc (.cells #[.bool false, .bool false, .bool uf, .bool ua, .bool ug, .bool ue, .int .i64 fr] 81)
                have ln2 := Bn2.lt
                generalize w2.alloc (.cells #[.bool false, .bool false, .bool uf, .bool ua, .bool ug, .bool ue, .int .i64 fr] 81) = W3 at *
                have u0 := Bu.cell 0
                have u1 := Bu.cell 1
                have x0 := Bn3.cell 0
                have x1 := Bn3.cell 1
                have x2 := Bn3.cell 2
                have x3 := Bn3.cell 3
                have x4 := Bn3.cell 4
                have x5 := Bn3.cell 5
                have y4 := Bn3.frozen 4
                have y5 := Bn3.frozen 5
                clear q0 q1 q2 q3 q4 q5 K2n Bn2
                go_upto_region 16 with (fail)
                have B5 : Bk W3 wr.heap.size 53 #[.int .i64 nop, .int .i64 ni, .int .i64 ne, .int .i64 ng, .int .i64 0, .int .i64 0] := Bn3
                have K5 : Keep (fun b => b = wr.heap.size) W3 W3 := (Keep.refl (fun b => b = wr.heap.size) W3)
                clear u0 u1 x0 x1 x2 x3 x4 x5 y4 y5 Bn3 Bu
                generalize W3 = W5 at *
                have KK : Keep (fun b => b = wr.heap.size) wr W5 := (Kn.mono fun _ _ h => h.elim).trans K5 fun _ _ h => h
                have hown5 := own_keep hown fun b hb => KK.block b (hown.lt b hb).2 (by have := (hown.lt b hb).2; omega)
                have RC5 := RC.kept KK fun b hb => by have := (FC1 b hb).2; omega
                have Bx5 := Bx.keep KK (by omega)
                have Kx5 : Keep NoF w W5 := Kx.trans KK fun b hb h => by omega
                have zz5 := KK.size
                have x0 := B5.cell 0
                have x1 := B5.cell 1
                have x2 := B5.cell 2
                have x3 := B5.cell 3
                have x4 := B5.cell 4
                have x5 := B5.cell 5
                go_wp2_with (at_builtin
                             refine wpList_app (by rfl) eNodes (.tmp 53) (.tmp 55) (by rfl) (by rfl) (hown5.alloc _) ⟨W5.heap.size, 0, none⟩ 1 1 [.int .i64 nop, .int .i64 ni, .int .i64 ne, .int .i64 ng, .int .i64 0, .int .i64 0] (by rfl) (by rfl)
                               (World.news_of_block (cs := #[.int .i64 nop, .int .i64 ni, .int .i64 ne, .int .i64 ng, .int .i64 0, .int .i64 0]) (t := 53) (fr := (0, 0)) (heap_alloc_new W5 _)) (by simp [Value.oneCell']) (by omega) (by omega) (by omega) (by simp; omega) ?_
                             intro g2 cap2 w4 hown4 hA4)
                have hat2 := hA4.at_
                have hgr := hA4.grown
                have KA : ∀ b, b < W5.heap.size → (Value.slice FA (acc.length + j) fc).ownBlock ≠ some b → w4.heap[b]? = W5.heap[b]? := fun b hb hne => (hgr.block b (by simp; omega) (Ne.symm hne)).trans (Below.heap_alloc _ _ _ hb)
                have hAs := hgr.size
                have hAlen : W5.heap.size + 1 ≤ w4.heap.size := by simpa using hAs
                have RC4 : Rd w4 (.slice (some ⟨cbl, coff, none⟩) C.length cc) 6 C.length (fmC C) := RC5.keep fun b hb hlt => KA b hlt fun e => by
                  have := FC1 b hb
                  rcases hob b e with h | h <;> omega
                have Bx4 : Bk w4 w.heap.size 53 #[.int .i64 op, .int .i64 i, .int .i64 e, .int .i64 g, .int .i64 (bldX os k), .int .i64 (bldY os k)] := Bx5.block (KA _ Bx5.lt fun e => by have := (hown5.lt _ e).1; omega)
                have Kx4 : Keep NoF w w4 := (Kx5.alloc _).grown hgr fun b hb => .inr (by have := (hown5.lt b hb).1; omega)
                have hob4 : ∀ b, (Value.slice (some ⟨g2, 0, none⟩) (acc.length + j + 1) cap2).ownBlock = some b → b < wo.heap.size ∨ w3.heap.size ≤ b := fun b hb => by
                  obtain rfl : g2 = b := by simpa [Value.ownBlock] using hb
                  rcases hat2 with h | h
                  · exact hob _ h
                  · have : g2 = W5.heap.size + 1 := by simpa using h
                    omega
                have hown4' : w4.ownsRow (w.heap.size + 1) 53 6 (.slice (some ⟨g2, 0, none⟩) (acc.length + (j + 1)) cap2) (acc.length + (j + 1)) (fmC (acc ++ shiftL acc.length (C.take (j + 1)))) := by
                  rw [HSN.out, ← List.append_assoc, fmC_snoc, ← Nat.add_assoc]
                  simpa [ndC, shiftN, hux, huy] using hown4
                clear hown4 hown5 RC5 Bx5 Kx5 hown RC Bx Kx KA hgr hA4 hAs x0 x1 x2 x3 x4 x5
                go_roundw
                case rel => exact ⟨j + 1, by go_num, by omega, hown4', Bx4, Kx4, by omega, RC4, hob4⟩
                case measure => simp only [intOf]; omega
          · obtain rfl : j = C.length := by omega
            rw [List.take_length] at hown
            have HAL : Hid ((acc ++ shiftL acc.length C).length = acc.length + C.length) := Lib.hid (by simp [shiftL])
            have hj1 : ¬ ((C.length : Nat) : Int) < (C.length : Int) := by omega
            have x0 := Bx.cell 0
            have x1 := Bx.cell 1
            have x2 := Bx.cell 2
            have x3 := Bx.cell 3
            have x4 := Bx.cell 4
            have x5 := Bx.cell 5
            have lbx := Bx.lt
            by_cases hk0 : k = 0
            · have hkb : ((k : Int) == 0) = true := by rw [hk0]; rfl
              have HBX : Hid (bldX os (k + 1) = ((acc.length + C.length : Nat) : Int) - 1) := Lib.hid (by
                subst hk0
                unfold bldX
                rw [if_neg (by omega)]
                rw [show (0 + 1 : Nat) = 1 from rfl] at HACC
                rw [HACC.out, HAL.out])
              have HBY : Hid (bldY os (k + 1) = bldY os k) := Lib.hid (by subst hk0; rfl)
              have yf := Bx.frozen 4
              generalize bldX os k = X at *
              generalize bldY os k = Y at *
              clear hk0
              go_wp2
              clear x0 x1 x2 x3 x4 x5 yf
              have Bx9 := Bx.put 4 (.int .i64 (((acc.length + C.length : Nat) : Int) - 1))
              have Kx9 : Keep NoF w (wr.setCell ⟨w.heap.size, 4, none⟩ (.int .i64 (((acc.length + C.length : Nat) : Int) - 1))) := Kx.setCell (.inr (Nat.le_refl _)) _
              have hown9 : (wr.setCell ⟨w.heap.size, 4, none⟩ (.int .i64 (((acc.length + C.length : Nat) : Int) - 1))).ownsRow (w.heap.size + 1) 53 6 (.slice FA (acc.length + C.length) fc) (acc.length + C.length) (fmC (acc ++ shiftL acc.length C)) :=
                own_keep hown fun b hb => Below.heap_setCell _ _ _ _ (fun e => by have h1 := (hown.lt b hb).1; have e2 : b = w.heap.size := e; omega)
              go_roundw
              case rel =>
                refine ⟨k + 1, by go_num, by omega, HCK1.out, ?_, ?_, Kx9, by simp; omega⟩
                · rw [HACC.out, HAL.out]
                  exact hown9
                · rw [HBX.out, HBY.out]
                  exact Bx9
              case measure => simp only [intOf]; omega
            · have hkb : ((k : Int) == 0) = false := beq_eq_false_iff_ne.2 (by omega)
              have HBX : Hid (bldX os (k + 1) = bldX os k) := Lib.hid (by unfold bldX; rw [if_neg (by omega), if_neg hk0])
              have HBY : Hid (bldY os (k + 1) = ((acc.length + C.length : Nat) : Int) - 1) := Lib.hid (by
                unfold bldY
                rw [if_neg (by omega), HACC.out, HAL.out])
              have yf := Bx.frozen 5
              generalize bldX os k = X at *
              generalize bldY os k = Y at *
              clear hk0
              go_wp2
              clear x0 x1 x2 x3 x4 x5 yf
              have Bx9 := Bx.put 5 (.int .i64 (((acc.length + C.length : Nat) : Int) - 1))
              have Kx9 : Keep NoF w (wr.setCell ⟨w.heap.size, 5, none⟩ (.int .i64 (((acc.length + C.length : Nat) : Int) - 1))) := Kx.setCell (.inr (Nat.le_refl _)) _
              have hown9 : (wr.setCell ⟨w.heap.size, 5, none⟩ (.int .i64 (((acc.length + C.length : Nat) : Int) - 1))).ownsRow (w.heap.size + 1) 53 6 (.slice FA (acc.length + C.length) fc) (acc.length + C.length) (fmC (acc ++ shiftL acc.length C)) :=
                own_keep hown fun b hb => Below.heap_setCell _ _ _ _ (fun e => by have h1 := (hown.lt b hb).1; have e2 : b = w.heap.size := e; omega)
              go_roundw
              case rel =>
                refine ⟨k + 1, by go_num, by omega, HCK1.out, ?_, ?_, Kx9, by simp; omega⟩
                · rw [HACC.out, HAL.out]
                  exact hown9
                · rw [HBX.out, HBY.out]
                  exact Bx9
              case measure => simp only [intOf]; omega
      · have hne : (checkE pl != 0) = true := by simpa using hc
        have HBAD : Hid (∃ o ∈ os, checkE o ≠ 0) := Lib.hid ⟨pl, List.mem_of_getElem? hok, hc⟩
        generalize checkE pl = ce at *
        clear hok hpl
        generalize pl.length = pn at *
        go_wp2_with (go_at_call 21; (with_reducible refine (HCK.out _ (Keep.refl _ _)).mono ?_); rintro e w2 ⟨rfl, K2⟩)
        go_ret
        exact HNIL.out _ (Kx.trans K2 fun _ _ h => h) HBAD.out
    · obtain rfl : k = ps.length := by omega
      have hlt' : ¬ ((ps.length : Nat) : Int) < (ps.length : Int) := by omega
      have hto : os.take ps.length = os := by rw [← hol]; exact List.take_length
      rw [hto] at hck hown ⊢
      obtain ⟨a1, a2, a3⟩ := Fm.accL_ok hck.out
      have hX := Lib.hid hol
      rw [← hol] at Bx
      have Bx9 := Bx
      clear Bx hto
      have HNF : Hid (∀ o, ¬ (o ∈ os ∧ checkE o ≠ 0)) := Lib.hid fun o ho => ho.2 (hck.out o ho.1)
      have HANY : Hid (os.any (fun o => decide (checkE o ≠ 0)) ≠ true) := Lib.hid fun h => by
        obtain ⟨o, h1, h2⟩ := List.any_eq_true.1 h
        exact HNF.out o ⟨h1, by simpa using h2⟩
      have HNE : Hid (∀ W, Calls Try.prog 39 #[.agg #[.int .i64 op, .int .i64 i, .int .i64 e, .int .i64 g, .int .i64 (bldX os os.length), .int .i64 (bldY os os.length)], .int .i64 ((accL os).length : Int)] W fun e1 w' => e1 = .returned (.int .i64 (nodeE ⟨op, i, e, g, bldX os os.length, bldY os os.length⟩ ((accL os).length : Int))) ∧ Keep NoF W w') :=
        Lib.hid fun W => nodeError_any W ⟨op, i, e, g, bldX os os.length, bldY os os.length⟩ ((accL os).length : Int)
      have x0 := Bx9.cell 0
      have x1 := Bx9.cell 1
      have x2 := Bx9.cell 2
      have x3 := Bx9.cell 3
      have x4 := Bx9.cell 4
      have x5 := Bx9.cell 5
      by_cases hn : nodeE ⟨op, i, e, g, bldX os os.length, bldY os os.length⟩ ((accL os).length : Int) = 0
      · have hok := Fm.bld_okf (op := op) (i := i) (e := e) (g := g) (fun o ho => hck.out o ho) (by omega) hn
        have hno := hn
        have HR : Hid (FmPost w (bldR op i e g os) = FmPost w (Fm.capped (cl (tree (accL os ++ [⟨op, i, e, g, bldX os os.length, bldY os os.length⟩]) (accL os).length)))) := Lib.hid (by unfold bldR; rw [if_neg HANY.out, if_neg (by simpa using hn)])
        have HLN : Hid ((accL os ++ [(⟨op, i, e, g, bldX os os.length, bldY os os.length⟩ : Nd)]).length = (accL os).length + 1) := Lib.hid (by simp)
        have HFC : Hid (fmC (accL os ++ [(⟨op, i, e, g, bldX os os.length, bldY os os.length⟩ : Nd)]) = fmC (accL os) ++ [.int .i64 op, .int .i64 i, .int .i64 e, .int .i64 g, .int .i64 (bldX os os.length), .int .i64 (bldY os os.length)]) := Lib.hid (by rw [fmC_snoc]; rfl)
        have HCO := Lib.hid fun A c W (hr : Rd W (.slice A (accL os ++ [(⟨op, i, e, g, bldX os os.length, bldY os os.length⟩ : Nd)]).length c) 6 (accL os ++ [(⟨op, i, e, g, bldX os os.length, bldY os os.length⟩ : Nd)]).length (fmC (accL os ++ [(⟨op, i, e, g, bldX os os.length, bldY os os.length⟩ : Nd)]))) =>
          fmcompact_any (accL os ++ [(⟨op, i, e, g, bldX os os.length, bldY os os.length⟩ : Nd)]) hok (accL os).length (by simp) A c W hr
        rw [hn] at HNE
        rw [HLN.out, HFC.out] at HCO
        clear hok hno HFC HLN hn
        generalize bldX os os.length = X at *
        generalize bldY os os.length = Y at *
        generalize accL os = acc at *
        generalize hcl : cl (tree (acc ++ [⟨op, i, e, g, X, Y⟩]) acc.length) = L at *
        clear hcl
        have hal : acc.length ≤ 400 := by omega
        go_upto_region 24 with (go_at_call 39
                                (with_reducible refine (HNE.out _).mono ?_)
                                rintro e1 w2 ⟨rfl, K2⟩)
        clear x0 x1 x2 x3 x4 x5
        have Bx2 := Bx9.keep K2 fun h => h
        have hown2 := own_keep hown fun b hb => K2.block b (hown.lt b hb).2 fun h => h
        have Kx2 := Kx.trans K2 fun _ _ h => h
        have z2 := K2.size
        have x0 := Bx2.cell 0
        have x1 := Bx2.cell 1
        have x2 := Bx2.cell 2
        have x3 := Bx2.cell 3
        have x4 := Bx2.cell 4
        have x5 := Bx2.cell 5
        go_upto_region 25 with (first
          | (at_builtin
             refine wpList_app (by rfl) eNodes (.tmp 74) (.tmp 76) (by rfl) (by rfl) (hown2.alloc _) ⟨w2.heap.size, 0, none⟩ 1 1 [.int .i64 op, .int .i64 i, .int .i64 e, .int .i64 g, .int .i64 X, .int .i64 Y] (by rfl) (by rfl)
               (World.news_of_block (cs := #[.int .i64 op, .int .i64 i, .int .i64 e, .int .i64 g, .int .i64 X, .int .i64 Y]) (t := 53) (fr := (0, 0)) (heap_alloc_new w2 _)) (by simp [Value.oneCell']) (by omega) (by omega) (by omega) (by simp; omega) ?_
             intro g2 cap2 w4 hown4 hA4
             have hgr := hA4.grown
             have Kx4 : Keep NoF w w4 := (Kx2.alloc _).grown hgr fun b hb => .inr (by have := (hown2.lt b hb).1; omega)
             have HC4 := Lib.hid (HCO.out _ _ w4 (Rd.of_own hown4)))
          | (go_at_call 22
             (with_reducible refine HC4.out.mono ?_)
             rintro e1 w5 ⟨LA, lc, rfl, RL, K5, F5⟩))
        have Kx5 := Kx4.trans K5 fun _ _ h => h
        by_cases hL : 200 < L.length
        · have hL' : (200 : Int) < (L.length : Int) := by omega
          have HCP : Hid (Fm.capped L = []) := Lib.hid (by unfold Fm.capped; rw [if_pos hL])
          clear F5 RL
          generalize L.length = ll at *
          go_wp2
          go_ret
          rw [HR.out, HCP.out]
          exact ⟨none, 0, rfl, Rd.nil _ _, Kx5, fun k h => by simp [Value.ownBlock] at h⟩
        · have hL' : ¬ (200 : Int) < (L.length : Int) := by omega
          have HCP : Hid (Fm.capped L = L) := Lib.hid (by unfold Fm.capped; rw [if_neg hL])
          have HF5 : Hid (∀ k, (Value.slice LA L.length lc).ownBlock = some k → w.heap.size ≤ k) := Lib.hid fun k hk => Nat.le_trans Kx4.size (F5 k hk)
          clear F5
          go_wp2
          go_ret
          rw [HR.out, HCP.out]
          exact ⟨LA, lc, rfl, RL, Kx5, HF5.out⟩
      · have hne : (nodeE ⟨op, i, e, g, bldX os os.length, bldY os os.length⟩ ((accL os).length : Int) != 0) = true := by simpa using hn
        have HR : Hid (FmPost w (bldR op i e g os) = FmPost w []) := Lib.hid (by unfold bldR; rw [if_neg HANY.out, if_pos hn])
        generalize nodeE ⟨op, i, e, g, bldX os os.length, bldY os os.length⟩ ((accL os).length : Int) = en at *
        generalize bldX os os.length = X at *
        generalize bldY os os.length = Y at *
        clear hn hX
        go_wp2_with (go_at_call 39; (with_reducible refine (HNE.out _).mono ?_); rintro e w2 ⟨rfl, K2⟩)
        go_ret
        rw [HR.out]
        exact ⟨none, 0, rfl, Rd.nil _ _, Kx.trans K2 fun _ _ h => h, fun k h => by simp [Value.ownBlock] at h⟩
end
end Go.Proofs.Ytmjdbbfoihadoaa
namespace Go.Proofs.Ytmjdbbfoihadoaa
open Go.RowKit
open Fm (Nd checkE mk0 mk1 mk2)

theorem FmPost.from {w w1 : World} {l : List Nd} {e : Ending} {w' : World} (h : FmPost w1 l e w') (hk : Keep NoF w w1) : FmPost w l e w' := by
  obtain ⟨A, c, he, hr, hk2, hf⟩ := h
  exact ⟨A, c, he, hr, hk.trans hk2 fun _ _ h => h, fun k hk' => Nat.le_trans hk.size (hf k hk')⟩
section
variable {w : World} {f g : List Nd} {A A' : Option Addr} {c c' : Nat}
theorem mk0_any (op i e g : Int) (hx : Fm.usesX op = false) (w : World) : Calls Try.prog 19 #[.agg #[.int .i64 op, .int .i64 i, .int .i64 e, .int .i64 g, .int .i64 0, .int .i64 0], .slice none 0 0] w (FmPost w (mk0 op i e g)) := by
  have := build_any op i e g [] (by simp) none 0 w (Rd.nil _ _) (by simp)
  rw [List.map_nil, Fm.bld0 hx] at this
  exact this
theorem mk1_any (op i e g' : Int) (hx : Fm.usesX op = true) (hy : Fm.usesY op = false) (hl : f.length ≤ 9223372036854775807) (hr : Rd w (.slice A f.length c) 6 f.length (fmC f)) :
    Calls Try.prog 19 #[.agg #[.int .i64 op, .int .i64 i, .int .i64 e, .int .i64 g', .int .i64 0, .int .i64 0], .slice (some ⟨w.heap.size, 0, none⟩) 1 1] (w.alloc (.cells #[.slice A f.length c] 26)) (FmPost w (mk1 op i e g' f)) := by
  have hk : Keep NoF w (w.alloc (.cells #[.slice A f.length c] 26)) := (Keep.refl _ _).alloc _
  have hb := Bk.new w 26 #[.slice A f.length c]
  have := build_any op i e g' [⟨f, A, c⟩] (by simp) (some ⟨w.heap.size, 0, none⟩) 1 (w.alloc (.cells #[.slice A f.length c] 26))
    ⟨rfl, _, _, rfl, Nat.le_refl _, fun _ => ⟨_, _, rfl, fun j u hu => by rw [Nat.zero_add, hb.cell j, List.getElem?_toArray]; exact hu⟩⟩ (fun p hp => by
      rw [List.mem_singleton.1 hp]
      exact ⟨hl, hr.kept hk fun _ _ h => h⟩)
  rw [show [(⟨f, A, c⟩ : Opd)].map Opd.l = [f] from rfl, Fm.bld1 hx hy] at this
  exact this.mono fun _ _ h => h.from hk
theorem mk2_any (op i e g' : Int) (hy : Fm.usesY op = true) (hl : f.length ≤ 9223372036854775807) (hr : Rd w (.slice A f.length c) 6 f.length (fmC f)) (hl' : g.length ≤ 9223372036854775807) (hr' : Rd w (.slice A' g.length c') 6 g.length (fmC g)) :
    Calls Try.prog 19 #[.agg #[.int .i64 op, .int .i64 i, .int .i64 e, .int .i64 g', .int .i64 0, .int .i64 0], .slice (some ⟨w.heap.size, 0, none⟩) 2 2] (w.alloc (.cells #[.slice A f.length c, .slice A' g.length c'] 26)) (FmPost w (mk2 op i e g' f g)) := by
  have hk : Keep NoF w (w.alloc (.cells #[.slice A f.length c, .slice A' g.length c'] 26)) := (Keep.refl _ _).alloc _
  have hb := Bk.new w 26 #[.slice A f.length c, .slice A' g.length c']
  have := build_any op i e g' [⟨f, A, c⟩, ⟨g, A', c'⟩] (by simp) (some ⟨w.heap.size, 0, none⟩) 2 (w.alloc (.cells #[.slice A f.length c, .slice A' g.length c'] 26))
    ⟨rfl, _, _, rfl, Nat.le_refl _, fun _ => ⟨_, _, rfl, fun j u hu => by rw [Nat.zero_add, hb.cell j, List.getElem?_toArray]; exact hu⟩⟩ (fun p hp => by
      rcases List.mem_cons.1 hp with rfl | hp
      · exact ⟨hl, hr.kept hk fun _ _ h => h⟩
      · rw [List.mem_singleton.1 hp]
        exact ⟨hl', hr'.kept hk fun _ _ h => h⟩)
  rw [show [(⟨f, A, c⟩ : Opd), ⟨g, A', c'⟩].map Opd.l = [f, g] from rfl, Fm.bld2 hy] at this
  exact this.mono fun _ _ h => h.from hk
theorem c_Fact (pi : Int) (w : World) : Calls Try.prog 11 #[.int .i64 pi] w (FmPost w (mk0 3 pi 0 0)) := by
  have HB := Lib.hid (mk0_any 3 pi 0 0 (by decide) w)
  generalize mk0 3 pi 0 0 = L at *
  go_enter Try.func11, Try.ntmps11
  go_wp2_with (go_at_call 19; (with_reducible refine HB.out.mono ?_); rintro e1 w2 ⟨A3, c3, rfl, R3, K3, F3⟩)
  go_ret
  exact ⟨A3, c3, rfl, R3, K3, F3⟩
theorem c_Know (pi : Int) (hl : f.length ≤ 9223372036854775807) (hr : Rd w (.slice A f.length c) 6 f.length (fmC f)) : Calls Try.prog 10 #[.int .i64 pi, .slice A f.length c] w (FmPost w (mk1 9 pi 0 0 f)) := by
  have HB := Lib.hid (mk1_any 9 pi 0 0 (by decide) (by decide) hl hr)
  generalize mk1 9 pi 0 0 f = L at *
  clear hr hl
  generalize f.length = fn at *
  go_enter Try.func10, Try.ntmps10
  go_wp2_with (go_at_call 19; (with_reducible refine HB.out.mono ?_); rintro e1 w2 ⟨A3, c3, rfl, R3, K3, F3⟩)
  go_ret
  exact ⟨A3, c3, rfl, R3, K3, F3⟩
end
end Go.Proofs.Ytmjdbbfoihadoaa
namespace Go.Proofs.Ytmjdbbfoihadoaa
open Go.RowKit
open Fm (Nd checkE compactL cl tr)

theorem nd_stood : Try.prog.stoodInHeld 53 = false := by kernel_rfl
theorem nd_guard : Try.prog.eqGuardType Try.prog.depth 53 = false := by kernel_rfl
set_option maxHeartbeats 2000000 in
theorem run_nd_neq (a b : Nd) (w : World) : (binOp .neq 53 (ndV a) (ndV b)).run Try.prog w = .ok (.bool (!decide (a = b))) w := by
  have hp := nd_stood
  obtain ⟨a1, a2, a3, a4, a5, a6⟩ := a
  obtain ⟨b1, b2, b3, b4, b5, b6⟩ := b
  have hd : decide ((⟨a1, a2, a3, a4, a5, a6⟩ : Nd) = ⟨b1, b2, b3, b4, b5, b6⟩) = (a1 == b1 && (a2 == b2 && (a3 == b3 && (a4 == b4 && (a5 == b5 && a6 == b6))))) := by
    rw [Bool.eq_iff_iff]
    simp
  rw [hd]
  clear hd
  cases e1 : a1 == b1 <;> cases e2 : a2 == b2 <;> cases e3 : a3 == b3 <;> cases e4 : a4 == b4 <;> cases e5 : a5 == b5 <;> cases e6 : a6 == b6 <;> simp [go_sem, hp, e1, e2, e3, e4, e5, e6]
def ndAt (l : List Nd) (k : Nat) : Nd := l.getD k default
theorem ndAt_eq {l : List Nd} {k : Nat} (h : k < l.length) : l[k]? = some (ndAt l k) := by
  unfold ndAt
  rw [List.getD_eq_getElem?_getD, List.getElem?_eq_getElem h]
  rfl
theorem nd_ext (R S : List Nd) (hl : R.length = S.length) (h : ∀ j, j < R.length → ndAt R j = ndAt S j) : R = S := by
  apply List.ext_getElem? 
  intro i
  by_cases hi : i < R.length
  · rw [ndAt_eq hi, ndAt_eq (by omega), h i hi]
  · rw [List.getElem?_eq_none (by omega), List.getElem?_eq_none (by omega)]

/-- Whether two lists are the same formula. -/
def sameB (a b : List Nd) : Bool := decide (checkE a = 0) && (decide (checkE b = 0) && decide (compactL a = compactL b))
end Go.Proofs.Ytmjdbbfoihadoaa
