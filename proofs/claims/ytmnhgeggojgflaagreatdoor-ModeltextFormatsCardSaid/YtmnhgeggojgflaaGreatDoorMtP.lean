/- The text of a model: how the reader reads the first line. Conditions: the line has the form of such a line. -/
import Derived.Test.YtmnhgeggojgflaaGreatDoorMtL
set_option linter.unusedVariables false
set_option linter.unusedSimpArgs false
namespace Go.Proofs.YtmnhgeggojgflaaGreatDoor
open Go.RowKit
open Mt
attribute [local go_sem] Oper.semAt_some
theorem infoMtU6' : (Tryz.prog.info? 45).map (fun i => (i.zero, i.size, i.bytes)) = some (some (.int .u64 0), 1, 8) := by kernel_rfl
theorem run_mk_u6 (n : Nat) (h : n ≤ 35184372088832) (w : World) : (Instr.makeSlice 25 (.int .i64 (n : Int)) (.int .i64 (n : Int))).run Tryz.prog w = .ok (.slice (some ⟨w.heap.size, 0, none⟩) n n) (w.alloc (.cells (u6 (List.replicate n 0)).toArray 45)) := by
  have e : madeCells #[.int .u64 0] n = (u6 (List.replicate n 0)).toArray := by
    apply Array.ext_getElem?
    intro i
    by_cases hi : i < n
    · simp [madeCells, u6, List.getElem?_replicate, hi, Nat.mod_one]
    · simp [madeCells, u6, List.getElem?_replicate, hi]
  rw [← e]
  exact run_make_row' 25 45 (.int .u64 0) 8 Tryz.underlying25 infoMtU6' rfl .i64 .i64 n (by omega) (by omega) w
theorem run_mk_rows (n : Nat) (h : n ≤ 1000) (w : World) : (Instr.makeSlice 26 (.int .i64 (n : Int)) (.int .i64 (n : Int))).run Tryz.prog w = .ok (.slice (some ⟨w.heap.size, 0, none⟩) n n) (w.alloc (.cells (List.replicate n (Value.slice none 0 0)).toArray 25)) := by
  have e : madeCells #[.slice none 0 0] n = (List.replicate n (Value.slice none 0 0)).toArray := by
    apply Array.ext_getElem?
    intro i
    by_cases hi : i < n
    · simp [madeCells, List.getElem?_replicate, hi, Nat.mod_one]
    · simp [madeCells, List.getElem?_replicate, hi]
  rw [← e]
  exact run_make_row' 26 25 (.slice none 0 0) 24 Tryz.underlying26 infoMtRow rfl .i64 .i64 n (by omega) (by omega) w
/-- The reader in block b, ahead of the first line. -/
structure Rd0 (w : World) (S : Sg) (a f c : Option Addr) (ca cf cc : Nat) (Pr : Nat → Prop) (b m0 m1 m2 m3 : Nat) : Prop where
  mb : RdB w .zero Pr b m0 m1 m2 m3
  B : Bk w b 66 #[.slice a S.A.length ca, .slice f S.F.length cf, .slice c S.C.length cc, .int .i64 0, .slice none 0 0, .slice none 0 0, .map (some m0), .map (some m1), .map (some m2), .map (some m3)]
theorem Rd0.keep {w w' : World} {S : Sg} {a f c : Option Addr} {ca cf cc : Nat} {Pr : Nat → Prop} {b m0 m1 m2 m3 : Nat} (h : Rd0 w S a f c ca cf cc Pr b m0 m1 m2 m3) (hk : Keep NoF w w') : Rd0 w' S a f c ca cf cc Pr b m0 m1 m2 m3 := ⟨h.mb.keep hk, h.B.keep hk fun h => h⟩
/-- The rows that have been made. -/
def WsI (w5 : World) (W nA rb : Nat) (rs : List Nat) (wr : World) : Prop :=
  Bk wr rb 25 ((rs.map (rowB W) ++ List.replicate (nA - rs.length) (Value.slice none 0 0))).toArray ∧ (∀ g ∈ rs, w5.heap.size ≤ g ∧ Bk wr g 45 (u6 (List.replicate W 0)).toArray) ∧ rs.Nodup ∧ Keep (fun j => j = rb) w5 wr
theorem WsI.step {w5 wr : World} {W nA rb : Nat} {rs : List Nat} (h : WsI w5 W nA rb rs wr) (hl : rs.length < nA) : WsI w5 W nA rb (rs ++ [wr.heap.size]) ((wr.setCell ⟨rb, rs.length, none⟩ (rowB W wr.heap.size)).alloc (.cells (u6 (List.replicate W 0)).toArray 45)) := by
  obtain ⟨h1, h2, h3, h4⟩ := h
  have hrb : rb < wr.heap.size := h1.lt
  have hsz : (wr.setCell ⟨rb, rs.length, none⟩ (rowB W wr.heap.size)).heap.size = wr.heap.size := by simp [World.setCell]
  refine ⟨?_, fun g hg => ?_, ?_, (h4.setCell (p := ⟨rb, rs.length, none⟩) (.inl rfl) _).alloc _⟩
  · have := (h1.put rs.length (rowB W wr.heap.size)).alloc (.cells (u6 (List.replicate W 0)).toArray 45)
    have e : ((rs.map (rowB W) ++ List.replicate (nA - rs.length) (Value.slice none 0 0))).toArray.setIfInBounds rs.length (rowB W wr.heap.size) = (((rs ++ [wr.heap.size]).map (rowB W) ++ List.replicate (nA - (rs ++ [wr.heap.size]).length) (Value.slice none 0 0))).toArray := by
      rw [List.setIfInBounds_toArray]
      congr 1
      rw [List.set_append_right _ _ (by simp)]
      simp only [List.length_map, Nat.sub_self, List.map_append, List.append_assoc, List.length_append, List.length_singleton]
      obtain ⟨m, hm⟩ : ∃ m, nA - rs.length = m + 1 := ⟨nA - rs.length - 1, by omega⟩
      rw [hm, show nA - (rs.length + 1) = m by omega, List.replicate_succ]
      rfl
    rwa [e] at this
  · rcases List.mem_append.1 hg with hg | hg
    · exact ⟨(h2 g hg).1, ((h2 g hg).2.far (p := ⟨rb, rs.length, none⟩) (by
        show g ≠ rb
        exact fun e => ((h2 g hg).2.ne_type h1 (by decide)) e) _).alloc _⟩
    · obtain rfl := List.mem_singleton.1 hg
      refine ⟨h4.size, ?_⟩
      have := Bk.new (wr.setCell ⟨rb, rs.length, none⟩ (rowB W wr.heap.size)) 45 (u6 (List.replicate W 0)).toArray
      rwa [hsz] at this
  · refine List.nodup_append.2 ⟨h3, by simp, fun x hx y hy e => ?_⟩
    obtain rfl := List.mem_singleton.1 hy
    have := (h2 x hx).2.lt
    omega
theorem WsI.drew {w5 wr : World} {W nA rb : Nat} {rs : List Nat} (h : WsI w5 W nA rb rs wr) : WsI w5 W nA rb rs wr.drew := ⟨h.1, h.2.1, h.2.2.1, h.2.2.2.drew⟩
/-- The reader behind the first line. -/
theorem Rd0.done {w1 w5 wr : World} {S : Sg} {a f c : Option Addr} {ca cf cc : Nat} {Pr : Nat → Prop} {b m0 m1 m2 m3 n vb rb : Nat} {rs : List Nat} (h : Rd0 w1 S a f c ca cf cc Pr b m0 m1 m2 m3) (hP : ∀ k, Pr k → k < w1.heap.size)
    (hB : Bk w5 b 66 #[.slice a S.A.length ca, .slice f S.F.length cf, .slice c S.C.length cc, .int .i64 (n : Int), .slice (some ⟨vb, 0, none⟩) S.F.length S.F.length, .slice (some ⟨rb, 0, none⟩) S.A.length S.A.length, .map (some m0), .map (some m1), .map (some m2), .map (some m3)])
    (hV : Bk w5 vb 45 (u6 (List.replicate S.F.length 0)).toArray) (hvb : w1.heap.size ≤ vb) (hrb : w1.heap.size ≤ rb) (hne : vb ≠ rb) (hK : Keep (fun j => j = b) w1 w5) (hI : WsI w5 n S.A.length rb rs wr) (hrs : rs.length = S.A.length) (hn : n ≠ 0)
    (hok : Mt.Ok S { St.zero with W := n, V := List.replicate S.F.length 0, R := List.replicate S.A.length (List.replicate n 0) }) :
    RdW wr S a f c ca cf cc { St.zero with W := n, V := List.replicate S.F.length 0, R := List.replicate S.A.length (List.replicate n 0) } Pr b m0 m1 m2 m3 vb rb rs ∧ Keep (fun k => ¬ Pr k) w1 wr := by
  obtain ⟨i1, i2, i3, i4⟩ := hI
  have hb1 := h.B.lt
  have K1 : Keep (fun j => j = b ∨ j = rb) w1 wr := (hK.mono (G := fun j => j = b ∨ j = rb) fun _ _ e => .inl e).trans i4 fun _ _ e => .inr e
  have hm : ∀ m, m < w1.heap.size → m ≠ b → ¬ (m = b ∨ m = rb) := fun m h1 h2 => by omega
  have n0 := h.mb.fa.ne_bk h.B
  have n1 := h.mb.at_.1.ne_bk h.B
  have n2 := h.mb.so.1.ne_bk h.B
  have n3 := h.mb.ce.ne_bk h.B
  have hpn : ∀ k, w1.heap.size ≤ k → ¬ Pr k := fun k hk hp => by have := hP k hp; omega
  refine ⟨⟨⟨h.mb.fa.keep0 K1 (hm _ h.mb.fa.lt n0), h.mb.at_.keep0 K1 (hm _ h.mb.at_.1.lt n1), h.mb.so.keep0 K1 (hm _ h.mb.so.1.lt n2), h.mb.ce.keep0 K1 (hm _ h.mb.ce.lt n3), h.mb.n01, h.mb.n02, h.mb.n03, h.mb.n12, h.mb.n13, h.mb.n23, h.mb.pr⟩,
    hB.keep i4 (by omega), hV.keep i4 hne, ?_, hrs, fun k l g h1 h2 => ?_, fun hv => ?_, i3, ?_, hok, hn⟩, ?_⟩
  · rw [hrs, Nat.sub_self, List.replicate_zero, List.append_nil] at i1
    exact i1
  · simp only [List.getElem?_replicate] at h1
    split at h1
    · obtain rfl := Option.some.inj h1
      exact (i2 g (List.mem_of_getElem? h2)).2
    · cases h1
  · have := (i2 vb hv).1
    have := hV.lt
    omega
  · rintro k (rfl | rfl | hk)
    · exact hpn _ hvb
    · exact hpn _ hrb
    · exact hpn k (Nat.le_trans hK.size (i2 k hk).1)
  · refine K1.mono fun i hi e => ?_
    rcases e with rfl | rfl
    · exact h.mb.pr _ (.inl rfl)
    · omega
section
set_option maxRecDepth 100000
set_option maxHeartbeats 4000000
variable {w0 w : World} {S : Sg} {a f c : Option Addr} {ca cf cc : Nat} {Pr : Nat → Prop} {b m0 m1 m2 m3 : Nat}
theorem mtworlds_any (E : EnvM w0 S a f c ca cf cc Pr) (KW : Keep NoF w0 w) (hR : Rd0 w S a f c ca cf cc Pr b m0 m1 m2 m3) (hP : ∀ k, Pr k → k < w.heap.size) (l : List (List UInt8)) (A : Option Addr) (lc : Nat) (hrd : Rd w (.slice A l.length lc) 1 l.length (strs (l.map txt)))
    (hl2 : l.length = 2) :
    Calls Tryz.prog 69 #[.pointer (some ⟨b, 0, none⟩), .slice A 2 lc] w (RPost S a f c ca cf cc Pr b m0 m1 m2 m3 (worldsP S .zero l) w) := by
  have hSA := (checkS_ok E.ok).lA
  have hSF := (checkS_ok E.ok).lF
  obtain ⟨-, hc1, bl, off, rfl, hcells⟩ := hrd.at_ (by omega)
  have x1 := hcells 1 _ (strs_get (by omega))
  have HNU := Lib.hid fun W => mtnumber_any (txt (itAt l 1)) W
  rw [data_txt] at HNU
  obtain ⟨q, hq⟩ : ∃ q, worldsP S .zero l = q := ⟨_, rfl⟩
  have HQ := Lib.hid hq
  have HOK : Hid (q.2 = 0 → Mt.Ok S q.1 ∧ q.1.W ≠ 0) := Lib.hid (by have := @ok_worlds S .zero l; rwa [hq] at this)
  rw [hq]
  have HE := Lib.hid E
  have HRW := Lib.hid hR
  have HP := Lib.hid hP
  clear hcells hrd E hR hq hP
  unfold worldsP at HQ
  rw [show (numB (itAt l 1)).getD 0 = nIt l 1 from rfl] at HNU
  generalize nIt l 1 = n at *
  generalize (numB (itAt l 1)).isSome = nok at *
  by_cases h1 : n < 1
  · obtain rfl := HQ.out.symm.trans (if_pos (.inl h1))
    have h1' : (n : Int) < 1 := by omega
    clear HQ
    go_enter Tryz.func69, Tryz.ntmps69
    go_wp2_with (go_at_call 102; (with_reducible refine (HNU.out _).mono ?_); rintro e1 w1 ⟨rfl, K1⟩)
    go_ret
    exact ⟨rfl, K1.mono fun _ _ h => h.elim, fun h => absurd h (show ¬ (2 : Int) = 0 by decide)⟩
  · by_cases h2 : 64 < n
    · obtain rfl := HQ.out.symm.trans (if_pos (.inr h2))
      have h1' : ¬ (n : Int) < 1 := by omega
      have h2' : (64 : Int) < (n : Int) := by omega
      clear HQ
      go_enter Tryz.func69, Tryz.ntmps69
      go_wp2_with (go_at_call 102; (with_reducible refine (HNU.out _).mono ?_); rintro e1 w1 ⟨rfl, K1⟩)
      go_ret
      exact ⟨rfl, K1.mono fun _ _ h => h.elim, fun h => absurd h (show ¬ (2 : Int) = 0 by decide)⟩
    · obtain rfl := HQ.out.symm.trans (if_neg (by omega))
      have h1' : ¬ (n : Int) < 1 := by omega
      have h2' : ¬ (64 : Int) < (n : Int) := by omega
      have hmk1 := fun W => run_mk_u6 S.F.length (by omega) W
      have hmk2 := fun W => run_mk_rows S.A.length (by omega) W
      clear HQ
      go_enter Tryz.func69, Tryz.ntmps69
      go_upto_region 4 with (go_at_call 102; (with_reducible refine (HNU.out _).mono ?_); rintro e1 w1 ⟨rfl, K1⟩)
      have HR1 := Lib.hid (HRW.out.keep K1)
      have b0 : w1.cell? ⟨b, 0, none⟩ = some (.slice a S.A.length ca) := HR1.out.B.cell 0
      have b1 : w1.cell? ⟨b, 1, none⟩ = some (.slice f S.F.length cf) := HR1.out.B.cell 1
      have b3 : w1.cell? ⟨b, 3, none⟩ = some (.int .i64 0) := HR1.out.B.cell 3
      have b4 : w1.cell? ⟨b, 4, none⟩ = some (.slice none 0 0) := HR1.out.B.cell 4
      have b5 : w1.cell? ⟨b, 5, none⟩ = some (.slice none 0 0) := HR1.out.B.cell 5
      have f3 : w1.frozen? ⟨b, 3, none⟩ = false := HR1.out.B.frozen 3
      have f4 : w1.frozen? ⟨b, 4, none⟩ = false := HR1.out.B.frozen 4
      have f5 : w1.frozen? ⟨b, 5, none⟩ = false := HR1.out.B.frozen 5
      have hb1 : b < w1.heap.size := HR1.out.B.lt
      have hb2 : ¬ b = w1.heap.size := by omega
      have HB4 : Hid (∀ vA rA o1 o2, Bk ((((((w1.setCell ⟨b, 3, none⟩ (.int .i64 (n : Int))).setCell ⟨b, 4, none⟩ vA).setCell ⟨b, 5, none⟩ rA).alloc o1).alloc o2)) b 66 #[.slice a S.A.length ca, .slice f S.F.length cf, .slice c S.C.length cc, .int .i64 (n : Int), vA, rA, .map (some m0), .map (some m1), .map (some m2), .map (some m3)]) := Lib.hid fun vA rA o1 o2 => (((((HR1.out.B.put 3 (.int .i64 (n : Int))).put 4 vA).put 5 rA).alloc o1).alloc o2)
      have HQ4 : Hid (∀ vA rA o1 o2, ((((((w1.setCell ⟨b, 3, none⟩ (.int .i64 (n : Int))).setCell ⟨b, 4, none⟩ vA).setCell ⟨b, 5, none⟩ rA).alloc o1).alloc o2)).drew.cell? ⟨b, 0, none⟩ = some (.slice a S.A.length ca) ∧ ((((((w1.setCell ⟨b, 3, none⟩ (.int .i64 (n : Int))).setCell ⟨b, 4, none⟩ vA).setCell ⟨b, 5, none⟩ rA).alloc o1).alloc o2)).drew.cell? ⟨b, 1, none⟩ = some (.slice f S.F.length cf)) := Lib.hid fun vA rA o1 o2 => ⟨(HB4.out vA rA o1 o2).cell 0, (HB4.out vA rA o1 o2).cell 1⟩
      go_region_held3 (fun w' => w'.cell? ⟨b, 0, none⟩ = some (.slice a S.A.length ca) ∧ w'.cell? ⟨b, 1, none⟩ = some (.slice f S.F.length cf)) (first | (with_reducible exact HQ4.out _ _ _ _) | go_keep) (fail)
      all_goals go_wp2
      · have HB5 := Lib.hid ((HB4.out (.slice (some ⟨w1.heap.size, 0, none⟩) S.F.length S.F.length) (.slice (some ⟨w1.heap.size + 1, 0, none⟩) S.A.length S.A.length) (.cells (u6 (List.replicate S.F.length 0)).toArray 45) (.cells (Array.replicate S.A.length (Value.slice none 0 0)) 25)).drew)
        have HV5 : Hid (Bk (((((((w1.setCell ⟨b, 3, none⟩ (.int .i64 (n : Int))).setCell ⟨b, 4, none⟩ (.slice (some ⟨w1.heap.size, 0, none⟩) S.F.length S.F.length)).setCell ⟨b, 5, none⟩ (.slice (some ⟨w1.heap.size + 1, 0, none⟩) S.A.length S.A.length)).alloc (.cells (u6 (List.replicate S.F.length 0)).toArray 45)).alloc (.cells (Array.replicate S.A.length (Value.slice none 0 0)) 25))).drew) w1.heap.size 45 (u6 (List.replicate S.F.length 0)).toArray) := Lib.hid (by have := (Bk.new (((w1.setCell ⟨b, 3, none⟩ (.int .i64 (n : Int))).setCell ⟨b, 4, none⟩ (.slice (some ⟨w1.heap.size, 0, none⟩) S.F.length S.F.length)).setCell ⟨b, 5, none⟩ (.slice (some ⟨w1.heap.size + 1, 0, none⟩) S.A.length S.A.length)) 45 (u6 (List.replicate S.F.length 0)).toArray).alloc (.cells (Array.replicate S.A.length (Value.slice none 0 0)) 25); have hs : (((w1.setCell ⟨b, 3, none⟩ (.int .i64 (n : Int))).setCell ⟨b, 4, none⟩ (.slice (some ⟨w1.heap.size, 0, none⟩) S.F.length S.F.length)).setCell ⟨b, 5, none⟩ (.slice (some ⟨w1.heap.size + 1, 0, none⟩) S.A.length S.A.length)).heap.size = w1.heap.size := (by simp [World.setCell]); rw [hs] at this; exact this)
        have HR5 : Hid (Bk (((((((w1.setCell ⟨b, 3, none⟩ (.int .i64 (n : Int))).setCell ⟨b, 4, none⟩ (.slice (some ⟨w1.heap.size, 0, none⟩) S.F.length S.F.length)).setCell ⟨b, 5, none⟩ (.slice (some ⟨w1.heap.size + 1, 0, none⟩) S.A.length S.A.length)).alloc (.cells (u6 (List.replicate S.F.length 0)).toArray 45)).alloc (.cells (Array.replicate S.A.length (Value.slice none 0 0)) 25))).drew) (w1.heap.size + 1) 25 (Array.replicate S.A.length (Value.slice none 0 0))) := Lib.hid (by have := Bk.new ((((w1.setCell ⟨b, 3, none⟩ (.int .i64 (n : Int))).setCell ⟨b, 4, none⟩ (.slice (some ⟨w1.heap.size, 0, none⟩) S.F.length S.F.length)).setCell ⟨b, 5, none⟩ (.slice (some ⟨w1.heap.size + 1, 0, none⟩) S.A.length S.A.length)).alloc (.cells (u6 (List.replicate S.F.length 0)).toArray 45)) 25 (Array.replicate S.A.length (Value.slice none 0 0)); have hs : (((w1.setCell ⟨b, 3, none⟩ (.int .i64 (n : Int))).setCell ⟨b, 4, none⟩ (.slice (some ⟨w1.heap.size, 0, none⟩) S.F.length S.F.length)).setCell ⟨b, 5, none⟩ (.slice (some ⟨w1.heap.size + 1, 0, none⟩) S.A.length S.A.length)).heap.size = w1.heap.size := (by simp [World.setCell]); rw [World.size_alloc, hs] at this; exact this)
        have HK5 : Hid (Keep (fun j => j = b) w1 (((((((w1.setCell ⟨b, 3, none⟩ (.int .i64 (n : Int))).setCell ⟨b, 4, none⟩ (.slice (some ⟨w1.heap.size, 0, none⟩) S.F.length S.F.length)).setCell ⟨b, 5, none⟩ (.slice (some ⟨w1.heap.size + 1, 0, none⟩) S.A.length S.A.length)).alloc (.cells (u6 (List.replicate S.F.length 0)).toArray 45)).alloc (.cells (Array.replicate S.A.length (Value.slice none 0 0)) 25))).drew)) := Lib.hid ((((((Keep.refl (fun j => j = b) w1).setCell (p := ⟨b, 3, none⟩) (.inl rfl) _).setCell (p := ⟨b, 4, none⟩) (.inl rfl) _).setCell (p := ⟨b, 5, none⟩) (.inl rfl) _).alloc _).alloc _).drew
        generalize (((((((w1.setCell ⟨b, 3, none⟩ (.int .i64 (n : Int))).setCell ⟨b, 4, none⟩ (.slice (some ⟨w1.heap.size, 0, none⟩) S.F.length S.F.length)).setCell ⟨b, 5, none⟩ (.slice (some ⟨w1.heap.size + 1, 0, none⟩) S.A.length S.A.length)).alloc (.cells (u6 (List.replicate S.F.length 0)).toArray 45)).alloc (.cells (Array.replicate S.A.length (Value.slice none 0 0)) 25))).drew) = W5 at *
        have HI0 : Hid (WsI W5 n S.A.length (w1.heap.size + 1) [] W5) := Lib.hid ⟨by simpa using HR5.out, by simp, List.nodup_nil, Keep.refl _ _⟩
        have hmk3 := fun W => run_mk_u6 n (by omega) W
        go_loopw [46] (fun v wr => ∃ rs : List Nat, v = .int .i64 (rs.length : Int) ∧ rs.length ≤ S.A.length ∧ Hid (WsI W5 n S.A.length (w1.heap.size + 1) rs wr)) (fun v _ => S.A.length - (intOf v).toNat)
        case atStart => exact ⟨[], rfl, by simp, HI0⟩
        case round =>
          obtain ⟨rs, rfl, hrl, HI⟩ := hrel
          by_cases hlt : rs.length < S.A.length
          · have c5 : wr.cell? ⟨b, 5, none⟩ = some (.slice (some ⟨w1.heap.size + 1, 0, none⟩) S.A.length S.A.length) := HI.out.2.2.2.cellv (HB5.out.cell 5) (show ¬ b = w1.heap.size + 1 by omega)
            have cr : wr.cell? ⟨w1.heap.size + 1, rs.length, none⟩ = some (.slice none 0 0) := (HI.out.1.cell rs.length).trans (by
              obtain ⟨m, hm⟩ : ∃ m, S.A.length - rs.length = m + 1 := ⟨S.A.length - rs.length - 1, by omega⟩
              simp [List.getElem?_append_right, hm])
            have fr := HI.out.1.frozen rs.length
            have hrbw : w1.heap.size + 1 < wr.heap.size := HI.out.1.lt
            have hrbn : ¬ w1.heap.size + 1 = wr.heap.size := by omega
            have HIS := Lib.hid (HI.out.step hlt)
            have HN : Hid (((wr.setCell ⟨w1.heap.size + 1, rs.length, none⟩ (.slice (some ⟨wr.heap.size, 0, none⟩) n n)).alloc (.cells (u6 (List.replicate n 0)).toArray 45)).drew.cell? ⟨b, 5, none⟩ = some (.slice (some ⟨w1.heap.size + 1, 0, none⟩) S.A.length S.A.length)) := Lib.hid ((Keep.drew ((((Keep.refl (fun j => j = w1.heap.size + 1) wr).setCell (p := ⟨w1.heap.size + 1, rs.length, none⟩) (.inl rfl) _).alloc _))).cellv c5 (show ¬ b = w1.heap.size + 1 by omega))
            have hI0 : (0 : Int) ≤ (rs.length : Int) := by omega
            have hI1 : (rs.length : Int) < (S.A.length : Int) := by omega
            clear HI
            go_upto_region 8 with (fail)
            go_region_held3 (fun w' => w'.cell? ⟨b, 5, none⟩ = some (.slice (some ⟨w1.heap.size + 1, 0, none⟩) S.A.length S.A.length)) (first | (with_reducible exact HN.out) | go_keep) (fail)
            all_goals go_wp2
            go_roundw
            case rel => exact ⟨rs ++ [wr.heap.size], by rw [List.length_append]; go_num, by rw [List.length_append]; simp; omega, Lib.hid HIS.out.drew⟩
            case measure => simp only [intOf]; omega
          · have hrl2 : rs.length = S.A.length := by omega
            have HD := Lib.hid (Rd0.done HR1.out (fun k hk => Nat.lt_of_lt_of_le (HP.out k hk) K1.size) HB5.out HV5.out (by omega) (by omega) (by omega) HK5.out HI.out hrl2 (by omega) (HOK.out (by first | trivial | rfl)).1)
            have hrl3 : (rs.length : Int) = (S.A.length : Int) := by omega
            clear HI hlt hrl hrl2
            rw [hrl3]
            go_wp2
            go_ret
            exact ⟨rfl, (K1.mono fun _ _ h => h.elim).trans HD.out.2 fun _ _ h => h, fun _ => ⟨_, _, rs, HD.out.1⟩⟩
      · have HB5 := Lib.hid ((HB4.out (.slice (some ⟨w1.heap.size + 1, 0, none⟩) S.F.length S.F.length) (.slice (some ⟨w1.heap.size, 0, none⟩) S.A.length S.A.length) (.cells (Array.replicate S.A.length (Value.slice none 0 0)) 25) (.cells (u6 (List.replicate S.F.length 0)).toArray 45)).drew)
        have HV5 : Hid (Bk (((((((w1.setCell ⟨b, 3, none⟩ (.int .i64 (n : Int))).setCell ⟨b, 4, none⟩ (.slice (some ⟨w1.heap.size + 1, 0, none⟩) S.F.length S.F.length)).setCell ⟨b, 5, none⟩ (.slice (some ⟨w1.heap.size, 0, none⟩) S.A.length S.A.length)).alloc (.cells (Array.replicate S.A.length (Value.slice none 0 0)) 25)).alloc (.cells (u6 (List.replicate S.F.length 0)).toArray 45))).drew) (w1.heap.size + 1) 45 (u6 (List.replicate S.F.length 0)).toArray) := Lib.hid (by have := Bk.new ((((w1.setCell ⟨b, 3, none⟩ (.int .i64 (n : Int))).setCell ⟨b, 4, none⟩ (.slice (some ⟨w1.heap.size + 1, 0, none⟩) S.F.length S.F.length)).setCell ⟨b, 5, none⟩ (.slice (some ⟨w1.heap.size, 0, none⟩) S.A.length S.A.length)).alloc (.cells (Array.replicate S.A.length (Value.slice none 0 0)) 25)) 45 (u6 (List.replicate S.F.length 0)).toArray; have hs : (((w1.setCell ⟨b, 3, none⟩ (.int .i64 (n : Int))).setCell ⟨b, 4, none⟩ (.slice (some ⟨w1.heap.size + 1, 0, none⟩) S.F.length S.F.length)).setCell ⟨b, 5, none⟩ (.slice (some ⟨w1.heap.size, 0, none⟩) S.A.length S.A.length)).heap.size = w1.heap.size := (by simp [World.setCell]); rw [World.size_alloc, hs] at this; exact this)
        have HR5 : Hid (Bk (((((((w1.setCell ⟨b, 3, none⟩ (.int .i64 (n : Int))).setCell ⟨b, 4, none⟩ (.slice (some ⟨w1.heap.size + 1, 0, none⟩) S.F.length S.F.length)).setCell ⟨b, 5, none⟩ (.slice (some ⟨w1.heap.size, 0, none⟩) S.A.length S.A.length)).alloc (.cells (Array.replicate S.A.length (Value.slice none 0 0)) 25)).alloc (.cells (u6 (List.replicate S.F.length 0)).toArray 45))).drew) w1.heap.size 25 (Array.replicate S.A.length (Value.slice none 0 0))) := Lib.hid (by have := (Bk.new (((w1.setCell ⟨b, 3, none⟩ (.int .i64 (n : Int))).setCell ⟨b, 4, none⟩ (.slice (some ⟨w1.heap.size + 1, 0, none⟩) S.F.length S.F.length)).setCell ⟨b, 5, none⟩ (.slice (some ⟨w1.heap.size, 0, none⟩) S.A.length S.A.length)) 25 (Array.replicate S.A.length (Value.slice none 0 0))).alloc (.cells (u6 (List.replicate S.F.length 0)).toArray 45); have hs : (((w1.setCell ⟨b, 3, none⟩ (.int .i64 (n : Int))).setCell ⟨b, 4, none⟩ (.slice (some ⟨w1.heap.size + 1, 0, none⟩) S.F.length S.F.length)).setCell ⟨b, 5, none⟩ (.slice (some ⟨w1.heap.size, 0, none⟩) S.A.length S.A.length)).heap.size = w1.heap.size := (by simp [World.setCell]); rw [hs] at this; exact this)
        have HK5 : Hid (Keep (fun j => j = b) w1 (((((((w1.setCell ⟨b, 3, none⟩ (.int .i64 (n : Int))).setCell ⟨b, 4, none⟩ (.slice (some ⟨w1.heap.size + 1, 0, none⟩) S.F.length S.F.length)).setCell ⟨b, 5, none⟩ (.slice (some ⟨w1.heap.size, 0, none⟩) S.A.length S.A.length)).alloc (.cells (Array.replicate S.A.length (Value.slice none 0 0)) 25)).alloc (.cells (u6 (List.replicate S.F.length 0)).toArray 45))).drew)) := Lib.hid ((((((Keep.refl (fun j => j = b) w1).setCell (p := ⟨b, 3, none⟩) (.inl rfl) _).setCell (p := ⟨b, 4, none⟩) (.inl rfl) _).setCell (p := ⟨b, 5, none⟩) (.inl rfl) _).alloc _).alloc _).drew
        generalize (((((((w1.setCell ⟨b, 3, none⟩ (.int .i64 (n : Int))).setCell ⟨b, 4, none⟩ (.slice (some ⟨w1.heap.size + 1, 0, none⟩) S.F.length S.F.length)).setCell ⟨b, 5, none⟩ (.slice (some ⟨w1.heap.size, 0, none⟩) S.A.length S.A.length)).alloc (.cells (Array.replicate S.A.length (Value.slice none 0 0)) 25)).alloc (.cells (u6 (List.replicate S.F.length 0)).toArray 45))).drew) = W5 at *
        have HI0 : Hid (WsI W5 n S.A.length w1.heap.size [] W5) := Lib.hid ⟨by simpa using HR5.out, by simp, List.nodup_nil, Keep.refl _ _⟩
        have hmk3 := fun W => run_mk_u6 n (by omega) W
        go_loopw [46] (fun v wr => ∃ rs : List Nat, v = .int .i64 (rs.length : Int) ∧ rs.length ≤ S.A.length ∧ Hid (WsI W5 n S.A.length w1.heap.size rs wr)) (fun v _ => S.A.length - (intOf v).toNat)
        case atStart => exact ⟨[], rfl, by simp, HI0⟩
        case round =>
          obtain ⟨rs, rfl, hrl, HI⟩ := hrel
          by_cases hlt : rs.length < S.A.length
          · have c5 : wr.cell? ⟨b, 5, none⟩ = some (.slice (some ⟨w1.heap.size, 0, none⟩) S.A.length S.A.length) := HI.out.2.2.2.cellv (HB5.out.cell 5) (show ¬ b = w1.heap.size by omega)
            have cr : wr.cell? ⟨w1.heap.size, rs.length, none⟩ = some (.slice none 0 0) := (HI.out.1.cell rs.length).trans (by
              obtain ⟨m, hm⟩ : ∃ m, S.A.length - rs.length = m + 1 := ⟨S.A.length - rs.length - 1, by omega⟩
              simp [List.getElem?_append_right, hm])
            have fr := HI.out.1.frozen rs.length
            have hrbw : w1.heap.size < wr.heap.size := HI.out.1.lt
            have hrbn : ¬ w1.heap.size = wr.heap.size := by omega
            have HIS := Lib.hid (HI.out.step hlt)
            have HN : Hid (((wr.setCell ⟨w1.heap.size, rs.length, none⟩ (.slice (some ⟨wr.heap.size, 0, none⟩) n n)).alloc (.cells (u6 (List.replicate n 0)).toArray 45)).drew.cell? ⟨b, 5, none⟩ = some (.slice (some ⟨w1.heap.size, 0, none⟩) S.A.length S.A.length)) := Lib.hid ((Keep.drew ((((Keep.refl (fun j => j = w1.heap.size) wr).setCell (p := ⟨w1.heap.size, rs.length, none⟩) (.inl rfl) _).alloc _))).cellv c5 (show ¬ b = w1.heap.size by omega))
            have hI0 : (0 : Int) ≤ (rs.length : Int) := by omega
            have hI1 : (rs.length : Int) < (S.A.length : Int) := by omega
            clear HI
            go_upto_region 8 with (fail)
            go_region_held3 (fun w' => w'.cell? ⟨b, 5, none⟩ = some (.slice (some ⟨w1.heap.size, 0, none⟩) S.A.length S.A.length)) (first | (with_reducible exact HN.out) | go_keep) (fail)
            all_goals go_wp2
            go_roundw
            case rel => exact ⟨rs ++ [wr.heap.size], by rw [List.length_append]; go_num, by rw [List.length_append]; simp; omega, Lib.hid HIS.out.drew⟩
            case measure => simp only [intOf]; omega
          · have hrl2 : rs.length = S.A.length := by omega
            have HD := Lib.hid (Rd0.done HR1.out (fun k hk => Nat.lt_of_lt_of_le (HP.out k hk) K1.size) HB5.out HV5.out (by omega) (by omega) (by omega) HK5.out HI.out hrl2 (by omega) (HOK.out (by first | trivial | rfl)).1)
            have hrl3 : (rs.length : Int) = (S.A.length : Int) := by omega
            clear HI hlt hrl hrl2
            rw [hrl3]
            go_wp2
            go_ret
            exact ⟨rfl, (K1.mono fun _ _ h => h.elim).trans HD.out.2 fun _ _ h => h, fun _ => ⟨_, _, rs, HD.out.1⟩⟩
end
end Go.Proofs.YtmnhgeggojgflaaGreatDoor
