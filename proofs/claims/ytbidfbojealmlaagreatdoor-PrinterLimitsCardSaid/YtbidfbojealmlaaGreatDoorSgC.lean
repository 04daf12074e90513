/- Lists of names joined to one: append of a whole slice; what the library's Concat does on short lists. No condition. -/
import Derived.Test.YtbidfbojealmlaaGreatDoorSgR
import Derived.Laws.OwnMore
set_option linter.unusedVariables false
set_option linter.unusedSimpArgs false
namespace Go.Proofs.YtbidfbojealmlaaGreatDoor
open Go.RowKit

section
variable {P : Program} {w : World} {t e : TypeId} {z : Value} {size bytes : Nat}
/-- append of all that a slice holds. -/
theorem run_apps (E : ElemT P t e z size bytes) (ty : TypeId) {base : Nat} {v : Value} {n : Nat} {xs : List Value} (hown : w.ownsRow base e size v n xs) (A : Option Addr) (m c : Nat) (news : List Value)
    (hrd : Rd w (.slice A m c) size m news) (h1 : ∀ u ∈ news, u.oneCell' = true) (h63 : n + m ≤ 9223372036854775807) (hbytes : (n + m) * bytes ≤ 140737488355328) (hbase : base ≤ w.heap.size) :
    ∃ v' w', (Builtin.append_ #[t, t] ty #[v, .slice A m c]).run P w = .ok v' w' ∧ w'.ownsRow base e size v' (n + m) (xs ++ news) ∧ w.grownBy w' v.ownBlock := by
  by_cases hm : 0 < m
  · obtain ⟨_, _, bl, off, rfl, hc⟩ := hrd.at_ hm
    obtain ⟨g, cap, w', h2, h3, h4⟩ := run_app (P := P) (w := w) E ty hown ⟨bl, off, none⟩ m c news hrd.1 (fun j u hj => by rw [Addr.add_lit]; exact hc j u hj) h1 hm h63 hbytes hbase
    exact ⟨_, w', h2, h3, h4.grown⟩
  · obtain rfl : m = 0 := by omega
    have hn : news = [] := List.eq_nil_of_length_eq_zero (by simpa using hrd.1)
    subst hn
    obtain ⟨i, hi, hz, rfl, rfl⟩ := E.info
    refine ⟨v, w, ?_, by simpa using hown, World.grownBy.refl _ _⟩
    rcases hown.2 with ⟨rfl, rfl⟩ | ⟨g, cap, cur, rfl, _, _, hnc, _⟩
    · cases A <;> simp [Builtin.append_, run_underlying E.under, sizeOf, typeInfo, hi, Builtin.lenOf, Builtin.firstCells, storeCells, loadCells, loadCellsFrom]
    · cases A <;> simp [Builtin.append_, run_underlying E.under, sizeOf, typeInfo, hi, Builtin.lenOf, Builtin.firstCells, hnc, storeCells, loadCells, loadCellsFrom]
theorem wp_apps {Q : Exit → Act → World → Prop} {K : Act → World → Prop} {o : Oper} {a : Act} (E : ElemT P t e z size bytes) (s x : Operand)
    (ho : o.op = .call { callee := .builtin .append, args := #[s, x], argTypes := #[t, t] }) {base : Nat} {v : Value} {n : Nat} {xs : List Value} (hs : a.eval s = v) (hown : w.ownsRow base e size v n xs)
    (A : Option Addr) (m c : Nat) (news : List Value) (hx : a.eval x = .slice A m c) (hrd : Rd w (.slice A m c) size m news) (h1 : ∀ u ∈ news, u.oneCell' = true)
    (h63 : n + m ≤ 9223372036854775807) (hbytes : (n + m) * bytes ≤ 140737488355328) (hbase : base ≤ w.heap.size)
    (h : ∀ v' w', w'.ownsRow base e size v' (n + m) (xs ++ news) → w.grownBy w' v.ownBlock → K (a.put o.dst v') w') : o.wp P a w K Q := by
  obtain ⟨v', w', hr, h2, h3⟩ := run_apps (P := P) (w := w) E o.type hown A m c news hrd h1 h63 hbytes hbase
  unfold Oper.wp execOp
  simp only [ho, resolve, invoke, builtin, Sem.run_bind, Sem.run_pure, Result.andThen_ok, List.map_toArray, List.map_cons, List.map_nil, hs, hx, hr]
  exact h v' w' h2 h3
theorem wpList_apps {Q : Exit → Act → World → Prop} {ops : Array Oper} {rest : List Oper} {o : Oper} {a : Act} (hgd : o.guard = none) (E : ElemT P t e z size bytes) (s x : Operand)
    (ho : o.op = .call { callee := .builtin .append, args := #[s, x], argTypes := #[t, t] }) {base : Nat} {v : Value} {n : Nat} {xs : List Value} (hs : a.eval s = v) (hown : w.ownsRow base e size v n xs)
    (A : Option Addr) (m c : Nat) (news : List Value) (hx : a.eval x = .slice A m c) (hrd : Rd w (.slice A m c) size m news) (h1 : ∀ u ∈ news, u.oneCell' = true)
    (h63 : n + m ≤ 9223372036854775807) (hbytes : (n + m) * bytes ≤ 140737488355328) (hbase : base ≤ w.heap.size)
    (h : ∀ v' w', w'.ownsRow base e size v' (n + m) (xs ++ news) → w.grownBy w' v.ownBlock → wpList P ops Q rest (a.put o.dst v') w') : wpList P ops Q (o :: rest) a w :=
  wpList_plain hgd fun _ hK => wp_apps E s x ho hs hown A m c news hx hrd h1 h63 hbytes hbase fun v' w' h2 h3 => hK _ _ (h v' w' h2 h3)
end
theorem strs_one (l : List ByteArray) : ∀ u ∈ strs l, u.oneCell' = true := by
  intro u hu
  obtain ⟨x, _, rfl⟩ := List.mem_map.1 hu
  rfl

/-- A new list of strings. -/
def NewL (w : World) (l : List ByteArray) (v : Value) (w' : World) : Prop := w'.ownsRow w.heap.size 9 1 v l.length (strs l) ∧ Keep NoF w w'

theorem infoStr2 : ∃ i, Tryz.prog.info? (Tryz.grow4_ren.t 25) = some i ∧ i.zero = some (.string ⟨#[]⟩) ∧ i.size = 1 ∧ i.bytes = 16 := info_parts infoStr
theorem grow_any (n : Nat) (hn : n ≤ 1000) (w : World) : Calls Tryz.prog 78 #[.slice none 0 0, .int .i64 n] w fun e w' => ∃ v, e = .returned v ∧ NewL w [] v w' := by
  by_cases h0 : n = 0
  · subst h0
    have h := Any8.slices_Grow_room Tryz.grow4 none 0 0 0 w (by omega) (by omega) (by omega) (by omega)
    refine h.mono ?_
    rintro e w' ⟨rfl, hw⟩
    subst hw
    exact ⟨_, rfl, World.ownsRow_nil _ _ _ _, Keep.refl _ _⟩
  · obtain ⟨i, h1, h2, h3, h4⟩ := infoStr2
    have h := Any8.slices_Grow_grow Tryz.grow4 i (.string ⟨#[]⟩) h1 h2 (by omega) none 0 0 n [] w (by omega) (by omega) (by rw [h4]; omega) (by omega) (by simp) (fun _ => rfl) (fun a ha => by cases ha)
    refine h.mono ?_
    rintro e w' ⟨rfl, hw⟩
    have hge : 0 + n ≤ grownCap w (0 + n) 0 (Tryz.grow4_ren.t 25) := grownCap_ge w _ _ _
    have hcm : grownCap w (0 + n) 0 (Tryz.grow4_ren.t 25) ≤ maxLen := grownCap_le_maxLen w (0 + n) 0 _ (by unfold maxLen; omega)
    generalize grownCap w (0 + n) 0 (Tryz.grow4_ren.t 25) = G at *
    refine ⟨_, rfl, ⟨rfl, .inr ⟨w.heap.size, G, _, rfl, Nat.le_refl _, by rw [hw]; exact heap_alloc_new w.drew _, by simp, hcm, ?_, by simp⟩⟩, by rw [hw]; exact ((Keep.refl NoF w).drew).alloc _⟩
    simp only [Array.size_append, List.size_toArray, List.length_nil, size_zeroCells, Value.cells]
    simp
    omega

/-- Slices of names, one behind another. -/
def catL (V : List (Option Addr × Nat × List ByteArray)) : List ByteArray := (V.map (·.2.2)).flatten
theorem catL_succ {V : List (Option Addr × Nat × List ByteArray)} {k : Nat} {x} (h : V[k]? = some x) : catL (V.take (k + 1)) = catL (V.take k) ++ x.2.2 := by
  rw [List.take_add_one, h]
  simp [catL]
theorem catL_le (V : List (Option Addr × Nat × List ByteArray)) (k : Nat) : (catL (V.take k)).length ≤ (catL V).length := by
  have h : catL V = catL (V.take k) ++ catL (V.drop k) := by
    unfold catL
    rw [← List.flatten_append, ← List.map_append, List.take_append_drop]
  rw [h, List.length_append]
  omega
section
set_option maxRecDepth 100000
set_option maxHeartbeats 1000000
theorem Concat_any (V : List (Option Addr × Nat × List ByteArray)) (bl off c : Nat) (w : World) (hV : V.length ≤ 1000) (hn : (catL V).length ≤ 1000)
    (hc : ∀ (k : Nat) x, V[k]? = some x → w.cell? ⟨bl, off + k, none⟩ = some (.slice x.1 x.2.2.length x.2.1) ∧ Rd w (.slice x.1 x.2.2.length x.2.1) 1 x.2.2.length (strs x.2.2)) :
    Calls Tryz.prog 48 #[.slice (some ⟨bl, off, none⟩) V.length c] w fun e w' => ∃ v, e = .returned v ∧ NewL w (catL V) v w' := by
  have HC := Lib.hid hc
  have HLE := Lib.hid (catL_le V)
  have HSC := Lib.hid (fun k x => @catL_succ V k x)
  clear hc
  go_enter Tryz.func48, Tryz.ntmps48
  go_wp2
  go_loopw [3, 11] (fun s i wr => ∃ k : Nat, i = .int .i64 k ∧ s = .int .i64 (catL (V.take k)).length ∧ k ≤ V.length ∧ wr = w) (fun _ i _ => V.length - (intOf i).toNat)
  case atStart => exact ⟨0, rfl, rfl, by omega, rfl⟩
  case round =>
    obtain ⟨k, rfl, rfl, hk, hw⟩ := hrel
    obtain rfl := hw.symm; clear hw
    by_cases hlt : k < V.length
    · have hx : V[k]? = some V[k] := List.getElem?_eq_getElem hlt
      obtain ⟨h1, h2⟩ := HC.out k _ hx
      have h3 := congrArg List.length (HSC.out k _ hx)
      rw [List.length_append] at h3
      have h4 := HLE.out (k + 1)
      clear hx h2
      generalize V[k] = x at *
      obtain ⟨A, cx, l⟩ := x
      simp only at h1 h3
      have H3 : Hid ((catL (V.take (k + 1))).length = (catL (V.take k)).length + l.length) := Lib.hid h3
      rw [h3] at h4
      clear h3
      go_wp2
      go_roundw
      case rel => exact ⟨k + 1, by go_num, by rw [H3.out]; go_num, by omega, by trivial⟩
      case measure => simp only [intOf]; omega
    · obtain rfl : k = V.length := by omega
      have HTL : Hid (catL (V.take V.length) = catL V) := Lib.hid (by rw [List.take_length])
      rw [HTL.out]
      have HG := Lib.hid (grow_any (catL V).length hn w)
      go_wp2_with (go_at_call 78; (with_reducible refine HG.out.mono ?_); rintro e w1 ⟨v1, rfl, hown1, hk1⟩)
      go_loopw [6, 27] (fun v i wr => ∃ k : Nat, i = .int .i64 k ∧ k ≤ V.length ∧ wr.ownsRow w.heap.size 9 1 v (catL (V.take k)).length (strs (catL (V.take k))) ∧ Keep NoF w wr) (fun _ i _ => V.length - (intOf i).toNat)
      case atStart => exact ⟨0, rfl, by omega, hown1, hk1⟩
      case round =>
        obtain ⟨k, rfl, hk, hown, hkr⟩ := hrel
        by_cases hlt : k < V.length
        · have hx : V[k]? = some V[k] := List.getElem?_eq_getElem hlt
          obtain ⟨h1, h2⟩ := HC.out k _ hx
          have h3 := HSC.out k _ hx
          have h4 := HLE.out (k + 1)
          rw [h3, List.length_append] at h4
          have H3 := Lib.hid h3
          clear hx h3
          generalize V[k] = x at *
          obtain ⟨A, cx, l⟩ := x
          simp only at h1 h2 h4
          have h5 : wr.cell? ⟨bl, off + k, none⟩ = some (.slice A l.length cx) := hkr.cellv h1 fun h => h
          have h6 := Lib.hid (h2.kept hkr fun _ _ h => h)
          have hsz := hkr.size
          clear h1 h2
          obtain ⟨B, cb, rfl⟩ := own_form hown
          go_wp2_with (at_builtin
                       refine wpList_apps (by rfl) eStrs (.tmp 31) (.tmp 32) (by rfl) (by rfl) hown A l.length cx (strs l) (by rfl) h6.out (strs_one l) (by omega) (by omega) hsz ?_
                       intro v4 w4 hown4 hg4)
          go_roundw
          case rel =>
            refine ⟨k + 1, by go_num, by omega, ?_, hkr.grown hg4 fun x hx => .inr (hown.lt x hx).1⟩
            rw [H3.out, List.length_append, strs, List.map_append]
            exact hown4
          case measure => simp only [intOf]; omega
        · obtain rfl : k = V.length := by omega
          rw [HTL.out] at hown
          go_wp2
          go_ret
          exact ⟨_, rfl, hown, hkr⟩
end
end Go.Proofs.YtbidfbojealmlaaGreatDoor
