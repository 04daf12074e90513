/- Tokens: what the program's function does. No condition. -/
import Derived.Test.YtbidfbojealmlaaGreatDoorPaC
import Derived.Test.YtbidfbojealmlaaGreatDoorPaA
import Derived.Test.YtbidfbojealmlaaGreatDoorSgB
set_option linter.unusedVariables false
set_option linter.unusedSimpArgs false
namespace Go.Proofs.YtbidfbojealmlaaGreatDoor
open Go.RowKit

theorem infoInt1 : (Tryz.prog.info? 3).map (fun i => (i.zero, i.size, i.bytes)) = some (some (.int .i64 0), 1, 8) := by kernel_rfl
theorem eInt1 : ElemT Tryz.prog 34 3 (.int .i64 0) 1 8 := ⟨Tryz.underlying34, info_parts infoInt1, rfl, by omega⟩
abbrev Tk := List (Nat × List UInt8)
def preE (cs : Tk) : Except Nat Tk → Except Nat Tk
  | .ok ts => .ok (cs ++ ts)
  | .error p => .error p
def tW (cs : Tk) : List ByteArray := cs.map fun c => txt c.2
def tA (cs : Tk) : List Value := cs.map fun c => .int .i64 (c.1 : Int)
theorem tW_len (cs : Tk) : (tW cs).length = cs.length := by simp [tW]
/-- What Tokens answers. -/
def TokR (t : ByteArray) (cs : Tk) (p x : Int) : Prop :=
  (4000 < t.size ∧ cs = [] ∧ p = 0 ∧ x = 8) ∨ (t.size ≤ 4000 ∧ ((∃ q : Nat, tokens t.data.toList 0 = .error q ∧ cs = [] ∧ p = q ∧ x = 4) ∨ (tokens t.data.toList 0 = .ok cs ∧ p = 0 ∧ x = 0)))
def TokPost (t : ByteArray) (w : World) (e : Ending) (w' : World) : Prop :=
  ∃ (cs : Tk) (A : Option Addr) (c : Nat) (B : Option Addr) (d : Nat) (p x : Int), e = .returned (.tuple #[.slice A cs.length c, .slice B cs.length d, .int .i64 p, .int .i64 x]) ∧
    Rd w' (.slice A cs.length c) 1 cs.length (strs (tW cs)) ∧ Rd w' (.slice B cs.length d) 1 cs.length (tA cs) ∧ Keep NoF w w' ∧ TokR t cs p x
theorem TokPost.nil {t : ByteArray} {w w' : World} {p x : Int} (hk : Keep NoF w w') (h : TokR t [] p x) : TokPost t w (.returned (.tuple #[.slice none 0 0, .slice none 0 0, .int .i64 p, .int .i64 x])) w' :=
  ⟨[], none, 0, none, 0, p, x, rfl, Rd.nil _ _, Rd.nil _ _, hk, h⟩
theorem own_apart {w : World} {base base' : Nat} {e e' : TypeId} {size size' n n' : Nat} {v v' : Value} {xs xs' : List Value} (h : w.ownsRow base e size v n xs) (h' : w.ownsRow base' e' size' v' n' xs') (hne : e ≠ e') : ∀ g, v.ownBlock = some g → v'.ownBlock ≠ some g := by
  rintro g hv hv'
  rcases h.2 with ⟨rfl, _⟩ | ⟨g1, cap, cur, rfl, hb, hg, hr⟩
  · cases hv
  · rcases h'.2 with ⟨rfl, _⟩ | ⟨g2, cap2, cur2, rfl, hb2, hg2, hr2⟩
    · cases hv'
    · have e1 : g1 = g := by simpa [Value.ownBlock] using hv
      have e2 : g2 = g := by simpa [Value.ownBlock] using hv'
      subst e1 e2
      rw [hg] at hg2
      injection hg2 with h1
      injection h1 with _ h2
      exact hne h2
theorem space_iff (b : UInt8) : 0 ≤ Lib.indexByte [32, 9, 10] b ↔ spaceB b = true := by
  have h : ∀ n : Fin 256, decide (0 ≤ Lib.indexByte [32, 9, 10] (UInt8.ofNat n.val)) = spaceB (UInt8.ofNat n.val) := by decide +kernel
  have := h ⟨b.toNat, b.toNat_lt⟩
  simp at this
  rw [← this, decide_eq_true_iff]
theorem ext_drop (t : ByteArray) (i : Nat) : (t.extract i t.size).data.toList = t.data.toList.drop i := by
  rw [Lib.extract_data]
  exact List.take_of_length_le (by simp [data_len])
theorem ext_txt (t : ByteArray) (i n : Nat) : t.extract i (i + n) = txt ((t.data.toList.drop i).take n) := by
  refine ba_ext ?_
  rw [Lib.extract_data, data_txt, Nat.add_sub_cancel_left]
theorem pre_end {l : List UInt8} {cs : Tk} {i : Nat} (h : l.length ≤ i) : preE cs (tokens l i) = .ok cs := by
  rw [tokens_end h]; simp [preE]
theorem pre_bad {l : List UInt8} {cs : Tk} {i : Nat} {b : UInt8} (h : l[i]? = some b) (hs : spaceB b = false) (hn : lenT (l.drop i) = 0) : preE cs (tokens l i) = .error i := by
  rw [tokens_bad h hs hn]; rfl
theorem pre_word {l : List UInt8} {cs : Tk} {i : Nat} {b : UInt8} (h : l[i]? = some b) (hs : spaceB b = false) (hn : lenT (l.drop i) ≠ 0) : preE cs (tokens l i) = preE (cs ++ [(i, (l.drop i).take (lenT (l.drop i)))]) (tokens l (i + lenT (l.drop i))) := by
  rw [tokens_word h hs hn]
  cases tokens l (i + lenT (l.drop i)) with
  | ok ts => simp [preE]
  | error p => rfl
theorem tW_snoc (cs : Tk) (c : Nat × List UInt8) : strs (tW cs) ++ [.string (txt c.2)] = strs (tW (cs ++ [c])) := by simp [tW, strs]
theorem tA_snoc (cs : Tk) (c : Nat × List UInt8) : tA cs ++ [.int .i64 (c.1 : Int)] = tA (cs ++ [c]) := by simp [tA]
section
set_option maxRecDepth 100000
set_option maxHeartbeats 2000000
theorem Tokens_any (t : ByteArray) (ht : t.size ≤ 9223372036854775807) (w : World) : Calls Tryz.prog 17 #[.string t] w (TokPost t w) := by
  by_cases hbig : 4000 < t.size
  · go_enter Tryz.func17, Tryz.ntmps17
    go_wp2
    refine bodyPost_ret (v := .tuple #[.slice none 0 0, .slice none 0 0, .int .i64 0, .int .i64 8]) (by simp [results, Tryz.results17, go_sem]) rfl ?_
    exact TokPost.nil (Keep.refl _ _) (.inl ⟨hbig, rfl, rfl, rfl⟩)
  · have HB := Lib.hid fun (k : Nat) (hk : k < t.size) => at_list t k hk
    have HSP := Lib.hid fun (b : UInt8) => space_iff b
    have HLE := Lib.hid (data_len t)
    go_enter Tryz.func17, Tryz.ntmps17
    go_wp2
    go_loopw [2, 3, 6] (fun wv av iv wr => ∃ (i : Nat) (cs : Tk), iv = .int .i64 i ∧ i ≤ t.size ∧ cs.length ≤ i ∧ Hid (tokens t.data.toList 0 = preE cs (tokens t.data.toList i)) ∧ wr.ownsRow w.heap.size 9 1 wv cs.length (strs (tW cs)) ∧ wr.ownsRow w.heap.size 3 1 av cs.length (tA cs) ∧ Keep NoF w wr) (fun _ _ iv _ => t.size - (intOf iv).toNat)
    case atStart =>
      refine ⟨0, [], rfl, by omega, Nat.le_refl _, Lib.hid ?_, World.ownsRow_nil _ _ _ _, World.ownsRow_nil _ _ _ _, Keep.refl _ _⟩
      cases tokens t.data.toList 0 <;> simp [preE]
    case round =>
      obtain ⟨i, cs, rfl, hi, hcl, HT, ho1, ho2, hkr⟩ := hrel
      have hz := hkr.size
      by_cases hlt : i < t.size
      · have hlt' : (i : Int) < (t.size : Int) := by omega
        have hi0 : (0 : Int) ≤ (i : Int) := by omega
        have HBi := Lib.hid (HB.out i hlt)
        have HIX := Lib.hid fun W => Tryz.strings_IndexByte ⟨#[32, 9, 10]⟩ (t[i].toNat : Int) W
        rw [byte_back] at HIX
        cases hs : spaceB t[i] with
        | true =>
          have hge : (0 : Int) ≤ Lib.indexByte [32, 9, 10] t[i] := (HSP.out _).2 hs
          have HT2 : Hid (tokens t.data.toList 0 = preE cs (tokens t.data.toList (i + 1))) := Lib.hid (by rw [HT.out, tokens_space HBi.out hs])
          clear hs
          go_wp2_with (go_at_call 38; (with_reducible refine (HIX.out _).mono ?_); rintro e w' ⟨rfl, hw'⟩; obtain rfl := hw'.symm)
          go_roundw
          case rel => exact ⟨i + 1, cs, by go_num, by omega, by omega, HT2, ho1, ho2, hkr⟩
          case measure => simp only [intOf]; omega
        | false =>
          have hge : ¬ (0 : Int) ≤ Lib.indexByte [32, 9, 10] t[i] := fun h => by have := (HSP.out _).1 h; rw [hs] at this; cases this
          have hdl := ext_drop t i
          have hsz : (t.extract i t.size).size = t.size - i := by
            rw [← data_len, hdl, List.length_drop, HLE.out]
          have hL := Lib.hid fun W => length_any (t.extract i t.size) (by omega) (by omega) W
          rw [hdl] at hL
          have hle := lenT_le (t.data.toList.drop i)
          rw [List.length_drop, HLE.out] at hle
          have HBAD := Lib.hid (pre_bad (cs := cs) HBi.out hs)
          have HW := Lib.hid (pre_word (cs := cs) HBi.out hs)
          have HEX := Lib.hid (ext_txt t i (lenT (t.data.toList.drop i)))
          clear hs hdl hsz
          generalize lenT (t.data.toList.drop i) = n at *
          by_cases hn : n = 0
          · have HE : Hid (tokens t.data.toList 0 = .error i) := Lib.hid (HT.out.trans (HBAD.out hn))
            subst hn
            clear HW HBAD
            go_wp2_with (first
              | (go_at_call 38; (with_reducible refine (HIX.out _).mono ?_); rintro e w' ⟨rfl, hw'⟩; obtain rfl := hw'.symm)
              | (go_at_call 39; (with_reducible refine (hL.out _).mono ?_); rintro e w2 ⟨rfl, hk2⟩))
            refine bodyPost_ret (v := .tuple #[.slice none 0 0, .slice none 0 0, .int .i64 i, .int .i64 4]) (by simp [results, Tryz.results17, go_sem]) rfl ?_
            exact TokPost.nil (hkr.trans hk2 fun _ _ h => h) (.inr ⟨by omega, .inl ⟨i, HE.out, rfl, rfl, rfl⟩⟩)
          · have hn0 : ((n : Int) == 0) = false := beq_eq_false_iff_ne.2 (by omega)
            have HT2 := Lib.hid (HT.out.trans (HW.out hn))
            have hin : (i : Int) + n ≤ t.size := by omega
            have hn1 : 0 < n := by omega
            have hin0 : (i : Int) ≤ (i : Int) + n := by omega
            have HEX2 : Hid (.string (t.extract i (i + n)) = Value.string (txt ((t.data.toList.drop i).take n))) := Lib.hid (by rw [HEX.out])
            clear HW HBAD hn HEX
            have hap := own_apart ho2 ho1 (by decide)
            obtain ⟨A, c, rfl⟩ := own_form ho1
            obtain ⟨B, d, rfl⟩ := own_form ho2
            go_wp2_with (first
              | (go_at_call 38; (with_reducible refine (HIX.out _).mono ?_); rintro e w' ⟨rfl, hw'⟩; obtain rfl := hw'.symm)
              | (go_at_call 39
                 (with_reducible refine (hL.out _).mono ?_)
                 rintro e w2 ⟨rfl, hk2⟩
                 have hkr2 := hkr.trans hk2 fun _ _ h => h
                 have hz2 := hkr2.size
                 have ho12 := own_keep ho1 fun k hk => hk2.block k (ho1.lt k hk).2 fun h => h
                 have ho22 := own_keep ho2 fun k hk => hk2.block k (ho2.lt k hk).2 fun h => h)
              | (at_builtin
                 refine wpList_app (by rfl) eStrs (.tmp 29) (.tmp 36) (by rfl) (by rfl) (ho12.alloc _) ⟨w2.heap.size, 0, none⟩ 1 1 [.string (t.extract i (i + n))] (by rfl) (by rfl)
                   (World.news_of_block (cs := #[.string (t.extract i (i + n))]) (t := 9) (fr := (0, 0)) (heap_alloc_new w2 _)) (by simp [Value.oneCell']) (by omega) (by omega) (by omega) (by simp; omega) ?_
                 intro g4 cap4 w4 hown4 hA4
                 have ho24 := own_keep (ho22.alloc (.cells #[.string (t.extract i (i + n))] 9)) fun k hk => hA4.grown.block k (by have := (ho22.lt k hk).2; rw [World.size_alloc]; omega) fun e => hap k hk e.symm)
              | (at_builtin

                 refine wpList_app ?_ eInt1 (.tmp 38) (.tmp 40) ?_ ?_ (ho24.alloc _) ⟨w4.heap.size, 0, none⟩ 1 1 [.int .i64 (i : Int)] ?_ ?_ ?_ ?_ ?_ ?_ ?_ ?_ ?_
                 · rfl
                 · rfl
                 · rfl
                 · rfl
                 · rfl
                 · exact World.news_of_block (cs := #[.int .i64 (i : Int)]) (t := 3) (fr := (0, 0)) (heap_alloc_new w4 _)
                 · simp [Value.oneCell']
                 · omega
                 · omega
                 · omega
                 · have := hA4.grown.size; simp at this ⊢; omega
                 intro g5 cap5 w5 hown5 hA5))
            go_roundw
            case rel =>
              have hk5 : Keep NoF w w5 := (((hkr2.alloc _).grown hA4.grown fun x hx => .inr (ho1.lt x hx).1).alloc _).grown hA5.grown fun x hx => .inr (ho2.lt x hx).1
              refine ⟨i + n, cs ++ [(i, (t.data.toList.drop i).take n)], by go_num, by omega, by simp; omega, HT2, ?_, ?_, hk5⟩
              · rw [← tW_snoc, List.length_append]
                rw [HEX2.out] at hown4
                refine own_keep hown4 fun k hk => ?_
                rw [hA5.grown.block k (by rw [World.size_alloc]; have := (hown4.lt k hk).2; omega) fun e => ?_]
                · exact Below.heap_alloc w4 _ k (hown4.lt k hk).2
                · exact own_apart ho24 hown4 (by decide) k e.symm hk
              · rw [← tA_snoc, List.length_append]
                exact hown5
            case measure => simp only [intOf]; omega
      · obtain rfl : i = t.size := by omega
        have HE : Hid (tokens t.data.toList 0 = .ok cs) := Lib.hid (HT.out.trans (pre_end (by rw [HLE.out]; omega)))
        obtain ⟨A, c, rfl⟩ := own_form ho1
        obtain ⟨B, d, rfl⟩ := own_form ho2
        go_wp2
        refine bodyPost_ret (v := .tuple #[.slice A cs.length c, .slice B cs.length d, .int .i64 0, .int .i64 0]) (by simp [results, Tryz.results17, go_sem]) rfl ?_
        exact ⟨cs, A, c, B, d, 0, 0, rfl, Rd.of_own ho1, Rd.of_own ho2, hkr, .inr ⟨by omega, .inr ⟨HE.out, rfl, rfl⟩⟩⟩
end
end Go.Proofs.YtbidfbojealmlaaGreatDoor
