/- A map that the call itself has made, as a finite function from typed keys to typed values: what a lookup and an update of it do. No condition. -/
import Derived.Maps.Keyed
import Derived.WalkKit
import Derived.WalkSpells
set_option linter.unusedVariables false
set_option linter.unusedSimpArgs false
namespace Go.Proofs.Ytengdldkkmknpaa
open Go.RowKit

/-- Block b of w is a map with typed keys and values; it reads as the partial function g. -/
def MapT {κ υ : Type} (P : Program) (k : TypeId) (enc : κ → Value) (encv : υ → Value) (Ok : κ → Prop) (w : World) (b : Nat) (g : κ → Option υ) : Prop :=
  ∃ es clock, w.heap[b]? = some (.map es clock) ∧
    (∀ e ∈ es.toList, ∃ x v, e.key = enc x ∧ Ok x ∧ e.val = encv v ∧ g x = some v) ∧
    (∀ x v, g x = some v → ∃ e ∈ es.toList, e.key = enc x) ∧
    (es.toList.map (·.key)).Nodup

/-- How typed keys are written as values. -/
structure KeyEnc (P : Program) (k : TypeId) {κ : Type} (enc : κ → Value) (Ok : κ → Prop) : Prop where
  keyed : Maps.Keyed P k
  inj : ∀ x y, enc x = enc y → x = y
  ok : ∀ x, Ok x → ∃ l, keyOf P k (enc x) = some l

section
variable {κ υ : Type} {P : Program} {k : TypeId} {enc : κ → Value} {encv : υ → Value} {Ok : κ → Prop} {w w' : World} {b : Nat} {g : κ → Option υ}

theorem MapT.new (w : World) (P : Program) (k : TypeId) (enc : κ → Value) (encv : υ → Value) (Ok : κ → Prop) : MapT P k enc encv Ok (w.alloc (.map #[] 0)) w.heap.size (fun _ => none) :=
  ⟨#[], 0, (MapKept.heap_alloc w _).1, by simp, by simp, by simp⟩

theorem MapT.lt (h : MapT P k enc encv Ok w b g) : b < w.heap.size := by
  obtain ⟨es, clock, hb, _⟩ := h
  exact (Array.getElem?_eq_some_iff.1 hb).1

theorem MapT.ne_bk (h : MapT P k enc encv Ok w b g) {b' : Nat} {t : TypeId} {cs : Array Value} (h' : w.heap[b']? = some (.cells cs t (0, 0))) : b ≠ b' := by
  rintro rfl
  obtain ⟨es, clock, hb, _⟩ := h
  rw [hb] at h'
  cases h'

theorem own_ne_map {base : Nat} {e : TypeId} {size n : Nat} {v : Value} {xs : List Value} (h : w.ownsRow base e size v n xs) (hm : MapT P k enc encv Ok w b g) : v.ownBlock ≠ some b := by
  intro he
  rcases h.2 with ⟨rfl, _⟩ | ⟨g', _, _, rfl, _, hh, _⟩
  · simp [Value.ownBlock] at he
  · obtain ⟨_, _, h2, _⟩ := hm
    simp only [Value.ownBlock, Option.some.injEq] at he
    rw [← he, hh] at h2
    cases h2

theorem MapT.congr {g' : κ → Option υ} (h : MapT P k enc encv Ok w b g) (hg : ∀ x, g x = g' x) : MapT P k enc encv Ok w b g' := by
  have : g = g' := funext hg
  exact this ▸ h

theorem MapT.block (h : MapT P k enc encv Ok w b g) (hb : w'.heap[b]? = w.heap[b]?) : MapT P k enc encv Ok w' b g := by
  obtain ⟨es, clock, h1, h2⟩ := h
  exact ⟨es, clock, hb.trans h1, h2⟩

/-- 'm[k]', with or without ok. -/
theorem MapT.look (h : MapT P k enc encv Ok w b g) (K : KeyEnc P k enc Ok) {t e : TypeId} (ht : P.underlying t = some (.map k e)) {z : Value} (hz : (zeroValue e).run P w = .ok z w) {x : κ} (hx : Ok x) (c : Bool) :
    (Instr.lookup t (.map (some b)) (enc x) c).run P w = .ok (if c then .tuple #[((g x).map encv).getD z, .bool (g x).isSome] else ((g x).map encv).getD z) w := by
  obtain ⟨es, clock, hb, h1, h2, h3⟩ := h
  obtain ⟨l, hl⟩ := K.ok x hx
  have hk : ∀ e ∈ es.toList, ∃ l, keyOf P k e.key = some l := fun e he => by
    obtain ⟨y, v, hy, ho, _⟩ := h1 e he
    rw [hy]; exact K.ok y ho
  rcases K.keyed.find w hl es.toList hk with ⟨hf, hn⟩ | ⟨j, e0, hf, hj, he⟩
  · have hg : g x = none := by
      cases hgx : g x with
      | none => rfl
      | some v =>
        obtain ⟨e, he, hek⟩ := h2 x v hgx
        exact absurd hek (hn e he)
    simp [Instr.lookup, run_underlying ht, MapKept.run_getObj_map hb, K.keyed.check w _ hl, hf, hz, Result.andThen, hg]
  · obtain ⟨y, v, hy, _, hv, hgy⟩ := h1 e0 (List.mem_of_getElem? hj)
    have hxy : y = x := K.inj _ _ (hy.symm.trans he)
    subst hxy
    simp [Instr.lookup, run_underlying ht, MapKept.run_getObj_map hb, K.keyed.check w _ hl, hf, Result.andThen, hgy, hv]

open Classical in
/-- 'm[k] = v'. -/
theorem MapT.upd (h : MapT P k enc encv Ok w b g) (K : KeyEnc P k enc Ok) {t e : TypeId} (ht : P.underlying t = some (.map k e)) {x : κ} (hx : Ok x) (v : υ) :
    ∃ w', (Instr.mapUpdate t (.map (some b)) (enc x) (encv v)).run P w = .ok () w' ∧ MapT P k enc encv Ok w' b (fun y => if y = x then some v else g y) ∧ w.grownBy w' (some b) ∧ w'.heap.size = w.heap.size := by
  obtain ⟨es, clock, hb, h1, h2, h3⟩ := h
  obtain ⟨l, hl⟩ := K.ok x hx
  have hk : ∀ e ∈ es.toList, ∃ l, keyOf P k e.key = some l := fun e he => by
    obtain ⟨y, v, hy, ho, _⟩ := h1 e he
    rw [hy]; exact K.ok y ho
  have hgr : ∀ o : Obj, w.grownBy (ChangeMaps.setBlock w b o) (some b) := fun o =>
    ⟨rfl, rfl, rfl, by simp [ChangeMaps.setBlock], fun i _ hi => ChangeMaps.heap_setBlock_other hb _ (fun e => hi (by rw [e]))⟩
  rcases K.keyed.find w hl es.toList hk with ⟨hf, hn⟩ | ⟨j, e0, hf, hj, he⟩
  · refine ⟨ChangeMaps.setBlock w b (.map (es.push ⟨enc x, encv v, clock⟩) (clock + 1)), ?_, ⟨_, _, ChangeMaps.heap_setBlock_same hb _, ?_, ?_, ?_⟩, hgr _, by simp [ChangeMaps.setBlock]⟩
    · simp [Instr.mapUpdate, run_underlying ht, MapKept.run_getObj_map hb, K.keyed.check w false hl, hf, MapKept.run_setObj_map _ hb, Result.andThen, ChangeMaps.setBlock]
    · intro e he
      simp only [Array.toList_push, List.mem_append, List.mem_singleton] at he
      rcases he with he | rfl
      · obtain ⟨y, u, hy, ho, hv, hg⟩ := h1 e he
        refine ⟨y, u, hy, ho, hv, ?_⟩
        have hne : y ≠ x := fun hyx => hn e he (by rw [hy, hyx])
        simp [hne, hg]
      · exact ⟨x, v, rfl, hx, rfl, by simp⟩
    · intro y u hy
      by_cases hyx : y = x
      · exact ⟨⟨enc x, encv v, clock⟩, by simp, by rw [hyx]⟩
      · simp only [hyx, if_false] at hy
        obtain ⟨e, he, hek⟩ := h2 y u hy
        exact ⟨e, by simp only [Array.toList_push, List.mem_append]; exact .inl he, hek⟩
    · simp only [Array.toList_push, List.map_append, List.map_cons, List.map_nil]
      refine List.nodup_append.2 ⟨h3, by simp, fun e he e' he' => ?_⟩
      simp only [List.mem_singleton] at he'
      subst he'
      obtain ⟨e1, he1, rfl⟩ := List.mem_map.1 he
      exact hn e1 he1
  · obtain ⟨y, u, hy, _, hv, hgy⟩ := h1 e0 (List.mem_of_getElem? hj)
    have hxy : y = x := K.inj _ _ (hy.symm.trans he)
    subst hxy
    have hj' : es[j]? = some e0 := by simpa using hj
    have hjl : j < es.size := (Array.getElem?_eq_some_iff.1 hj').1
    have heq : es[j] = e0 := (Array.getElem?_eq_some_iff.1 hj').2
    have hset : (es.modify j fun e => { e with key := enc y, val := encv v }).toList = es.toList.set j ⟨enc y, encv v, e0.born⟩ := by
      rw [Array.toList_modify]
      apply List.ext_getElem?
      intro i
      rw [List.getElem?_modify, List.getElem?_set]
      by_cases hij : j = i
      · subst hij; simp [hjl, heq]
      · simp [hij]
    have hmem : ∀ e ∈ es.toList.set j ⟨enc y, encv v, e0.born⟩, e = ⟨enc y, encv v, e0.born⟩ ∨ (e ∈ es.toList ∧ e.key ≠ enc y) := fun e hm => by
      obtain ⟨i, hi, hei⟩ := List.getElem_of_mem hm
      rw [List.getElem_set] at hei
      by_cases hij : j = i
      · rw [if_pos hij] at hei; exact .inl hei.symm
      · rw [if_neg hij] at hei
        have hil : i < es.toList.length := by simpa using hi
        refine .inr ⟨hei ▸ List.getElem_mem hil, fun hek => hij ?_⟩
        have hjt : es.toList[j]'(by simpa using hjl) = e0 := (List.getElem?_eq_some_iff.1 hj).2
        refine (List.getElem_inj (h₀ := by simpa using hjl) (h₁ := by simpa using hil) h3).1 ?_
        rw [List.getElem_map, List.getElem_map, hjt, hei, he, hek]
    refine ⟨ChangeMaps.setBlock w b (.map (es.modify j fun e => { e with key := enc y, val := encv v }) clock), ?_, ⟨_, _, ChangeMaps.heap_setBlock_same hb _, ?_, ?_, ?_⟩, hgr _, by simp [ChangeMaps.setBlock]⟩
    · simp [Instr.mapUpdate, run_underlying ht, MapKept.run_getObj_map hb, K.keyed.check w false hl, hf, hj', he, K.keyed.stays w hl, MapKept.run_setObj_map _ hb, Result.andThen, ChangeMaps.setBlock]
    · intro e he'
      rw [hset] at he'
      rcases hmem e he' with rfl | ⟨hm, hne⟩
      · exact ⟨y, v, rfl, hx, rfl, by simp⟩
      · obtain ⟨z, u', hz, ho, hv', hg⟩ := h1 e hm
        have hzy : z ≠ y := fun hzy => hne (by rw [hz, hzy])
        exact ⟨z, u', hz, ho, hv', by simp [hzy, hg]⟩
    · intro z u' hz
      by_cases hzy : z = y
      · exact ⟨⟨enc y, encv v, e0.born⟩, by rw [hset]; exact List.mem_iff_getElem.2 ⟨j, by simpa using hjl, by simp⟩, by rw [hzy]⟩
      · simp only [hzy, if_false] at hz
        obtain ⟨e, hem, hek⟩ := h2 z u' hz
        obtain ⟨i, hi, hei⟩ := List.getElem_of_mem hem
        have hij : ¬ j = i := fun hij => by
          subst hij
          have hjt : es.toList[j]'(by simpa using hjl) = e0 := (List.getElem?_eq_some_iff.1 hj).2
          rw [hjt] at hei
          rw [← hei, he] at hek
          exact hzy (K.inj _ _ hek.symm)
        refine ⟨e, ?_, hek⟩
        rw [hset]
        refine List.mem_iff_getElem.2 ⟨i, by simpa using hi, ?_⟩
        rw [List.getElem_set, if_neg hij]
        exact hei
    · rw [hset, List.map_set]
      have : (es.toList.map (·.key)).set j (enc y) = es.toList.map (·.key) := by
        apply List.ext_getElem?
        intro i
        rw [List.getElem?_set]
        by_cases hij : j = i
        · subst hij; simp [heq, he, hjl]
        · simp [hij]
      rw [this]
      exact h3

open Classical in
theorem wp_mapT {Q : Exit → Act → World → Prop} {C : Act → World → Prop} {o : Oper} {a : Act} (h : MapT P k enc encv Ok w b g) (K : KeyEnc P k enc Ok) {t e : TypeId} (ht : P.underlying t = some (.map k e)) {x : κ} (hx : Ok x) (v : υ)
    (m kx vx : Operand) (ho : o.op = .mapUpdate t m kx vx) (hm : a.eval m = .map (some b)) (hk : a.eval kx = enc x) (hv : a.eval vx = encv v)
    (next : ∀ w', MapT P k enc encv Ok w' b (fun y => if y = x then some v else g y) → w.grownBy w' (some b) → w'.heap.size = w.heap.size → C (a.put o.dst undef) w') : o.wp P a w C Q := by
  obtain ⟨w', hr, h1, h2, h3⟩ := h.upd K ht hx v
  unfold Oper.wp execOp
  simp only [ho, Sem.run_bind, hm, hk, hv, hr, Result.andThen_ok]
  exact next w' h1 h2 h3

open Classical in
/-- 'm[k] = v' in a plain region. -/
theorem wpList_mapT {Q : Exit → Act → World → Prop} {ops : Array Oper} {rest : List Oper} {o : Oper} {a : Act} (hgd : o.guard = none) (h : MapT P k enc encv Ok w b g) (K : KeyEnc P k enc Ok) {t e : TypeId} (ht : P.underlying t = some (.map k e)) {x : κ} (hx : Ok x) (v : υ)
    (m kx vx : Operand) (ho : o.op = .mapUpdate t m kx vx) (hm : a.eval m = .map (some b)) (hk : a.eval kx = enc x) (hv : a.eval vx = encv v)
    (next : ∀ w', MapT P k enc encv Ok w' b (fun y => if y = x then some v else g y) → w.grownBy w' (some b) → w'.heap.size = w.heap.size → wpList P ops Q rest (a.put o.dst undef) w') : wpList P ops Q (o :: rest) a w :=
  wpList_plain hgd fun _ hK => wp_mapT h K ht hx v m kx vx ho hm hk hv fun w' h1 h2 h3 => hK _ _ (next w' h1 h2 h3)

open Classical in
/-- An entry of a map's literal, in a plain region. -/
theorem wpList_insT {Q : Exit → Act → World → Prop} {ops : Array Oper} {rest : List Oper} {o : Oper} {a : Act} (hgd : o.guard = none) (h : MapT P k enc encv Ok w b g) (K : KeyEnc P k enc Ok) {t e : TypeId} (ht : P.underlying t = some (.map k e)) {x : κ} (hx : Ok x) (v : υ)
    (m kx vx : Operand) (ho : o.op = .insert t m kx vx) (hm : a.eval m = .map (some b)) (hk : a.eval kx = enc x) (hv : a.eval vx = encv v)
    (next : ∀ w', MapT P k enc encv Ok w' b (fun y => if y = x then some v else g y) → w.grownBy w' (some b) → w'.heap.size = w.heap.size → wpList P ops Q rest (a.put o.dst undef) w') : wpList P ops Q (o :: rest) a w :=
  wpList_plain hgd fun C hK => by
    obtain ⟨w', hr, h1, h2, h3⟩ := h.upd K ht hx v
    unfold Oper.wp execOp
    simp only [ho, Sem.run_bind, hm, hk, hv, hr, Result.andThen_ok]
    exact hK _ _ (next w' h1 h2 h3)

open Classical in
/-- 'm[k] = v' at a step of a region that draws its order. -/
theorem step_mapT {Q : Exit → Act → World → Prop} {C : Act → World → Prop} {ops : Array Oper} {o : Oper} {a : Act} {D : Prop} (hgd : o.guard = none) (h : MapT P k enc encv Ok w b g) (K : KeyEnc P k enc Ok) {t e : TypeId} (ht : P.underlying t = some (.map k e)) {x : κ} (hx : Ok x) (v : υ)
    (m kx vx : Operand) (ho : o.op = .mapUpdate t m kx vx) (hm : a.eval m = .map (some b)) (hk : a.eval kx = enc x) (hv : a.eval vx = encv v)
    (next : ∀ w', MapT P k enc encv Ok w' b (fun y => if y = x then some v else g y) → w.grownBy w' (some b) → w'.heap.size = w.heap.size → C (a.put o.dst undef) w') : if Region.wanted o (yielded ops a.tmps) = true then Oper.wp P o a w C Q else D := by
  rw [if_pos (by simp [Region.wanted, hgd])]
  exact wp_mapT h K ht hx v m kx vx ho hm hk hv next
end
end Go.Proofs.Ytengdldkkmknpaa
