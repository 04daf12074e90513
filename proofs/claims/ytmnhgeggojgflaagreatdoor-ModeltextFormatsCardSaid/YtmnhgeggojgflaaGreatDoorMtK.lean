/- A map whose entries are found and written in two steps; keys that are numbers and pairs of numbers. No condition. -/
import Derived.Test.YtmnhgeggojgflaaGreatDoorBase
import Derived.Lib.Hide
import Derived.WideKeyEntry
import Derived.DeepKeys4
import Derived.StringKeys
set_option linter.unusedVariables false
set_option linter.unusedSimpArgs false
namespace Go.Proofs.YtmnhgeggojgflaaGreatDoor
open Go.RowKit Go.MapKept

/-- A map with typed keys and values, whose entries bear the numbers of their births. -/
def MapS {κ υ : Type} (P : Program) (k : TypeId) (enc : κ → Value) (encv : υ → Value) (Ok : κ → Prop) (w : World) (b : Nat) (g : κ → Option υ) : Prop :=
  MapT P k enc encv Ok w b g ∧ ∀ es clock, w.heap[b]? = some (.map es clock) → (∀ e ∈ es.toList, e.born < clock) ∧ (es.toList.map (·.born)).Nodup

section
variable {κ υ : Type} {P : Program} {k : TypeId} {enc : κ → Value} {encv : υ → Value} {Ok : κ → Prop} {w w' : World} {b : Nat} {g : κ → Option υ}
theorem MapS.new (w : World) (P : Program) (k : TypeId) (enc : κ → Value) (encv : υ → Value) (Ok : κ → Prop) : MapS P k enc encv Ok (w.alloc (.map #[] 0)) w.heap.size (fun _ => none) :=
  ⟨MapT.new w P k enc encv Ok, fun es clock h => by
    rw [(MapKept.heap_alloc w _).1] at h
    injection h with h
    injection h with h1 h2
    subst h1
    simp⟩
theorem MapS.block (h : MapS P k enc encv Ok w b g) (hb : w'.heap[b]? = w.heap[b]?) : MapS P k enc encv Ok w' b g :=
  ⟨h.1.block hb, fun es clock he => h.2 es clock (hb ▸ he)⟩
theorem MapS.congr {g' : κ → Option υ} (h : MapS P k enc encv Ok w b g) (hg : ∀ x, g x = g' x) : MapS P k enc encv Ok w b g' := ⟨h.1.congr hg, h.2⟩

open Classical in
/-- An entry is found or made; then its value is stored, whatever else has turned between. -/
theorem MapS.entry (h : MapS P k enc encv Ok w b g) (K : KeyEnc P k enc Ok) {t e : TypeId} (ht : P.underlying t = some (.map k e)) {z : Value} (hz : ∀ u : World, (zeroValue e).run P u = .ok z u) {x : κ} (hx : Ok x) (v : υ) :
    ∃ (v0 : Value) (st : Nat) (w1 : World), (Instr.mapEntry t (.map (some b)) (enc x)).run P w = .ok (.tuple #[v0, goInt st]) w1 ∧ w.grownBy w1 (some b) ∧ w1.heap.size = w.heap.size ∧
      ∀ w2 : World, w2.heap[b]? = w1.heap[b]? → ∃ w3, (Instr.entryStore t (.map (some b)) (goInt st) (encv v)).run P w2 = .ok () w3 ∧ w2.grownBy w3 (some b) ∧ w3.heap.size = w2.heap.size ∧
        MapS P k enc encv Ok w3 b (fun y => if y = x then some v else g y) := by
  obtain ⟨w', hr, hT, -, -⟩ := h.1.upd K ht hx v
  obtain ⟨⟨es, clock, hb, h1, h2, h3⟩, hS⟩ := h
  obtain ⟨s1, s2⟩ := hS es clock hb
  obtain ⟨l, hl⟩ := K.ok x hx
  have hk : ∀ e ∈ es.toList, ∃ l, keyOf P k e.key = some l := fun e he => by
    obtain ⟨y, v, hy, ho, _⟩ := h1 e he
    rw [hy]; exact K.ok y ho
  have hgr : ∀ (u : World) (o : Obj), u.heap[b]?.isSome = true → u.grownBy (ChangeMaps.setBlock u b o) (some b) := fun u o _ =>
    ⟨rfl, rfl, rfl, by simp [ChangeMaps.setBlock], fun i _ hi => by
      simp only [ChangeMaps.setBlock]
      exact Array.getElem?_setIfInBounds_ne (fun e => hi (by rw [e]))⟩
  rcases K.keyed.find w hl es.toList hk with ⟨hf, hn⟩ | ⟨j, e0, hf, hj, he⟩
  · have hw' : w' = ChangeMaps.setBlock w b (.map (es.push ⟨enc x, encv v, clock⟩) (clock + 1)) := by
      have : (Instr.mapUpdate t (.map (some b)) (enc x) (encv v)).run P w = .ok () (ChangeMaps.setBlock w b (.map (es.push ⟨enc x, encv v, clock⟩) (clock + 1))) := by
        simp [Instr.mapUpdate, run_underlying ht, MapKept.run_getObj_map hb, K.keyed.check w false hl, hf, MapKept.run_setObj_map _ hb, Result.andThen, ChangeMaps.setBlock]
      rw [this] at hr
      injection hr with _ hr
      exact hr.symm
    subst hw'
    refine ⟨z, clock, ChangeMaps.setBlock w b (.map (es.push ⟨enc x, z, clock⟩) (clock + 1)), ?_, hgr w _ (by rw [hb]; rfl), by simp [ChangeMaps.setBlock], fun w2 hw2 => ?_⟩
    · simp [Instr.mapEntry, run_underlying ht, MapKept.run_getObj_map hb, K.keyed.check w false hl, hf, hz, MapKept.run_setObj_map _ hb, Result.andThen, ChangeMaps.setBlock]
    · rw [ChangeMaps.heap_setBlock_same hb] at hw2
      have hidx : (es.push ⟨enc x, z, clock⟩).findIdx? (fun e => ((e.born : Nat) : Int) == ((clock : Nat) : Int)) = some es.size := by
        rw [WideElems.findIdx_arr]
        exact WideElems.findIdx_born (l := (es.push ⟨enc x, z, clock⟩).toList) (j := es.size) (e0 := ⟨enc x, z, clock⟩) (by
          simp only [Array.toList_push, List.map_append, List.map_cons, List.map_nil]
          refine List.nodup_append.2 ⟨s2, by simp, fun a ha c hc e1 => ?_⟩
          simp only [List.mem_singleton] at hc
          obtain ⟨y, hy, rfl⟩ := List.mem_map.1 ha
          have := s1 y hy
          omega) (by simp)
      have hmod : (es.push ⟨enc x, z, clock⟩).modify es.size (fun e => { e with val := encv v }) = es.push ⟨enc x, encv v, clock⟩ := by
        apply Array.ext'
        rw [Array.toList_modify, Array.toList_push, Array.toList_push, ← Array.length_toList, WideElems.modify_last]
      refine ⟨ChangeMaps.setBlock w2 b (.map (es.push ⟨enc x, encv v, clock⟩) (clock + 1)), ?_, hgr w2 _ (by rw [hw2]; rfl), by simp [ChangeMaps.setBlock], ?_, ?_⟩
      · simp [Instr.entryStore, MapKept.run_getObj_map hw2, asInt, asIntOf, goInt, hidx, hmod, MapKept.run_setObj_map _ hw2, Result.andThen, ChangeMaps.setBlock]
      · exact hT.block (by rw [ChangeMaps.heap_setBlock_same hw2, ChangeMaps.heap_setBlock_same hb])
      · intro es' clock' he'
        rw [ChangeMaps.heap_setBlock_same hw2] at he'
        injection he' with he'
        injection he' with h4 h5
        subst h4 h5
        refine ⟨fun e he => ?_, ?_⟩
        · simp only [Array.toList_push, List.mem_append, List.mem_singleton] at he
          rcases he with he | rfl
          · have := s1 e he; omega
          · simp
        · simp only [Array.toList_push, List.map_append, List.map_cons, List.map_nil]
          refine List.nodup_append.2 ⟨s2, by simp, fun a ha c hc e1 => ?_⟩
          simp only [List.mem_singleton] at hc
          obtain ⟨y, hy, rfl⟩ := List.mem_map.1 ha
          have := s1 y hy
          omega
  · have hj' : es[j]? = some e0 := by simpa using hj
    have hsame : es.modify j (fun e => { e with key := enc x }) = es := by
      apply Array.ext'
      rw [Array.toList_modify, ChangeMaps.modify_eq_set _ _ _ _ hj]
      have : ({ e0 with key := enc x } : MapEntry) = e0 := by rw [← he]
      rw [this]
      exact WideElems.set_self _ _ _ hj
    have hw' : w' = ChangeMaps.setBlock w b (.map (es.modify j fun e => { e with key := enc x, val := encv v }) clock) := by
      have : (Instr.mapUpdate t (.map (some b)) (enc x) (encv v)).run P w = .ok () (ChangeMaps.setBlock w b (.map (es.modify j fun e => { e with key := enc x, val := encv v }) clock)) := by
        simp [Instr.mapUpdate, run_underlying ht, MapKept.run_getObj_map hb, K.keyed.check w false hl, hf, hj', he, K.keyed.stays w hl, MapKept.run_setObj_map _ hb, Result.andThen, ChangeMaps.setBlock]
      rw [this] at hr
      injection hr with _ hr
      exact hr.symm
    subst hw'
    refine ⟨e0.val, e0.born, ChangeMaps.setBlock w b (.map es clock), ?_, hgr w _ (by rw [hb]; rfl), by simp [ChangeMaps.setBlock], fun w2 hw2 => ?_⟩
    · simp [Instr.mapEntry, run_underlying ht, MapKept.run_getObj_map hb, K.keyed.check w false hl, hf, hj', he, K.keyed.stays w hl, hsame, MapKept.run_setObj_map _ hb, Result.andThen, ChangeMaps.setBlock]
    · rw [ChangeMaps.heap_setBlock_same hb] at hw2
      have hidx : es.findIdx? (fun e => ((e.born : Nat) : Int) == ((e0.born : Nat) : Int)) = some j := by
        rw [WideElems.findIdx_arr]
        exact WideElems.findIdx_born s2 hj
      have hmod : es.modify j (fun e => { e with val := encv v }) = es.modify j (fun e' => { e' with key := enc x, val := encv v }) := by
        apply Array.ext'
        rw [Array.toList_modify, Array.toList_modify, ChangeMaps.modify_eq_set _ _ _ _ hj, ChangeMaps.modify_eq_set _ _ _ _ hj, ← he]
      refine ⟨ChangeMaps.setBlock w2 b (.map (es.modify j fun e => { e with key := enc x, val := encv v }) clock), ?_, hgr w2 _ (by rw [hw2]; rfl), by simp [ChangeMaps.setBlock], ?_, ?_⟩
      · simp [Instr.entryStore, MapKept.run_getObj_map hw2, asInt, asIntOf, goInt, hidx, hmod, MapKept.run_setObj_map _ hw2, Result.andThen, ChangeMaps.setBlock]
      · exact hT.block (by rw [ChangeMaps.heap_setBlock_same hw2, ChangeMaps.heap_setBlock_same hb])
      · intro es' clock' he'
        rw [ChangeMaps.heap_setBlock_same hw2] at he'
        injection he' with he'
        injection he' with h4 h5
        subst h4 h5
        have hset : (es.modify j fun e => { e with key := enc x, val := encv v }).toList = es.toList.set j ⟨enc x, encv v, e0.born⟩ := by
          rw [Array.toList_modify, ChangeMaps.modify_eq_set _ _ _ _ hj]
        rw [hset]
        refine ⟨fun e he => ?_, ?_⟩
        · rcases List.mem_or_eq_of_mem_set he with he | rfl
          · exact s1 e he
          · exact s1 e0 (List.mem_of_getElem? hj)
        · rw [List.map_set]
          have : (es.toList.map (·.born)).set j e0.born = es.toList.map (·.born) := WideElems.set_self _ _ _ (by rw [List.getElem?_map, hj]; rfl)
          rw [this]
          exact s2
end
end Go.Proofs.YtmnhgeggojgflaaGreatDoor
