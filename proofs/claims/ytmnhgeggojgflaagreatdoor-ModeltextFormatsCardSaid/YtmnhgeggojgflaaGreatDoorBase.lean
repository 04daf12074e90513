/- What stays of memory while some blocks may turn; slices that read as lists of cells. A map that the call itself has made, as a finite function from typed keys to typed values: what a lookup and an update of it do. The last step of a row of which only the world below is known to stay. append onto a slice of the call's own: where the new slice lies, and that the cells in use stay as they are. No condition. -/
import Derived.WalkKit
import Derived.WalkSpells
import Derived.Deep.Draws
import Derived.Maps.AppendAt
import Derived.RegionTactic
import Derived.Deep.AppendLies
import Derived.Maps.Keyed
import Derived.Below
import Derived.ChangeSame
set_option linter.unusedVariables false
set_option linter.unusedSimpArgs false
namespace Go.Proofs.YtmnhgeggojgflaaGreatDoor
open Go.RowKit

/-- Only blocks of F, and blocks that are new, may have turned. -/
structure Keep (F : Nat → Prop) (w w' : World) : Prop where
  os : w'.os = w.os
  tape : w'.tape = w.tape
  output : w'.output = w.output
  size : w.heap.size ≤ w'.heap.size
  block : ∀ k, k < w.heap.size → ¬ F k → w'.heap[k]? = w.heap[k]?

def NoF : Nat → Prop := fun _ => False

section
variable {F G : Nat → Prop} {w w' w1 w2 : World}
theorem Keep.refl (F : Nat → Prop) (w : World) : Keep F w w := ⟨rfl, rfl, rfl, Nat.le_refl _, fun _ _ _ => rfl⟩
theorem Keep.trans (h : Keep F w w1) (k : Keep G w1 w2) (hs : ∀ i, i < w.heap.size → G i → F i) : Keep F w w2 :=
  ⟨k.os.trans h.os, k.tape.trans h.tape, k.output.trans h.output, Nat.le_trans h.size k.size,
    fun i hi hf => (k.block i (Nat.lt_of_lt_of_le hi h.size) (fun hg => hf (hs i hi hg))).trans (h.block i hi hf)⟩
theorem Keep.mono (h : Keep F w w1) (hs : ∀ i, i < w.heap.size → F i → G i) : Keep G w w1 :=
  ⟨h.os, h.tape, h.output, h.size, fun i hi hf => h.block i hi (fun hg => hf (hs i hi hg))⟩
theorem Keep.drew (h : Keep F w w1) : Keep F w w1.drew := ⟨h.os, h.tape, h.output, h.size, h.block⟩
theorem Keep.undrew (h : Keep F w.drew w') : Keep F w w' := ⟨h.os, h.tape, h.output, h.size, h.block⟩
theorem Keep.undrewN {n : Nat} (h : Keep F (w.drewN n) w') : Keep F w w' := ⟨h.os, h.tape, h.output, h.size, h.block⟩
theorem Keep.drewN (h : Keep F w w1) (n : Nat) : Keep F w (w1.drewN n) := ⟨h.os, h.tape, h.output, h.size, h.block⟩
theorem Keep.alloc (h : Keep F w w1) (o : Obj) : Keep F w (w1.alloc o) :=
  ⟨h.os, h.tape, h.output, Nat.le_trans h.size (by simp), fun i hi hf => (Below.heap_alloc w1 o i (Nat.lt_of_lt_of_le hi h.size)).trans (h.block i hi hf)⟩
theorem Keep.setCell (h : Keep F w w1) {p : Addr} (hp : F p.block ∨ w.heap.size ≤ p.block) (u : Value) : Keep F w (w1.setCell p u) :=
  ⟨h.os, h.tape, h.output, by simpa [World.setCell] using h.size, fun i hi hf => (Below.heap_setCell w1 p u i (by
    rintro rfl
    rcases hp with hp | hp
    · exact hf hp
    · omega)).trans (h.block i hi hf)⟩
theorem Keep.grown (h : Keep F w w1) {row : Option Nat} (hg : w1.grownBy w2 row) (hr : ∀ k, row = some k → F k ∨ w.heap.size ≤ k) : Keep F w w2 :=
  ⟨hg.os.trans h.os, hg.tape.trans h.tape, hg.output.trans h.output, Nat.le_trans h.size hg.size, fun i hi hf => (hg.block i (Nat.lt_of_lt_of_le hi h.size) (by
    intro he
    rcases hr i he.symm with hp | hp
    · exact hf hp
    · omega)).trans (h.block i hi hf)⟩
theorem Keep.setBlock (h : Keep F w w1) {b : Nat} {o : Obj} (hb : F b ∨ w.heap.size ≤ b) : Keep F w (ChangeMaps.setBlock w1 b o) :=
  ⟨h.os, h.tape, h.output, by simpa [ChangeMaps.setBlock] using h.size, fun i hi hf => by
    have hne : b ≠ i := by
      rintro rfl
      rcases hb with hb | hb
      · exact hf hb
      · omega
    rw [← h.block i hi hf]
    simp only [ChangeMaps.setBlock]
    exact Array.getElem?_setIfInBounds_ne hne⟩
theorem Keep.cell (h : Keep F w w') {p : Addr} (hp : p.block < w.heap.size) (hf : ¬ F p.block) : w'.cell? p = w.cell? p := World.cell?_of_block (w := w) (h.block p.block hp hf)
theorem Keep.frozen (h : Keep F w w') {p : Addr} (hp : p.block < w.heap.size) (hf : ¬ F p.block) : w'.frozen? p = w.frozen? p := World.frozen?_of_block (w := w) (h.block p.block hp hf)
theorem Keep.cellv (h : Keep F w w') {p : Addr} {v : Value} (hc : w.cell? p = some v) (hf : ¬ F p.block) : w'.cell? p = some v := (h.cell (World.block_lt_of_cell? w p hc) hf).trans hc
theorem Keep.below (h : Keep NoF w w') : Below w.heap.size w w' := ⟨h.os, h.tape, h.output, h.size, fun k hk => h.block k hk (fun hf => hf)⟩
theorem Keep.belowB {B : Nat} (h : Keep F w w') (hB : B ≤ w.heap.size) (hf : ∀ k, k < B → ¬ F k) : Below B w w' := ⟨h.os, h.tape, h.output, h.size, fun k hk => h.block k (by omega) (hf k hk)⟩
theorem Keep.of_below (h : Below w.heap.size w w') (F : Nat → Prop) : Keep F w w' := ⟨h.os, h.tape, h.output, h.size, fun k hk _ => h.block k hk⟩
theorem Keep.of_grown {row : Option Nat} (hg : w.grownBy w' row) (hr : ∀ k, row = some k → F k) : Keep F w w' := (Keep.refl F w).grown hg fun k hk => .inl (hr k hk)
end

/-- Two steps, each of which keeps all but its own blocks. -/
theorem grow_trans {F F1 F2 : Nat → Prop} {w w1 w2 : World} (h1 : Keep F w w1 ∧ ∀ k, F1 k → F k ∨ w.heap.size ≤ k) (h2 : Keep F1 w1 w2 ∧ ∀ k, F2 k → F1 k ∨ w1.heap.size ≤ k) : Keep F w w2 ∧ ∀ k, F2 k → F k ∨ w.heap.size ≤ k := by
  refine ⟨h1.1.trans h2.1 fun i hi h => ?_, fun k hk => ?_⟩
  · rcases h1.2 i h with h | h
    · exact h
    · omega
  · rcases h2.2 k hk with h | h
    · exact h1.2 k h
    · exact .inr (Nat.le_trans h1.1.size h)

/-- Block g of w is just the cells cs, of element type t, none frozen. -/
def Bk (w : World) (g : Nat) (t : TypeId) (cs : Array Value) : Prop := w.heap[g]? = some (.cells cs t (0, 0))

section
variable {F : Nat → Prop} {w w' : World} {g : Nat} {t : TypeId} {cs : Array Value}
theorem Bk.lt (h : Bk w g t cs) : g < w.heap.size := (Array.getElem?_eq_some_iff.1 h).1
theorem Bk.cell (h : Bk w g t cs) (i : Nat) : w.cell? ⟨g, i, none⟩ = cs[i]? := cell_of_row w g i cs t (0, 0) h
theorem Bk.frozen (h : Bk w g t cs) (i : Nat) : w.frozen? ⟨g, i, none⟩ = false := by
  unfold Bk at h
  simp [World.frozen?, h]
theorem Bk.new (w : World) (t : TypeId) (cs : Array Value) : Bk (w.alloc (.cells cs t)) w.heap.size t cs := heap_alloc_new w _
theorem Bk.drewN (h : Bk w g t cs) (n : Nat) : Bk (w.drewN n) g t cs := h
theorem Bk.drew (h : Bk w g t cs) : Bk w.drew g t cs := h
theorem Bk.alloc (h : Bk w g t cs) (o : Obj) : Bk (w.alloc o) g t cs := (Below.heap_alloc w o g h.lt).trans h
theorem Bk.put (h : Bk w g t cs) (i : Nat) (u : Value) : Bk (w.setCell ⟨g, i, none⟩ u) g t (cs.setIfInBounds i u) := by
  unfold Bk at h ⊢
  simp [World.setCell, Array.getElem?_modify, h]
theorem Bk.far (h : Bk w g t cs) {p : Addr} (hp : g ≠ p.block) (u : Value) : Bk (w.setCell p u) g t cs := (Below.heap_setCell w p u g hp).trans h
theorem Bk.keep (h : Bk w g t cs) (hk : Keep F w w') (hf : ¬ F g) : Bk w' g t cs := (hk.block g h.lt hf).trans h
theorem Bk.grown {row : Option Nat} (h : Bk w g t cs) (hb : w.grownBy w' row) (hg : some g ≠ row) : Bk w' g t cs := (hb.block g h.lt hg).trans h
theorem Bk.block (h : Bk w g t cs) (hb : w'.heap[g]? = w.heap[g]?) : Bk w' g t cs := hb.trans h
theorem Bk.ne_type {g' : Nat} {t' : TypeId} {cs' : Array Value} (h : Bk w g t cs) (h' : Bk w g' t' cs') (hne : t ≠ t') : g ≠ g' := by
  rintro rfl
  unfold Bk at h h'
  rw [h] at h'
  injection h' with h'
  injection h' with _ ht
  exact hne ht
end

/-- v is a slice of n elements, size cells each; its cells are xs. -/
def Rd (w : World) (v : Value) (size n : Nat) (xs : List Value) : Prop :=
  xs.length = n * size ∧ ∃ A c, v = .slice A n c ∧ n ≤ c ∧ (0 < n → ∃ bl off, A = some ⟨bl, off, none⟩ ∧ ∀ j u, xs[j]? = some u → w.cell? ⟨bl, off + j, none⟩ = some u)

section
variable {F : Nat → Prop} {w w' : World} {v : Value} {size n : Nat} {xs : List Value}
theorem Rd.nil (w : World) (size : Nat) : Rd w (.slice none 0 0) size 0 [] := ⟨by simp, none, 0, rfl, Nat.le_refl _, fun h => absurd h (by omega)⟩
theorem Rd.keep (h : Rd w v size n xs) (hk : ∀ k, v.ownBlock = some k → k < w.heap.size → w'.heap[k]? = w.heap[k]?) : Rd w' v size n xs := by
  obtain ⟨h1, A, c, rfl, hc, h2⟩ := h
  refine ⟨h1, A, c, rfl, hc, fun hn => ?_⟩
  obtain ⟨bl, off, rfl, hc⟩ := h2 hn
  refine ⟨bl, off, rfl, fun j u hu => ?_⟩
  have hcu := hc j u hu
  have hlt := World.block_lt_of_cell? w _ hcu
  rw [World.cell?_of_block (w := w) (w' := w') (a := ⟨bl, off + j, none⟩) (hk _ rfl hlt)]
  exact hcu
theorem Rd.kept (h : Rd w v size n xs) (hk : Keep F w w') (hf : ∀ k, v.ownBlock = some k → ¬ F k) : Rd w' v size n xs := h.keep fun k hv hlt => hk.block k hlt (hf k hv)
theorem Rd.blk_lt (h : Rd w v size n xs) (hn : 0 < n) (hs : 0 < size) : ∀ k, v.ownBlock = some k → k < w.heap.size := by
  obtain ⟨hl, A, c, rfl, _, h2⟩ := h
  obtain ⟨bl, off, rfl, hc⟩ := h2 hn
  intro k hk
  have hx : 0 < xs.length := by rw [hl]; exact Nat.mul_pos hn hs
  have := World.block_lt_of_cell? w _ (hc 0 xs[0] (List.getElem?_eq_getElem hx))
  have e : bl = k := by simpa [Value.ownBlock] using hk
  exact e ▸ this
theorem Rd.at_ {A : Option Addr} {m c : Nat} (h : Rd w (.slice A m c) size n xs) (hn : 0 < n) : m = n ∧ n ≤ c ∧ ∃ bl off, A = some ⟨bl, off, none⟩ ∧ ∀ j u, xs[j]? = some u → w.cell? ⟨bl, off + j, none⟩ = some u := by
  obtain ⟨_, A', c', he, hc, h2⟩ := h
  injection he with h1 h3 h4
  subst h1 h3 h4
  exact ⟨rfl, hc, h2 hn⟩
theorem Rd.of_own {base : Nat} {e : TypeId} (h : w.ownsRow base e size v n xs) : Rd w v size n xs := by
  refine ⟨h.1, ?_⟩
  rcases h.2 with ⟨rfl, rfl⟩ | ⟨g, cap, cur, rfl, hb, hg, hr⟩
  · exact ⟨none, 0, rfl, Nat.le_refl _, fun h => absurd h (by omega)⟩
  · refine ⟨_, _, rfl, hr.1, fun _ => ⟨g, 0, rfl, fun j u hu => ?_⟩⟩
    have := h.cells (g := g) rfl j u hu
    rwa [Addr.add_lit] at this
theorem own_keep {base : Nat} {e : TypeId} (h : w.ownsRow base e size v n xs) (hk : ∀ k, v.ownBlock = some k → w'.heap[k]? = w.heap[k]?) : w'.ownsRow base e size v n xs := by
  refine ⟨h.1, ?_⟩
  rcases h.2 with hn | ⟨g, cap, cur, rfl, hb, hg, hr⟩
  · exact .inl hn
  · exact .inr ⟨g, cap, cur, rfl, hb, (hk g rfl).trans hg, hr⟩
theorem own_base {base base' : Nat} {e : TypeId} (h : w.ownsRow base e size v n xs) (hb : base' ≤ base) : w.ownsRow base' e size v n xs := by
  refine ⟨h.1, ?_⟩
  rcases h.2 with hn | ⟨g, cap, cur, rfl, hb', hg, hr⟩
  · exact .inl hn
  · exact .inr ⟨g, cap, cur, rfl, by omega, hg, hr⟩
theorem own_ne_bk {base : Nat} {e t : TypeId} {g : Nat} {cs : Array Value} (h : w.ownsRow base e size v n xs) (hg : Bk w g t cs) (hne : e ≠ t) : v.ownBlock ≠ some g := by
  rcases h.2 with ⟨rfl, _⟩ | ⟨g', cap, cur, rfl, _, hh, _⟩
  · simp [Value.ownBlock]
  · intro he
    have : g' = g := by simpa [Value.ownBlock] using he
    subst this
    exact Bk.ne_type (t := e) hh hg hne rfl
end
theorem own_form {w : World} {base : Nat} {e : TypeId} {size n : Nat} {v : Value} {xs : List Value} (h : w.ownsRow base e size v n xs) : ∃ A c, v = .slice A n c := by
  rcases h.2 with ⟨rfl, rfl⟩ | ⟨g', cap, cur, rfl, _⟩
  · exact ⟨_, _, rfl⟩
  · exact ⟨_, _, rfl⟩
theorem own_lt {w : World} {base g n cap size : Nat} {o : Nat} {e : TypeId} {xs : List Value} {v : Value} (h : w.ownsRow base e size v n xs) (hv : v = .slice (some ⟨g, o, none⟩) n cap) : g < w.heap.size := by
  subst hv
  exact (h.lt g rfl).2
end Go.Proofs.YtmnhgeggojgflaaGreatDoor
namespace Go.Proofs.YtmnhgeggojgflaaGreatDoor
open Go.RowKit

/-- Block b of w is a map with typed keys and values; it reads as the partial function g. -/
def MapT {κ υ : Type} (P : Program) (k : TypeId) (enc : κ → Value) (encv : υ → Value) (Ok : κ → Prop) (w : World) (b : Nat) (g : κ → Option υ) : Prop :=
  ∃ es clock, w.heap[b]? = some (.map es clock) ∧
    (∀ e ∈ es.toList, ∃ x v, e.key = enc x ∧ Ok x ∧ e.val = encv v ∧ g x = some v) ∧
    (∀ x v, g x = some v → ∃ e ∈ es.toList, e.key = enc x) ∧
    (es.toList.map (·.key)).Nodup

/-- How typed keys are written as values. -/
structure KeyEnc (P : Program) (k : TypeId) {κ : Type} (enc : κ → Value) (Ok : κ → Prop) : Prop where
  keyed : Maps.Keyed P k
  inj : ∀ x y, enc x = enc y → x = y
  ok : ∀ x, Ok x → ∃ l, keyOf P k (enc x) = some l

section
variable {κ υ : Type} {P : Program} {k : TypeId} {enc : κ → Value} {encv : υ → Value} {Ok : κ → Prop} {w w' : World} {b : Nat} {g : κ → Option υ}

theorem MapT.new (w : World) (P : Program) (k : TypeId) (enc : κ → Value) (encv : υ → Value) (Ok : κ → Prop) : MapT P k enc encv Ok (w.alloc (.map #[] 0)) w.heap.size (fun _ => none) :=
  ⟨#[], 0, (MapKept.heap_alloc w _).1, by simp, by simp, by simp⟩

theorem MapT.lt (h : MapT P k enc encv Ok w b g) : b < w.heap.size := by
  obtain ⟨es, clock, hb, _⟩ := h
  exact (Array.getElem?_eq_some_iff.1 hb).1

theorem MapT.ne_bk (h : MapT P k enc encv Ok w b g) {b' : Nat} {t : TypeId} {cs : Array Value} (h' : w.heap[b']? = some (.cells cs t (0, 0))) : b ≠ b' := by
  rintro rfl
  obtain ⟨es, clock, hb, _⟩ := h
  rw [hb] at h'
  cases h'

theorem own_ne_map {base : Nat} {e : TypeId} {size n : Nat} {v : Value} {xs : List Value} (h : w.ownsRow base e size v n xs) (hm : MapT P k enc encv Ok w b g) : v.ownBlock ≠ some b := by
  intro he
  rcases h.2 with ⟨rfl, _⟩ | ⟨g', _, _, rfl, _, hh, _⟩
  · simp [Value.ownBlock] at he
  · obtain ⟨_, _, h2, _⟩ := hm
    simp only [Value.ownBlock, Option.some.injEq] at he
    rw [← he, hh] at h2
    cases h2

theorem MapT.congr {g' : κ → Option υ} (h : MapT P k enc encv Ok w b g) (hg : ∀ x, g x = g' x) : MapT P k enc encv Ok w b g' := by
  have : g = g' := funext hg
  exact this ▸ h

theorem MapT.block (h : MapT P k enc encv Ok w b g) (hb : w'.heap[b]? = w.heap[b]?) : MapT P k enc encv Ok w' b g := by
  obtain ⟨es, clock, h1, h2⟩ := h
  exact ⟨es, clock, hb.trans h1, h2⟩

/-- 'm[k]', with or without ok. -/
theorem MapT.look (h : MapT P k enc encv Ok w b g) (K : KeyEnc P k enc Ok) {t e : TypeId} (ht : P.underlying t = some (.map k e)) {z : Value} (hz : (zeroValue e).run P w = .ok z w) {x : κ} (hx : Ok x) (c : Bool) :
    (Instr.lookup t (.map (some b)) (enc x) c).run P w = .ok (if c then .tuple #[((g x).map encv).getD z, .bool (g x).isSome] else ((g x).map encv).getD z) w := by
  obtain ⟨es, clock, hb, h1, h2, h3⟩ := h
  obtain ⟨l, hl⟩ := K.ok x hx
  have hk : ∀ e ∈ es.toList, ∃ l, keyOf P k e.key = some l := fun e he => by
    obtain ⟨y, v, hy, ho, _⟩ := h1 e he
    rw [hy]; exact K.ok y ho
  rcases K.keyed.find w hl es.toList hk with ⟨hf, hn⟩ | ⟨j, e0, hf, hj, he⟩
  · have hg : g x = none := by
      cases hgx : g x with
      | none => rfl
      | some v =>
        obtain ⟨e, he, hek⟩ := h2 x v hgx
        exact absurd hek (hn e he)
    simp [Instr.lookup, run_underlying ht, MapKept.run_getObj_map hb, K.keyed.check w _ hl, hf, hz, Result.andThen, hg]
  · obtain ⟨y, v, hy, _, hv, hgy⟩ := h1 e0 (List.mem_of_getElem? hj)
    have hxy : y = x := K.inj _ _ (hy.symm.trans he)
    subst hxy
    simp [Instr.lookup, run_underlying ht, MapKept.run_getObj_map hb, K.keyed.check w _ hl, hf, Result.andThen, hgy, hv]

open Classical in
/-- 'm[k] = v'. -/
theorem MapT.upd (h : MapT P k enc encv Ok w b g) (K : KeyEnc P k enc Ok) {t e : TypeId} (ht : P.underlying t = some (.map k e)) {x : κ} (hx : Ok x) (v : υ) :
    ∃ w', (Instr.mapUpdate t (.map (some b)) (enc x) (encv v)).run P w = .ok () w' ∧ MapT P k enc encv Ok w' b (fun y => if y = x then some v else g y) ∧ w.grownBy w' (some b) ∧ w'.heap.size = w.heap.size := by
  obtain ⟨es, clock, hb, h1, h2, h3⟩ := h
  obtain ⟨l, hl⟩ := K.ok x hx
  have hk : ∀ e ∈ es.toList, ∃ l, keyOf P k e.key = some l := fun e he => by
    obtain ⟨y, v, hy, ho, _⟩ := h1 e he
    rw [hy]; exact K.ok y ho
  have hgr : ∀ o : Obj, w.grownBy (ChangeMaps.setBlock w b o) (some b) := fun o =>
    ⟨rfl, rfl, rfl, by simp [ChangeMaps.setBlock], fun i _ hi => ChangeMaps.heap_setBlock_other hb _ (fun e => hi (by rw [e]))⟩
  rcases K.keyed.find w hl es.toList hk with ⟨hf, hn⟩ | ⟨j, e0, hf, hj, he⟩
  · refine ⟨ChangeMaps.setBlock w b (.map (es.push ⟨enc x, encv v, clock⟩) (clock + 1)), ?_, ⟨_, _, ChangeMaps.heap_setBlock_same hb _, ?_, ?_, ?_⟩, hgr _, by simp [ChangeMaps.setBlock]⟩
    · simp [Instr.mapUpdate, run_underlying ht, MapKept.run_getObj_map hb, K.keyed.check w false hl, hf, MapKept.run_setObj_map _ hb, Result.andThen, ChangeMaps.setBlock]
    · intro e he
      simp only [Array.toList_push, List.mem_append, List.mem_singleton] at he
      rcases he with he | rfl
      · obtain ⟨y, u, hy, ho, hv, hg⟩ := h1 e he
        refine ⟨y, u, hy, ho, hv, ?_⟩
        have hne : y ≠ x := fun hyx => hn e he (by rw [hy, hyx])
        simp [hne, hg]
      · exact ⟨x, v, rfl, hx, rfl, by simp⟩
    · intro y u hy
      by_cases hyx : y = x
      · exact ⟨⟨enc x, encv v, clock⟩, by simp, by rw [hyx]⟩
      · simp only [hyx, if_false] at hy
        obtain ⟨e, he, hek⟩ := h2 y u hy
        exact ⟨e, by simp only [Array.toList_push, List.mem_append]; exact .inl he, hek⟩
    · simp only [Array.toList_push, List.map_append, List.map_cons, List.map_nil]
      refine List.nodup_append.2 ⟨h3, by simp, fun e he e' he' => ?_⟩
      simp only [List.mem_singleton] at he'
      subst he'
      obtain ⟨e1, he1, rfl⟩ := List.mem_map.1 he
      exact hn e1 he1
  · obtain ⟨y, u, hy, _, hv, hgy⟩ := h1 e0 (List.mem_of_getElem? hj)
    have hxy : y = x := K.inj _ _ (hy.symm.trans he)
    subst hxy
    have hj' : es[j]? = some e0 := by simpa using hj
    have hjl : j < es.size := (Array.getElem?_eq_some_iff.1 hj').1
    have heq : es[j] = e0 := (Array.getElem?_eq_some_iff.1 hj').2
    have hset : (es.modify j fun e => { e with key := enc y, val := encv v }).toList = es.toList.set j ⟨enc y, encv v, e0.born⟩ := by
      rw [Array.toList_modify]
      apply List.ext_getElem?
      intro i
      rw [List.getElem?_modify, List.getElem?_set]
      by_cases hij : j = i
      · subst hij; simp [hjl, heq]
      · simp [hij]
    have hmem : ∀ e ∈ es.toList.set j ⟨enc y, encv v, e0.born⟩, e = ⟨enc y, encv v, e0.born⟩ ∨ (e ∈ es.toList ∧ e.key ≠ enc y) := fun e hm => by
      obtain ⟨i, hi, hei⟩ := List.getElem_of_mem hm
      rw [List.getElem_set] at hei
      by_cases hij : j = i
      · rw [if_pos hij] at hei; exact .inl hei.symm
      · rw [if_neg hij] at hei
        have hil : i < es.toList.length := by simpa using hi
        refine .inr ⟨hei ▸ List.getElem_mem hil, fun hek => hij ?_⟩
        have hjt : es.toList[j]'(by simpa using hjl) = e0 := (List.getElem?_eq_some_iff.1 hj).2
        refine (List.getElem_inj (h₀ := by simpa using hjl) (h₁ := by simpa using hil) h3).1 ?_
        rw [List.getElem_map, List.getElem_map, hjt, hei, he, hek]
    refine ⟨ChangeMaps.setBlock w b (.map (es.modify j fun e => { e with key := enc y, val := encv v }) clock), ?_, ⟨_, _, ChangeMaps.heap_setBlock_same hb _, ?_, ?_, ?_⟩, hgr _, by simp [ChangeMaps.setBlock]⟩
    · simp [Instr.mapUpdate, run_underlying ht, MapKept.run_getObj_map hb, K.keyed.check w false hl, hf, hj', he, K.keyed.stays w hl, MapKept.run_setObj_map _ hb, Result.andThen, ChangeMaps.setBlock]
    · intro e he'
      rw [hset] at he'
      rcases hmem e he' with rfl | ⟨hm, hne⟩
      · exact ⟨y, v, rfl, hx, rfl, by simp⟩
      · obtain ⟨z, u', hz, ho, hv', hg⟩ := h1 e hm
        have hzy : z ≠ y := fun hzy => hne (by rw [hz, hzy])
        exact ⟨z, u', hz, ho, hv', by simp [hzy, hg]⟩
    · intro z u' hz
      by_cases hzy : z = y
      · exact ⟨⟨enc y, encv v, e0.born⟩, by rw [hset]; exact List.mem_iff_getElem.2 ⟨j, by simpa using hjl, by simp⟩, by rw [hzy]⟩
      · simp only [hzy, if_false] at hz
        obtain ⟨e, hem, hek⟩ := h2 z u' hz
        obtain ⟨i, hi, hei⟩ := List.getElem_of_mem hem
        have hij : ¬ j = i := fun hij => by
          subst hij
          have hjt : es.toList[j]'(by simpa using hjl) = e0 := (List.getElem?_eq_some_iff.1 hj).2
          rw [hjt] at hei
          rw [← hei, he] at hek
          exact hzy (K.inj _ _ hek.symm)
        refine ⟨e, ?_, hek⟩
        rw [hset]
        refine List.mem_iff_getElem.2 ⟨i, by simpa using hi, ?_⟩
        rw [List.getElem_set, if_neg hij]
        exact hei
    · rw [hset, List.map_set]
      have : (es.toList.map (·.key)).set j (enc y) = es.toList.map (·.key) := by
        apply List.ext_getElem?
        intro i
        rw [List.getElem?_set]
        by_cases hij : j = i
        · subst hij; simp [heq, he, hjl]
        · simp [hij]
      rw [this]
      exact h3

open Classical in
theorem wp_mapT {Q : Exit → Act → World → Prop} {C : Act → World → Prop} {o : Oper} {a : Act} (h : MapT P k enc encv Ok w b g) (K : KeyEnc P k enc Ok) {t e : TypeId} (ht : P.underlying t = some (.map k e)) {x : κ} (hx : Ok x) (v : υ)
    (m kx vx : Operand) (ho : o.op = .mapUpdate t m kx vx) (hm : a.eval m = .map (some b)) (hk : a.eval kx = enc x) (hv : a.eval vx = encv v)
    (next : ∀ w', MapT P k enc encv Ok w' b (fun y => if y = x then some v else g y) → w.grownBy w' (some b) → w'.heap.size = w.heap.size → C (a.put o.dst undef) w') : o.wp P a w C Q := by
  obtain ⟨w', hr, h1, h2, h3⟩ := h.upd K ht hx v
  unfold Oper.wp execOp
  simp only [ho, Sem.run_bind, hm, hk, hv, hr, Result.andThen_ok]
  exact next w' h1 h2 h3

open Classical in
/-- 'm[k] = v' in a plain region. -/
theorem wpList_mapT {Q : Exit → Act → World → Prop} {ops : Array Oper} {rest : List Oper} {o : Oper} {a : Act} (hgd : o.guard = none) (h : MapT P k enc encv Ok w b g) (K : KeyEnc P k enc Ok) {t e : TypeId} (ht : P.underlying t = some (.map k e)) {x : κ} (hx : Ok x) (v : υ)
    (m kx vx : Operand) (ho : o.op = .mapUpdate t m kx vx) (hm : a.eval m = .map (some b)) (hk : a.eval kx = enc x) (hv : a.eval vx = encv v)
    (next : ∀ w', MapT P k enc encv Ok w' b (fun y => if y = x then some v else g y) → w.grownBy w' (some b) → w'.heap.size = w.heap.size → wpList P ops Q rest (a.put o.dst undef) w') : wpList P ops Q (o :: rest) a w :=
  wpList_plain hgd fun _ hK => wp_mapT h K ht hx v m kx vx ho hm hk hv fun w' h1 h2 h3 => hK _ _ (next w' h1 h2 h3)

open Classical in
/-- An entry of a map's literal, in a plain region. -/
theorem wpList_insT {Q : Exit → Act → World → Prop} {ops : Array Oper} {rest : List Oper} {o : Oper} {a : Act} (hgd : o.guard = none) (h : MapT P k enc encv Ok w b g) (K : KeyEnc P k enc Ok) {t e : TypeId} (ht : P.underlying t = some (.map k e)) {x : κ} (hx : Ok x) (v : υ)
    (m kx vx : Operand) (ho : o.op = .insert t m kx vx) (hm : a.eval m = .map (some b)) (hk : a.eval kx = enc x) (hv : a.eval vx = encv v)
    (next : ∀ w', MapT P k enc encv Ok w' b (fun y => if y = x then some v else g y) → w.grownBy w' (some b) → w'.heap.size = w.heap.size → wpList P ops Q rest (a.put o.dst undef) w') : wpList P ops Q (o :: rest) a w :=
  wpList_plain hgd fun C hK => by
    obtain ⟨w', hr, h1, h2, h3⟩ := h.upd K ht hx v
    unfold Oper.wp execOp
    simp only [ho, Sem.run_bind, hm, hk, hv, hr, Result.andThen_ok]
    exact hK _ _ (next w' h1 h2 h3)

open Classical in
/-- 'm[k] = v' at a step of a region that draws its order. -/
theorem step_mapT {Q : Exit → Act → World → Prop} {C : Act → World → Prop} {ops : Array Oper} {o : Oper} {a : Act} {D : Prop} (hgd : o.guard = none) (h : MapT P k enc encv Ok w b g) (K : KeyEnc P k enc Ok) {t e : TypeId} (ht : P.underlying t = some (.map k e)) {x : κ} (hx : Ok x) (v : υ)
    (m kx vx : Operand) (ho : o.op = .mapUpdate t m kx vx) (hm : a.eval m = .map (some b)) (hk : a.eval kx = enc x) (hv : a.eval vx = encv v)
    (next : ∀ w', MapT P k enc encv Ok w' b (fun y => if y = x then some v else g y) → w.grownBy w' (some b) → w'.heap.size = w.heap.size → C (a.put o.dst undef) w') : if Region.wanted o (yielded ops a.tmps) = true then Oper.wp P o a w C Q else D := by
  rw [if_pos (by simp [Region.wanted, hgd])]
  exact wp_mapT h K ht hx v m kx vx ho hm hk hv next
end
end Go.Proofs.YtmnhgeggojgflaaGreatDoor
namespace Go.Proofs.YtmnhgeggojgflaaGreatDoor
open Go.RowKit Go.WideShapes Go.ChangeShapes

section
variable {H : Type} {enc : TypeId × Value → H} {P : Program}
theorem post_of_below {f : Func} {s : ChangeSpec} {apart fresh handsOn again : Bool} {W W' : World} {args : Array Value} {v : Value} {ds gs : List (DataW H)} {before pa pv : List MemPlace}
    (hW : DataW.Whole enc P f.params.toList s.vars apart W args.toList ds gs before)
    (hres : ∀ (b : Nat) (sp : Nat → Bool) (hd : Bool), DataW.TrodAll enc P W' b sp hd f.resultTypes.toList (v.resultList f.resultTypes.size) (s.fn H (ds ++ gs)).results [])
    (hargs : ∀ sp : Nat → Bool, (∀ p ∈ before, sp p.block = true) → DataW.TrodAll enc P W' 0 sp true f.params.toList args.toList (s.fn H (ds ++ gs)).args pa)
    (hvars : ∀ sp : Nat → Bool, (∀ p ∈ before, sp p.block = true) → DataW.TrodVars enc P W' sp s.vars (s.fn H (ds ++ gs)).vars pv)
    (hps : before = pa ++ pv) (hb : Below W.heap.size W W')
    (hok : ∀ (j : Nat) (t : TypeId) (r : Value), f.resultTypes[j]? = some t → (v.resultList f.resultTypes.size)[j]? = some r → Value.okWide P W' .any 0 t r) :
    s.post enc P f apart fresh handsOn again W args v W' := by
  have hlt : ∀ p ∈ before, p.block < W.heap.size := fun p hp => hW.lt p hp
  have hold : ∀ p ∈ before, (fun b => decide (b < W.heap.size)) p.block = true := fun p hp => by simpa using hlt p hp
  refine ⟨ds, gs, before, [], pa, pv, hW, hres _ _ _, hargs _ hold, hvars _ hold, World.keptBut_mono (fun p hp => ⟨hp, ?_⟩) (hb.frame (· ∈ before)), fun _ => ?_⟩
  · rw [hps, List.mem_append] at hp
    exact Or.inr hp
  · obtain ⟨_, _, _, _, _, hz, hn⟩ := hW
    refine ⟨hok, _, _, ([] ++ pa) ++ pv, ⟨[] ++ pa, pv, trodAll_append (hargs _ (fun _ _ => rfl)) (hres _ _ _), hvars _ (fun _ _ => rfl), rfl, ?_, ?_⟩, ?_⟩
    · intro b off hp
      have hin : MemPlace.cell b off ∈ before := by rw [hps]; simpa using hp
      rw [hb.frozen (hlt _ hin)]
      exact hz b off hin
    · intro ha
      have := hn ha
      rw [hps] at this
      simpa using this
    · intro p hp _
      rw [hps]
      simpa using hp
end
end Go.Proofs.YtmnhgeggojgflaaGreatDoor
namespace Go.Proofs.YtmnhgeggojgflaaGreatDoor
open Go.RowKit

/-- What the walk needs of an element type. -/
structure ElemT (P : Program) (t e : TypeId) (z : Value) (size bytes : Nat) : Prop where
  under : P.underlying t = some (.slice e)
  info : ∃ i, P.info? e = some i ∧ i.zero = some z ∧ i.size = size ∧ i.bytes = bytes
  cells : z.cells.size = size
  pos : 0 < size

/-- What an append leaves: w' out of w, onto v, of which n elements were in use; the new slice lies in block g. -/
structure AppK (w w' : World) (v : Value) (n size g : Nat) : Prop where
  grown : w.grownBy w' v.ownBlock
  at_ : v.ownBlock = some g ∨ g = w.heap.size
  lt : g < w'.heap.size
  cells : ∀ b j, v.ownBlock = some b → j < n * size → w'.cell? ⟨b, j, none⟩ = w.cell? ⟨b, j, none⟩

theorem AppK.keep {w w' : World} {v : Value} {n size g : Nat} (h : AppK w w' v n size g) {b j : Nat} {u : Value} (hc : w.cell? ⟨b, j, none⟩ = some u) (hj : v.ownBlock = some b → j < n * size) : w'.cell? ⟨b, j, none⟩ = some u := by
  by_cases hb : v.ownBlock = some b
  · rw [h.cells b j hb (hj hb)]; exact hc
  · exact h.grown.cell (a := ⟨b, j, none⟩) hc (Ne.symm hb)

section
variable {P : Program} {w : World} {t e : TypeId} {z : Value} {size bytes : Nat}

theorem run_app (E : ElemT P t e z size bytes) (ty : TypeId) {base : Nat} {v : Value} {n : Nat} {xs : List Value} (hown : w.ownsRow base e size v n xs) (ad : Addr) (m c : Nat) (news : List Value)
    (hl : news.length = m * size) (hnews : ∀ j u, news[j]? = some u → w.cell? (ad.add j) = some u) (h1 : ∀ u ∈ news, u.oneCell' = true) (hm : 0 < m) (h63 : n + m ≤ 9223372036854775807) (hbytes : (n + m) * bytes ≤ 140737488355328) (hbase : base ≤ w.heap.size) :
    ∃ g cap w', (Builtin.append_ #[t, t] ty #[v, .slice (some ad) m c]).run P w = .ok (.slice (some ⟨g, 0, none⟩) (n + m) cap) w' ∧ w'.ownsRow base e size (.slice (some ⟨g, 0, none⟩) (n + m) cap) (n + m) (xs ++ news) ∧ AppK w w' v n size g := by
  obtain ⟨i, hi, hz, rfl, rfl⟩ := E.info
  have ht := E.under
  have hlen : (xs ++ news).length = (n + m) * i.size := by rw [List.length_append, hown.1, hl, Nat.add_mul]
  have hcm0 : n + m ≤ maxLen := by unfold maxLen; omega
  have grown : ∀ (old : Nat), old < n + m → ∀ (row : Option Nat),
      (w.drew.alloc (.cells (xs.toArray ++ news.toArray ++ Builtin.zeroCells z.cells (grownCap w (n + m) old e - (n + m))) e)).ownsRow base e i.size
        (.slice (some ⟨w.heap.size, 0, none⟩) (n + m) (grownCap w (n + m) old e)) (n + m) (xs ++ news) ∧
      w.grownBy (w.drew.alloc (.cells (xs.toArray ++ news.toArray ++ Builtin.zeroCells z.cells (grownCap w (n + m) old e - (n + m))) e)) row := by
    intro old ho row
    have hge := grownCap_ge w (n + m) old e
    have hcm : grownCap w (n + m) old e ≤ maxLen := grownCap_le_maxLen w (n + m) old e hcm0
    refine ⟨⟨hlen, .inr ⟨w.heap.size, _, _, rfl, hbase, heap_alloc_new w.drew _, hge, hcm, ?_, ?_⟩⟩, ⟨rfl, rfl, rfl, by simp, fun k hk _ => Below.heap_alloc w.drew _ k hk⟩⟩
    · simp only [Array.size_append, List.size_toArray, size_zeroCells, E.cells, hown.1, hl, ← Nat.add_mul]
      congr 1
      omega
    · simp only [Array.toList_append, List.append_assoc]
      rw [← List.append_assoc, ← hlen]
      exact List.take_left
  rcases hown.2 with ⟨rfl, rfl⟩ | ⟨g, cap, cur, rfl, hbg, hg, hnc, hcm, hcs, htake⟩
  · have hx : xs = [] := List.eq_nil_of_length_eq_zero (by simpa using hown.1)
    subst hx
    have hr := run_append_nil (P := P) w t ty e i z ht hi hz ad m c news hl hnews hm (by omega) (by have hb := hbytes; simp only [Nat.zero_add] at hb; omega)
    have hgr := grown 0 (by omega) (Value.ownBlock (.slice none 0 0))
    simp only [Nat.zero_add, List.nil_append, Array.empty_append] at hgr hr ⊢
    exact ⟨_, _, _, hr, hgr.1, hgr.2, .inr rfl, by simp, fun b j hb => by simp [Value.ownBlock] at hb⟩
  · by_cases hroom : n + m ≤ cap
    · have hfit : n * i.size + news.length ≤ cur.size := by rw [hl, hcs, ← Nat.add_mul]; exact Nat.mul_le_mul_right _ hroom
      have hr := run_append_room (P := P) w t ty e i ht hi g n cap cur hg ad m c news hl hnews h1 hroom hfit
      refine ⟨_, _, _, hr, ⟨hlen, .inr ⟨g, cap, _, rfl, hbg, setRow_heap w g cur _ e _ hg, hroom, hcm, ?_, ?_⟩⟩, ⟨rfl, rfl, rfl, by simp, fun k _ hk => setRow_other w g k _ (fun e => hk (by simp [Value.ownBlock, e]))⟩, .inl rfl, ?_, fun b j hb hj => ?_⟩
      · simp only [List.size_toArray, List.length_append, List.length_take, List.length_drop, Array.length_toList]
        omega
      · rw [htake, ← hlen]
        exact List.take_left
      · simpa using (Array.getElem?_eq_some_iff.1 hg).1
      · have : g = b := by simpa [Value.ownBlock] using hb
        subst this
        rw [cell_of_row _ g j _ e (0, 0) (setRow_heap w g cur _ e _ hg), cell_of_row w g j cur e (0, 0) hg]
        have hjl : j < cur.toList.length := by simp; omega
        rw [List.getElem?_toArray, List.append_assoc, List.getElem?_append_left (by simp; omega), List.getElem?_take_of_lt hj]
        simp
    · have holds : ∀ j u, xs[j]? = some u → w.cell? ((⟨g, 0, none⟩ : Addr).add j) = some u := hown.cells (g := g) rfl
      have hr := run_append_grow (P := P) w t ty e i z ht hi hz ⟨g, 0, none⟩ n cap xs hown.1 holds ad m c news hl hnews (by omega) (by omega) (growslice_fits (by omega) hbytes)
      have hgr := grown cap (by omega) (Value.ownBlock (.slice (some ⟨g, 0, none⟩) n cap))
      exact ⟨_, _, _, hr, hgr.1, hgr.2, .inr rfl, by simp, fun b j hb _ => World.cell?_of_block ((grown cap (by omega) none).2.block b (hown.lt b hb).2 (by simp))⟩

/-- At the operation. -/
theorem wp_app {Q : Exit → Act → World → Prop} {K : Act → World → Prop} {o : Oper} {a : Act} (E : ElemT P t e z size bytes) (s x : Operand)
    (ho : o.op = .call { callee := .builtin .append, args := #[s, x], argTypes := #[t, t] }) {base : Nat} {v : Value} {n : Nat} {xs : List Value} (hs : a.eval s = v) (hown : w.ownsRow base e size v n xs)
    (ad : Addr) (m c : Nat) (news : List Value) (hx : a.eval x = .slice (some ad) m c) (hl : news.length = m * size) (hnews : ∀ j u, news[j]? = some u → w.cell? (ad.add j) = some u) (h1 : ∀ u ∈ news, u.oneCell' = true) (hm : 0 < m)
    (h63 : n + m ≤ 9223372036854775807) (hbytes : (n + m) * bytes ≤ 140737488355328) (hbase : base ≤ w.heap.size)
    (h : ∀ g cap w', w'.ownsRow base e size (.slice (some ⟨g, 0, none⟩) (n + m) cap) (n + m) (xs ++ news) → AppK w w' v n size g → K (a.put o.dst (.slice (some ⟨g, 0, none⟩) (n + m) cap)) w') : o.wp P a w K Q := by
  obtain ⟨g, cap, w', hr, h2, h3⟩ := run_app (P := P) (w := w) E o.type hown ad m c news hl hnews h1 hm h63 hbytes hbase
  unfold Oper.wp execOp
  simp only [ho, resolve, invoke, builtin, Sem.run_bind, Sem.run_pure, Result.andThen_ok, List.map_toArray, List.map_cons, List.map_nil, hs, hx, hr]
  exact h g cap w' h2 h3

/-- In a plain region. -/
theorem wpList_app {Q : Exit → Act → World → Prop} {ops : Array Oper} {rest : List Oper} {o : Oper} {a : Act} (hgd : o.guard = none) (E : ElemT P t e z size bytes) (s x : Operand)
    (ho : o.op = .call { callee := .builtin .append, args := #[s, x], argTypes := #[t, t] }) {base : Nat} {v : Value} {n : Nat} {xs : List Value} (hs : a.eval s = v) (hown : w.ownsRow base e size v n xs)
    (ad : Addr) (m c : Nat) (news : List Value) (hx : a.eval x = .slice (some ad) m c) (hl : news.length = m * size) (hnews : ∀ j u, news[j]? = some u → w.cell? (ad.add j) = some u) (h1 : ∀ u ∈ news, u.oneCell' = true) (hm : 0 < m)
    (h63 : n + m ≤ 9223372036854775807) (hbytes : (n + m) * bytes ≤ 140737488355328) (hbase : base ≤ w.heap.size)
    (h : ∀ g cap w', w'.ownsRow base e size (.slice (some ⟨g, 0, none⟩) (n + m) cap) (n + m) (xs ++ news) → AppK w w' v n size g → wpList P ops Q rest (a.put o.dst (.slice (some ⟨g, 0, none⟩) (n + m) cap)) w') : wpList P ops Q (o :: rest) a w :=
  wpList_plain hgd fun _ hK => wp_app E s x ho hs hown ad m c news hx hl hnews h1 hm h63 hbytes hbase fun g cap w' h2 h3 => hK _ _ (h g cap w' h2 h3)

/-- At a step of a region that draws its order. -/
theorem step_app {Q : Exit → Act → World → Prop} {K : Act → World → Prop} {ops : Array Oper} {o : Oper} {a : Act} {D : Prop} (hgd : o.guard = none) (E : ElemT P t e z size bytes) (s x : Operand)
    (ho : o.op = .call { callee := .builtin .append, args := #[s, x], argTypes := #[t, t] }) {base : Nat} {v : Value} {n : Nat} {xs : List Value} (hs : a.eval s = v) (hown : w.ownsRow base e size v n xs)
    (ad : Addr) (m c : Nat) (news : List Value) (hx : a.eval x = .slice (some ad) m c) (hl : news.length = m * size) (hnews : ∀ j u, news[j]? = some u → w.cell? (ad.add j) = some u) (h1 : ∀ u ∈ news, u.oneCell' = true) (hm : 0 < m)
    (h63 : n + m ≤ 9223372036854775807) (hbytes : (n + m) * bytes ≤ 140737488355328) (hbase : base ≤ w.heap.size)
    (h : ∀ g cap w', w'.ownsRow base e size (.slice (some ⟨g, 0, none⟩) (n + m) cap) (n + m) (xs ++ news) → AppK w w' v n size g → K (a.put o.dst (.slice (some ⟨g, 0, none⟩) (n + m) cap)) w') :
    if Region.wanted o (yielded ops a.tmps) = true then Oper.wp P o a w K Q else D := by
  rw [if_pos (by simp [Region.wanted, hgd])]
  exact wp_app E s x ho hs hown ad m c news hx hl hnews h1 hm h63 hbytes hbase h
end
end Go.Proofs.YtmnhgeggojgflaaGreatDoor
