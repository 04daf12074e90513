/- What stays of memory while some blocks may turn; slices that read as lists of cells. No condition. -/
import Derived.WalkKit
import Derived.WalkSpells
import Derived.Deep.Draws
import Derived.Maps.AppendAt
import Derived.RegionTactic
import Derived.Deep.AppendLies
set_option linter.unusedVariables false
set_option linter.unusedSimpArgs false
namespace Go.Proofs.Ytengdldkkmknpaa
open Go.RowKit

/-- Only blocks of F, and blocks that are new, may have turned. -/
structure Keep (F : Nat → Prop) (w w' : World) : Prop where
  os : w'.os = w.os
  tape : w'.tape = w.tape
  output : w'.output = w.output
  size : w.heap.size ≤ w'.heap.size
  block : ∀ k, k < w.heap.size → ¬ F k → w'.heap[k]? = w.heap[k]?

def NoF : Nat → Prop := fun _ => False

section
variable {F G : Nat → Prop} {w w' w1 w2 : World}
theorem Keep.refl (F : Nat → Prop) (w : World) : Keep F w w := ⟨rfl, rfl, rfl, Nat.le_refl _, fun _ _ _ => rfl⟩
theorem Keep.trans (h : Keep F w w1) (k : Keep G w1 w2) (hs : ∀ i, i < w.heap.size → G i → F i) : Keep F w w2 :=
  ⟨k.os.trans h.os, k.tape.trans h.tape, k.output.trans h.output, Nat.le_trans h.size k.size,
    fun i hi hf => (k.block i (Nat.lt_of_lt_of_le hi h.size) (fun hg => hf (hs i hi hg))).trans (h.block i hi hf)⟩
theorem Keep.mono (h : Keep F w w1) (hs : ∀ i, i < w.heap.size → F i → G i) : Keep G w w1 :=
  ⟨h.os, h.tape, h.output, h.size, fun i hi hf => h.block i hi (fun hg => hf (hs i hi hg))⟩
theorem Keep.drew (h : Keep F w w1) : Keep F w w1.drew := ⟨h.os, h.tape, h.output, h.size, h.block⟩
theorem Keep.undrew (h : Keep F w.drew w') : Keep F w w' := ⟨h.os, h.tape, h.output, h.size, h.block⟩
theorem Keep.undrewN {n : Nat} (h : Keep F (w.drewN n) w') : Keep F w w' := ⟨h.os, h.tape, h.output, h.size, h.block⟩
theorem Keep.drewN (h : Keep F w w1) (n : Nat) : Keep F w (w1.drewN n) := ⟨h.os, h.tape, h.output, h.size, h.block⟩
theorem Keep.alloc (h : Keep F w w1) (o : Obj) : Keep F w (w1.alloc o) :=
  ⟨h.os, h.tape, h.output, Nat.le_trans h.size (by simp), fun i hi hf => (Below.heap_alloc w1 o i (Nat.lt_of_lt_of_le hi h.size)).trans (h.block i hi hf)⟩
theorem Keep.setCell (h : Keep F w w1) {p : Addr} (hp : F p.block ∨ w.heap.size ≤ p.block) (u : Value) : Keep F w (w1.setCell p u) :=
  ⟨h.os, h.tape, h.output, by simpa [World.setCell] using h.size, fun i hi hf => (Below.heap_setCell w1 p u i (by
    rintro rfl
    rcases hp with hp | hp
    · exact hf hp
    · omega)).trans (h.block i hi hf)⟩
theorem Keep.grown (h : Keep F w w1) {row : Option Nat} (hg : w1.grownBy w2 row) (hr : ∀ k, row = some k → F k ∨ w.heap.size ≤ k) : Keep F w w2 :=
  ⟨hg.os.trans h.os, hg.tape.trans h.tape, hg.output.trans h.output, Nat.le_trans h.size hg.size, fun i hi hf => (hg.block i (Nat.lt_of_lt_of_le hi h.size) (by
    intro he
    rcases hr i he.symm with hp | hp
    · exact hf hp
    · omega)).trans (h.block i hi hf)⟩
theorem Keep.setBlock (h : Keep F w w1) {b : Nat} {o : Obj} (hb : F b ∨ w.heap.size ≤ b) : Keep F w (ChangeMaps.setBlock w1 b o) :=
  ⟨h.os, h.tape, h.output, by simpa [ChangeMaps.setBlock] using h.size, fun i hi hf => by
    have hne : b ≠ i := by
      rintro rfl
      rcases hb with hb | hb
      · exact hf hb
      · omega
    rw [← h.block i hi hf]
    simp only [ChangeMaps.setBlock]
    exact Array.getElem?_setIfInBounds_ne hne⟩
theorem Keep.cell (h : Keep F w w') {p : Addr} (hp : p.block < w.heap.size) (hf : ¬ F p.block) : w'.cell? p = w.cell? p := World.cell?_of_block (w := w) (h.block p.block hp hf)
theorem Keep.frozen (h : Keep F w w') {p : Addr} (hp : p.block < w.heap.size) (hf : ¬ F p.block) : w'.frozen? p = w.frozen? p := World.frozen?_of_block (w := w) (h.block p.block hp hf)
theorem Keep.cellv (h : Keep F w w') {p : Addr} {v : Value} (hc : w.cell? p = some v) (hf : ¬ F p.block) : w'.cell? p = some v := (h.cell (World.block_lt_of_cell? w p hc) hf).trans hc
theorem Keep.below (h : Keep NoF w w') : Below w.heap.size w w' := ⟨h.os, h.tape, h.output, h.size, fun k hk => h.block k hk (fun hf => hf)⟩
theorem Keep.belowB {B : Nat} (h : Keep F w w') (hB : B ≤ w.heap.size) (hf : ∀ k, k < B → ¬ F k) : Below B w w' := ⟨h.os, h.tape, h.output, h.size, fun k hk => h.block k (by omega) (hf k hk)⟩
theorem Keep.of_below (h : Below w.heap.size w w') (F : Nat → Prop) : Keep F w w' := ⟨h.os, h.tape, h.output, h.size, fun k hk _ => h.block k hk⟩
theorem Keep.of_grown {row : Option Nat} (hg : w.grownBy w' row) (hr : ∀ k, row = some k → F k) : Keep F w w' := (Keep.refl F w).grown hg fun k hk => .inl (hr k hk)
end

/-- Two steps, each of which keeps all but its own blocks. -/
theorem grow_trans {F F1 F2 : Nat → Prop} {w w1 w2 : World} (h1 : Keep F w w1 ∧ ∀ k, F1 k → F k ∨ w.heap.size ≤ k) (h2 : Keep F1 w1 w2 ∧ ∀ k, F2 k → F1 k ∨ w1.heap.size ≤ k) : Keep F w w2 ∧ ∀ k, F2 k → F k ∨ w.heap.size ≤ k := by
  refine ⟨h1.1.trans h2.1 fun i hi h => ?_, fun k hk => ?_⟩
  · rcases h1.2 i h with h | h
    · exact h
    · omega
  · rcases h2.2 k hk with h | h
    · exact h1.2 k h
    · exact .inr (Nat.le_trans h1.1.size h)

/-- Block g of w is just the cells cs, of element type t, none frozen. -/
def Bk (w : World) (g : Nat) (t : TypeId) (cs : Array Value) : Prop := w.heap[g]? = some (.cells cs t (0, 0))

section
variable {F : Nat → Prop} {w w' : World} {g : Nat} {t : TypeId} {cs : Array Value}
theorem Bk.lt (h : Bk w g t cs) : g < w.heap.size := (Array.getElem?_eq_some_iff.1 h).1
theorem Bk.cell (h : Bk w g t cs) (i : Nat) : w.cell? ⟨g, i, none⟩ = cs[i]? := cell_of_row w g i cs t (0, 0) h
theorem Bk.frozen (h : Bk w g t cs) (i : Nat) : w.frozen? ⟨g, i, none⟩ = false := by
  unfold Bk at h
  simp [World.frozen?, h]
theorem Bk.new (w : World) (t : TypeId) (cs : Array Value) : Bk (w.alloc (.cells cs t)) w.heap.size t cs := heap_alloc_new w _
theorem Bk.drewN (h : Bk w g t cs) (n : Nat) : Bk (w.drewN n) g t cs := h
theorem Bk.drew (h : Bk w g t cs) : Bk w.drew g t cs := h
theorem Bk.alloc (h : Bk w g t cs) (o : Obj) : Bk (w.alloc o) g t cs := (Below.heap_alloc w o g h.lt).trans h
theorem Bk.put (h : Bk w g t cs) (i : Nat) (u : Value) : Bk (w.setCell ⟨g, i, none⟩ u) g t (cs.setIfInBounds i u) := by
  unfold Bk at h ⊢
  simp [World.setCell, Array.getElem?_modify, h]
theorem Bk.far (h : Bk w g t cs) {p : Addr} (hp : g ≠ p.block) (u : Value) : Bk (w.setCell p u) g t cs := (Below.heap_setCell w p u g hp).trans h
theorem Bk.keep (h : Bk w g t cs) (hk : Keep F w w') (hf : ¬ F g) : Bk w' g t cs := (hk.block g h.lt hf).trans h
theorem Bk.grown {row : Option Nat} (h : Bk w g t cs) (hb : w.grownBy w' row) (hg : some g ≠ row) : Bk w' g t cs := (hb.block g h.lt hg).trans h
theorem Bk.block (h : Bk w g t cs) (hb : w'.heap[g]? = w.heap[g]?) : Bk w' g t cs := hb.trans h
theorem Bk.ne_type {g' : Nat} {t' : TypeId} {cs' : Array Value} (h : Bk w g t cs) (h' : Bk w g' t' cs') (hne : t ≠ t') : g ≠ g' := by
  rintro rfl
  unfold Bk at h h'
  rw [h] at h'
  injection h' with h'
  injection h' with _ ht
  exact hne ht
end

/-- v is a slice of n elements, size cells each; its cells are xs. -/
def Rd (w : World) (v : Value) (size n : Nat) (xs : List Value) : Prop :=
  xs.length = n * size ∧ ∃ A c, v = .slice A n c ∧ n ≤ c ∧ (0 < n → ∃ bl off, A = some ⟨bl, off, none⟩ ∧ ∀ j u, xs[j]? = some u → w.cell? ⟨bl, off + j, none⟩ = some u)

section
variable {F : Nat → Prop} {w w' : World} {v : Value} {size n : Nat} {xs : List Value}
theorem Rd.nil (w : World) (size : Nat) : Rd w (.slice none 0 0) size 0 [] := ⟨by simp, none, 0, rfl, Nat.le_refl _, fun h => absurd h (by omega)⟩
theorem Rd.keep (h : Rd w v size n xs) (hk : ∀ k, v.ownBlock = some k → k < w.heap.size → w'.heap[k]? = w.heap[k]?) : Rd w' v size n xs := by
  obtain ⟨h1, A, c, rfl, hc, h2⟩ := h
  refine ⟨h1, A, c, rfl, hc, fun hn => ?_⟩
  obtain ⟨bl, off, rfl, hc⟩ := h2 hn
  refine ⟨bl, off, rfl, fun j u hu => ?_⟩
  have hcu := hc j u hu
  have hlt := World.block_lt_of_cell? w _ hcu
  rw [World.cell?_of_block (w := w) (w' := w') (a := ⟨bl, off + j, none⟩) (hk _ rfl hlt)]
  exact hcu
theorem Rd.kept (h : Rd w v size n xs) (hk : Keep F w w') (hf : ∀ k, v.ownBlock = some k → ¬ F k) : Rd w' v size n xs := h.keep fun k hv hlt => hk.block k hlt (hf k hv)
theorem Rd.blk_lt (h : Rd w v size n xs) (hn : 0 < n) (hs : 0 < size) : ∀ k, v.ownBlock = some k → k < w.heap.size := by
  obtain ⟨hl, A, c, rfl, _, h2⟩ := h
  obtain ⟨bl, off, rfl, hc⟩ := h2 hn
  intro k hk
  have hx : 0 < xs.length := by rw [hl]; exact Nat.mul_pos hn hs
  have := World.block_lt_of_cell? w _ (hc 0 xs[0] (List.getElem?_eq_getElem hx))
  have e : bl = k := by simpa [Value.ownBlock] using hk
  exact e ▸ this
theorem Rd.at_ {A : Option Addr} {m c : Nat} (h : Rd w (.slice A m c) size n xs) (hn : 0 < n) : m = n ∧ n ≤ c ∧ ∃ bl off, A = some ⟨bl, off, none⟩ ∧ ∀ j u, xs[j]? = some u → w.cell? ⟨bl, off + j, none⟩ = some u := by
  obtain ⟨_, A', c', he, hc, h2⟩ := h
  injection he with h1 h3 h4
  subst h1 h3 h4
  exact ⟨rfl, hc, h2 hn⟩
theorem Rd.of_own {base : Nat} {e : TypeId} (h : w.ownsRow base e size v n xs) : Rd w v size n xs := by
  refine ⟨h.1, ?_⟩
  rcases h.2 with ⟨rfl, rfl⟩ | ⟨g, cap, cur, rfl, hb, hg, hr⟩
  · exact ⟨none, 0, rfl, Nat.le_refl _, fun h => absurd h (by omega)⟩
  · refine ⟨_, _, rfl, hr.1, fun _ => ⟨g, 0, rfl, fun j u hu => ?_⟩⟩
    have := h.cells (g := g) rfl j u hu
    rwa [Addr.add_lit] at this
theorem own_keep {base : Nat} {e : TypeId} (h : w.ownsRow base e size v n xs) (hk : ∀ k, v.ownBlock = some k → w'.heap[k]? = w.heap[k]?) : w'.ownsRow base e size v n xs := by
  refine ⟨h.1, ?_⟩
  rcases h.2 with hn | ⟨g, cap, cur, rfl, hb, hg, hr⟩
  · exact .inl hn
  · exact .inr ⟨g, cap, cur, rfl, hb, (hk g rfl).trans hg, hr⟩
theorem own_base {base base' : Nat} {e : TypeId} (h : w.ownsRow base e size v n xs) (hb : base' ≤ base) : w.ownsRow base' e size v n xs := by
  refine ⟨h.1, ?_⟩
  rcases h.2 with hn | ⟨g, cap, cur, rfl, hb', hg, hr⟩
  · exact .inl hn
  · exact .inr ⟨g, cap, cur, rfl, by omega, hg, hr⟩
theorem own_ne_bk {base : Nat} {e t : TypeId} {g : Nat} {cs : Array Value} (h : w.ownsRow base e size v n xs) (hg : Bk w g t cs) (hne : e ≠ t) : v.ownBlock ≠ some g := by
  rcases h.2 with ⟨rfl, _⟩ | ⟨g', cap, cur, rfl, _, hh, _⟩
  · simp [Value.ownBlock]
  · intro he
    have : g' = g := by simpa [Value.ownBlock] using he
    subst this
    exact Bk.ne_type (t := e) hh hg hne rfl
end
theorem own_form {w : World} {base : Nat} {e : TypeId} {size n : Nat} {v : Value} {xs : List Value} (h : w.ownsRow base e size v n xs) : ∃ A c, v = .slice A n c := by
  rcases h.2 with ⟨rfl, rfl⟩ | ⟨g', cap, cur, rfl, _⟩
  · exact ⟨_, _, rfl⟩
  · exact ⟨_, _, rfl⟩
theorem own_lt {w : World} {base g n cap size : Nat} {o : Nat} {e : TypeId} {xs : List Value} {v : Value} (h : w.ownsRow base e size v n xs) (hv : v = .slice (some ⟨g, o, none⟩) n cap) : g < w.heap.size := by
  subst hv
  exact (h.lt g rfl).2
end Go.Proofs.Ytengdldkkmknpaa
