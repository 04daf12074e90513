/- The text of a set: how the program cuts it into fields. Conditions: the library's variables lie as they are read. -/
import Derived.Test.YtckmhngcnimmdaaDoorWsPb
import Derived.Test.YtckmhngcnimmdaaDoorWsB
set_option linter.unusedVariables false
set_option linter.unusedSimpArgs false
namespace Go.Proofs.YtckmhngcnimmdaaDoor
open Go.RowKit

theorem flds_len : ∀ (l : List UInt8) (f : List UInt8), f ∈ flds l → f.length ≤ l.length
  | [], f, h => by
    have : f = [] := by simpa [flds] using h
    subst this
    simp
  | b :: l, f, h => by
    by_cases hb : b = 32
    · subst hb
      rw [flds_sp] at h
      rcases List.mem_cons.1 h with rfl | h
      · simp
      · have := flds_len l f h
        simp
        omega
    · rw [flds_ch _ hb] at h
      rcases List.mem_cons.1 h with rfl | h
      · have := flds_len l ((flds l).headD []) (by rw [flds_ne l]; simp)
        rw [List.length_cons, List.length_cons]
        omega
      · have := flds_len l f (by rw [flds_ne l]; exact List.mem_cons_of_mem _ h)
        simp
        omega
theorem flds_count : ∀ l : List UInt8, (flds l).length ≤ l.length + 1
  | [] => by simp [flds]
  | b :: l => by
    have := flds_count l
    by_cases hb : b = 32
    · subst hb
      rw [flds_sp, List.length_cons, List.length_cons]
      omega
    · rw [flds_ne l, List.length_cons] at this
      rw [flds_ch _ hb, List.length_cons, List.length_cons]
      omega
theorem mid_extract (t : ByteArray) (h : 2 ≤ t.size) : (t.extract 1 (t.size - 1)).data.toList = midL t.data.toList := by
  rw [Lib.extract_data, midL, data_len]
  rfl
/-- The fields, and the call that makes them. -/
theorem split_any (s : ByteArray) (w : World) (hs : s.size ≤ 1000) (ht : Tab w) : ∃ F : List ByteArray, F.map (·.data.toList) = flds s.data.toList ∧ (∀ f ∈ F, f.size ≤ 1000) ∧ F.length ≤ 1001 ∧
    Calls Tryd.prog 42 #[.string s, .string ⟨#[32]⟩] w fun e w' => e = .returned (.slice (some ⟨w.heap.size, 0, none⟩) F.length F.length) ∧ w' = w.alloc (.cells (F.map Value.string).toArray 9) := by
  obtain ⟨m, hm⟩ := ht.2
  have h := Tryd.strings_Split s ⟨#[32]⟩ m w (by omega) hm (by decide)
  have hd : (Lib.splitB ⟨#[32]⟩ 0 (Lib.countB s ⟨#[32]⟩) s).map (·.data.toList) = flds s.data.toList := by
    rw [Lib.splitB_data]
    exact split_flds _
  have hl : (Lib.splitB ⟨#[32]⟩ 0 (Lib.countB s ⟨#[32]⟩) s).length = Lib.countB s ⟨#[32]⟩ + 1 := Lib.splitB_all _ (by decide) 0 _ s rfl
  have hn : (flds s.data.toList).length ≤ 1001 := by
    have := flds_count s.data.toList
    rw [data_len] at this
    omega
  rw [← hd, List.length_map] at hn
  refine ⟨_, hd, fun f hf => ?_, hn, by rw [hl]; exact h⟩
  have h1 : f.data.toList ∈ flds s.data.toList := by
    rw [← hd]
    exact List.mem_map_of_mem hf
  have h2 := flds_len _ _ h1
  rw [data_len, data_len] at h2
  omega
end Go.Proofs.YtckmhngcnimmdaaDoor
