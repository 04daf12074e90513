/- Small functions of the parser's law and reference: lists that are equal, few, example. Conditions: equal lists. The signature of the examples, and few. No condition. -/
import Derived.Test.YtbidfbojealmlaaGreatDoorPaV
import Derived.Test.YtbidfbojealmlaaGreatDoorFmJL
set_option linter.unusedVariables false
set_option linter.unusedSimpArgs false
namespace Go.Proofs.YtbidfbojealmlaaGreatDoor
open Go.RowKit
open Fm (Nd cl)
section
set_option maxRecDepth 100000
set_option maxHeartbeats 2000000
end
end Go.Proofs.YtbidfbojealmlaaGreatDoor
namespace Go.Proofs.YtbidfbojealmlaaGreatDoor
open Go.RowKit
open Fm (Nd cl)

def SE : Sg := ⟨[⟨#[97]⟩, ⟨#[98]⟩], [⟨#[112]⟩, ⟨#[113]⟩, ⟨#[114]⟩], [⟨#[116, 101, 108, 108]⟩]⟩
theorem rd_litP (w : World) (l : List ByteArray) (n : Nat) (hn : n ≤ 1000) (h : l.length = n) : Rd (w.alloc (.cells (strs l).toArray 9)) (.slice (some ⟨w.heap.size, 0, none⟩) n n) 1 n (strs l) :=
  Rd.of_own (World.ownsRow_lit (base := 0) (e := 9) (size := 1) w (strs l).toArray n (by omega) (by simp [maxLen]; omega) (by simp [h]))
def FewPost (t : ByteArray) (w : World) (e : Ending) (w' : World) : Prop := ∃ b : Bool, e = .returned (.bool b) ∧ (b = true → t.size ≤ 300) ∧ Keep NoF w w'
theorem FewPost.no {t : ByteArray} {w w' : World} (hk : Keep NoF w w') : FewPost t w (.returned (.bool false)) w' := ⟨false, rfl, (fun h => by cases h), hk⟩
section
set_option maxRecDepth 100000
set_option maxHeartbeats 2000000
end
end Go.Proofs.YtbidfbojealmlaaGreatDoor
