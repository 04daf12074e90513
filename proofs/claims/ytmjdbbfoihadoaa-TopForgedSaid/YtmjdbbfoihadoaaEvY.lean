/- Evidence: what follows does, for any operator. Conditions: the model is valid; the node is one of a list of the static language that fits the model; all worlds are worlds of the model. -/
import Derived.Test.YtmjdbbfoihadoaaEvX1
import Derived.Test.YtmjdbbfoihadoaaEvX5
import Derived.Test.YtmjdbbfoihadoaaEvX6
import Derived.Test.YtmjdbbfoihadoaaEvX7
import Derived.Test.YtmjdbbfoihadoaaEvX8
import Derived.Test.YtmjdbbfoihadoaaEvX9
import Derived.Test.YtmjdbbfoihadoaaEvX11
import Derived.Test.YtmjdbbfoihadoaaEvX13
set_option linter.unusedVariables false
set_option linter.unusedSimpArgs false
namespace Go.Proofs.Ytmjdbbfoihadoaa
open Go.RowKit
open Ev
open Fm (Nd)
theorem evfollows_any {w : World} {M : Md} {va ra : Option Addr} {cv cr : Nat} {rs : List (Option Addr × Nat)} (hM : MdR w M va cv ra cr rs) (hok : Okm M) (c : List Nd) (hc : Okc M c) (A : Option Addr) (cc : Nat) (hrd : Rd w (.slice A c.length cc) 6 c.length (fmC c)) (r : Rs) (hw : 0 ≤ r.w ∧ r.w < M.W) (hk : 0 ≤ r.k ∧ r.k < (c.length : Int)) (hst : r.st < 2 ^ M.n) (p : Option Addr × Nat)
    (L : List Cl) (AL : Option Addr) (cL : Nat) (hL : L.length ≤ 1000000) (hrl : Rd w (.slice AL L.length cL) 3 L.length (clsC L)) (hLw : ∀ l ∈ L, 0 ≤ l.w ∧ l.w < M.W) :
    Calls Try.prog 18 #[.agg #[.int .i64 M.W, .slice va M.V.length cv, .slice ra M.R.length cr], .slice A c.length cc, .agg #[.int .i64 r.w, .int .i64 r.k, .bool r.h, .slice p.1 r.fr.length p.2, .int .u64 r.st], .slice AL L.length cL] w fun e w' => e = .returned (.bool (folB M c r L)) ∧ Keep NoF w w' := by
  obtain ⟨rw, rk, rh, fr, st⟩ := r
  simp only at *
  obtain ⟨wd, rfl⟩ : ∃ v : Nat, rw = (v : Int) := ⟨rw.toNat, by omega⟩
  obtain ⟨kn, rfl⟩ : ∃ v : Nat, rk = (v : Int) := ⟨rk.toNat, by omega⟩
  have hn := hok.n1
  have hwd : wd < M.n := by omega
  have hkn : kn < c.length := by omega
  have hm := List.getElem?_eq_getElem hkn
  have hop := hc.op kn _ hm
  have hf := hc.fact kn _ hm
  have ha := hc.agent kn _ hm
  have hg := hc.group kn _ hm
  have hs : ∀ v, 9 ≤ c[kn].op → v < M.n → succN M c[kn] v < 2 ^ M.n := fun v h9 hv => Ev.succ_lt hok hc hm h9 hv
  have hLn : ∀ l ∈ L, 0 ≤ l.w ∧ l.w < (M.n : Int) := fun l hl => by have := hLw l hl; omega
  generalize c[kn] = m at *
  obtain ⟨op, i, e0, g, x, y⟩ := m
  simp only at hop hf ha hg hs
  have hcs : op = 1 ∨ op = 2 ∨ op = 3 ∨ op = 4 ∨ op = 5 ∨ op = 6 ∨ op = 7 ∨ op = 8 ∨ op = 9 ∨ op = 10 ∨ op = 11 ∨ op = 12 ∨ op = 13 := by omega
  rcases hcs with rfl | rfl | rfl | rfl | rfl | rfl | rfl | rfl | rfl | rfl | rfl | rfl | rfl
  · exact evfollows_1 hM hok c A cc hrd i e0 g x y kn wd hwd hm rh fr p st L AL cL hL hrl
  · exact evfollows_2 hM hok c A cc hrd i e0 g x y kn wd hwd hm rh fr p st L AL cL hL hrl
  · exact evfollows_3 hM hok c A cc hrd i e0 g x y kn wd hwd hm rh fr p st L AL cL hL hrl (hf rfl)
  · exact evfollows_4 hM hok c A cc hrd i e0 g x y kn wd hwd hm rh fr p st L AL cL hL hrl
  · exact evfollows_5 hM hok c A cc hrd i e0 g x y kn wd hwd hm rh fr p st L AL cL hL hrl
  · exact evfollows_6 hM hok c A cc hrd i e0 g x y kn wd hwd hm rh fr p st L AL cL hL hrl
  · exact evfollows_7 hM hok c A cc hrd i e0 g x y kn wd hwd hm rh fr p st L AL cL hL hrl
  · exact evfollows_8 hM hok c A cc hrd i e0 g x y kn wd hwd hm rh fr p st L AL cL hL hrl
  · exact evfollows_9 hM hok c A cc hrd i e0 g x y kn wd hwd hm rh fr p st L AL cL hL hrl (ha (.inl rfl)) (hs wd (by decide) hwd) hLn
  · exact evfollows_10 hM hok c A cc hrd i e0 g x y kn wd hwd hm rh fr p st L AL cL hL hrl (ha (.inr rfl)) (hs wd (by decide) hwd) hLn
  · have := hg (.inl rfl); exact evfollows_11 hM hok c A cc hrd i e0 g x y kn wd hwd hm rh fr p st L AL cL hL hrl (by omega) (hs wd (by decide) hwd) hLn
  · have := hg (.inr (.inl rfl)); exact evfollows_12 hM hok c A cc hrd i e0 g x y kn wd hwd hm rh fr p st L AL cL hL hrl (by omega) (hs wd (by decide) hwd) hLn
  · have := hg (.inr (.inr rfl)); exact evfollows_13 hM hok c A cc hrd i e0 g x y kn wd hwd hm rh fr p st L AL cL hL hrl (by omega) (fun v hv => hs v (by decide) hv) hst hLn
end Go.Proofs.Ytmjdbbfoihadoaa
