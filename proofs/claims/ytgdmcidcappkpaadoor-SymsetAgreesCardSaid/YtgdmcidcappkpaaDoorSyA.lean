/- Sets of states and relations between states as functions of bits: plain words and laws, no program. No condition. -/
import Derived.Test.YtgdmcidcappkpaaDoorLaw
set_option linter.unusedVariables false
set_option linter.unusedSimpArgs false
namespace Go.Proofs.YtgdmcidcappkpaaDoor.Dd

/-! ### rows of bits -/
theorem enc_bit : ∀ (n : Nat) (b : Nat → Bool) (i : Nat), (enc n b).testBit i = (decide (i < n) && b i)
  | 0, b, i => by simp [enc]
  | n + 1, b, i => by
    have ih := enc_bit n (fun i => b (i + 1))
    unfold enc
    cases i with
    | zero =>
      rw [Nat.testBit_zero]
      cases h : b 0 <;> simp [h] <;> omega
    | succ i =>
      rw [Nat.testBit_succ]
      have : (2 * enc n (fun i => b (i + 1)) + (b 0).toNat) / 2 = enc n fun i => b (i + 1) := by
        have : (b 0).toNat ≤ 1 := by cases b 0 <;> simp
        omega
      rw [this, ih]
      simp
theorem enc_congr {n : Nat} {b b' : Nat → Bool} (h : ∀ i, i < n → b i = b' i) : enc n b = enc n b' := by
  apply Nat.eq_of_testBit_eq
  intro i
  rw [enc_bit, enc_bit]
  by_cases hi : i < n
  · rw [h i hi]
  · simp [hi]
theorem enc_self {n S : Nat} (h : S < 2 ^ n) : enc n S.testBit = S := by
  apply Nat.eq_of_testBit_eq
  intro i
  rw [enc_bit]
  by_cases hi : i < n
  · simp [hi]
  · rw [Nat.testBit_lt_two_pow (Nat.lt_of_lt_of_le h (Nat.pow_le_pow_right (by omega) (by omega)))]
    simp
theorem enc_eq {n v : Nat} {b : Nat → Bool} (hv : v < 2 ^ n) : enc n b = v ↔ ∀ i, i < n → b i = v.testBit i := by
  constructor
  · rintro rfl i hi
    rw [enc_bit]
    simp [hi]
  · intro h
    rw [enc_congr h, enc_self hv]
theorem enc_snoc (n : Nat) (b : Nat → Bool) : enc (n + 1) b = enc n b ||| (if b n = true then 2 ^ n else 0) := by
  apply Nat.eq_of_testBit_eq
  intro i
  rw [Nat.testBit_or, enc_bit, enc_bit]
  by_cases hb : b n = true
  · rw [if_pos hb, Nat.testBit_two_pow]
    rcases Nat.lt_trichotomy i n with h | rfl | h
    · simp [h, show i < n + 1 by omega, show ¬ n = i by omega]
    · simp [hb]
    · simp [show ¬ i < n + 1 by omega, show ¬ i < n by omega, show ¬ n = i by omega]
  · rw [if_neg hb, Nat.zero_testBit, Bool.or_false]
    rcases Nat.lt_trichotomy i n with h | rfl | h
    · simp [h, show i < n + 1 by omega]
    · simp [hb]
    · simp [show ¬ i < n + 1 by omega, show ¬ i < n by omega]

/-! ### states -/
/-- The assignment of a state and a next state. -/
def asgN (k v w : Nat) : Nat := enc (2 * k) fun x => if x % 2 = 0 then v.testBit (x / 2) else w.testBit (x / 2)
theorem asgN_lt (k v w : Nat) : asgN k v w < 2 ^ (2 * k) := enc_lt _ _
theorem asgN_succ (k v w : Nat) : asgN (k + 1) v w = asgN k v w ||| ((if v.testBit k = true then 2 ^ (2 * k) else 0) ||| (if w.testBit k = true then 2 ^ (2 * k + 1) else 0)) := by
  unfold asgN
  rw [show 2 * (k + 1) = 2 * k + 1 + 1 by omega, enc_snoc, enc_snoc, Nat.or_assoc]
  have e1 : 2 * k % 2 = 0 := by omega
  have e2 : (2 * k + 1) % 2 = 1 := by omega
  have e3 : 2 * k / 2 = k := by omega
  have e4 : (2 * k + 1) / 2 = k := by omega
  simp only [e1, e2, e3, e4]
  simp
theorem asgN_even {k v w i : Nat} (h : i < k) : (asgN k v w).testBit (2 * i) = v.testBit i := by
  unfold asgN
  rw [enc_bit, decide_eq_true (show 2 * i < 2 * k by omega), show 2 * i % 2 = 0 by omega, show 2 * i / 2 = i by omega]
  simp
theorem asgN_odd {k v w i : Nat} (h : i < k) : (asgN k v w).testBit (2 * i + 1) = w.testBit i := by
  unfold asgN
  rw [enc_bit, decide_eq_true (show 2 * i + 1 < 2 * k by omega), show (2 * i + 1) % 2 = 1 by omega, show (2 * i + 1) / 2 = i by omega]
  simp
/-- The number of the current state (s = 0), of the next one (s = 1). -/
def cod (k s : Nat) (ρ : Nat → Bool) : Nat := enc k fun i => ρ (2 * i + s)
theorem cod_lt (k s : Nat) (ρ : Nat → Bool) : cod k s ρ < 2 ^ k := enc_lt _ _
theorem cod_asg0 {k v w : Nat} (h : v < 2 ^ k) : cod k 0 (asgN k v w).testBit = v := (enc_eq h).2 fun i hi => asgN_even hi
theorem cod_asg1 {k v w : Nat} (h : w < 2 ^ k) : cod k 1 (asgN k v w).testBit = w := (enc_eq h).2 fun i hi => asgN_odd hi

/-! ### functions of bits -/
/-- What a function of the first V variables is. -/
def Loc (V : Nat) (f : BFn) : Prop := ∀ ρ ρ', (∀ x, x < V → ρ x = ρ' x) → f ρ = f ρ'
theorem Loc.within {V : Nat} {f : BFn} (h : Loc V f) : Within V f := fun v hv ρ b => h _ _ fun x hx => upd_ne ρ b (by omega)
theorem Valid.loc {V : Nat} {M : List Nd} {r : Nat} (H : Valid V M r) : Loc V (den M r) := by
  have key : ∀ i, i < M.length + 2 → Loc V (den M i) := by
    intro i
    induction i using Nat.strongRecOn with
    | _ i ih =>
      intro hi ρ ρ' h
      by_cases h2 : 2 ≤ i
      · have a1 := H.good.lo_lt i h2 hi
        have a2 := H.good.hi_lt i h2 hi
        have a3 := H.bound i h2 hi
        rw [den_node H.good h2 hi, den_node H.good h2 hi, h _ a3, ih _ a1 (by omega) ρ ρ' h, ih _ a2 (by omega) ρ ρ' h]
      · have : i = 0 ∨ i = 1 := by omega
        rcases this with rfl | rfl <;> rfl
  exact key r H.root
/-- A set as a function of the current state, or the next one. -/
def setF (k S s : Nat) : BFn := fun ρ => S.testBit (cod k s ρ)
def relF (k : Nat) (R : List Nat) : BFn := fun ρ => (R.getD (cod k 0 ρ) 0).testBit (cod k 1 ρ)
def stF (k v s : Nat) : BFn := fun ρ => decide (cod k s ρ = v)
theorem cod_loc {k s : Nat} (hs : s ≤ 1) {ρ ρ' : Nat → Bool} (h : ∀ x, x < 2 * k → ρ x = ρ' x) : cod k s ρ = cod k s ρ' := enc_congr fun i hi => h _ (by omega)
theorem setF_loc {k S s : Nat} (hs : s ≤ 1) : Loc (2 * k) (setF k S s) := fun ρ ρ' h => by unfold setF; rw [cod_loc hs h]
theorem stF_loc {k v s : Nat} (hs : s ≤ 1) : Loc (2 * k) (stF k v s) := fun ρ ρ' h => by unfold stF; rw [cod_loc hs h]
theorem relF_loc {k : Nat} {R : List Nat} : Loc (2 * k) (relF k R) := fun ρ ρ' h => by unfold relF; rw [cod_loc (by omega) h, cod_loc (by omega) h]
/-- The first i bits of a state. -/
def stP (v s : Nat) (i : Nat) : BFn := fun ρ => (List.range i).all fun j => ρ (2 * j + s) == v.testBit j
theorem stP_zero (v s : Nat) : stP v s 0 = fun _ => true := rfl
theorem stP_succ (v s i : Nat) (ρ : Nat → Bool) : stP v s (i + 1) ρ = (stP v s i ρ && (if v.testBit i = true then ρ (2 * i + s) else !ρ (2 * i + s))) := by
  unfold stP
  rw [List.range_succ, List.all_append, List.all_cons, List.all_nil, Bool.and_true]
  congr 1
  cases v.testBit i <;> cases ρ (2 * i + s) <;> rfl
theorem stP_end {k v s : Nat} (hv : v < 2 ^ k) (ρ : Nat → Bool) : stP v s k ρ = stF k v s ρ := by
  unfold stP stF cod
  rw [Bool.eq_iff_iff, List.all_eq_true, decide_eq_true_iff, enc_eq hv]
  constructor
  · intro h i hi
    simpa using h i (List.mem_range.2 hi)
  · intro h i hi
    simpa using h i (List.mem_range.1 hi)
/-- The first v states of a set. -/
def setP (k S s : Nat) (v : Nat) : BFn := fun ρ => (List.range v).any fun u => S.testBit u && stF k u s ρ
theorem setP_succ (k S s v : Nat) (ρ : Nat → Bool) : setP k S s (v + 1) ρ = (setP k S s v ρ || (S.testBit v && stF k v s ρ)) := by
  unfold setP
  rw [List.range_succ, List.any_append]
  simp
theorem setP_end (k S s : Nat) (ρ : Nat → Bool) : setP k S s (2 ^ k) ρ = setF k S s ρ := by
  unfold setP setF stF
  rw [Bool.eq_iff_iff, List.any_eq_true]
  constructor
  · rintro ⟨u, _, h⟩
    simp only [Bool.and_eq_true, decide_eq_true_eq] at h
    rw [h.2]
    exact h.1
  · intro h
    exact ⟨_, List.mem_range.2 (cod_lt k s ρ), by simpa using h⟩
/-- The first v rows of a relation. -/
def relP (k : Nat) (R : List Nat) (v : Nat) : BFn := fun ρ => (List.range v).any fun u => stF k u 0 ρ && setF k (R.getD u 0) 1 ρ
theorem relP_succ (k : Nat) (R : List Nat) (v : Nat) (ρ : Nat → Bool) : relP k R (v + 1) ρ = (relP k R v ρ || (stF k v 0 ρ && setF k (R.getD v 0) 1 ρ)) := by
  unfold relP
  rw [List.range_succ, List.any_append]
  simp
theorem relP_end (k : Nat) (R : List Nat) (ρ : Nat → Bool) : relP k R (2 ^ k) ρ = relF k R ρ := by
  unfold relP setF stF relF
  rw [Bool.eq_iff_iff, List.any_eq_true]
  constructor
  · rintro ⟨u, _, h⟩
    simp only [Bool.and_eq_true, decide_eq_true_eq] at h
    rw [h.1]
    exact h.2
  · intro h
    exact ⟨_, List.mem_range.2 (cod_lt k 0 ρ), by simpa using h⟩
theorem stP_loc {k v s i : Nat} (hs : s ≤ 1) (hi : i ≤ k) : Loc (2 * k) (stP v s i) := fun ρ ρ' h => by
  have : ∀ j, j ≤ k → stP v s j ρ = stP v s j ρ' := by
    intro j
    induction j with
    | zero => intro _; rfl
    | succ j ih => intro hj; rw [stP_succ, stP_succ, ih (by omega), h _ (by omega)]
  exact this i hi
theorem setP_loc {k S s v : Nat} (hs : s ≤ 1) : Loc (2 * k) (setP k S s v) := fun ρ ρ' h => by
  unfold setP
  congr 1
  funext u
  rw [stF_loc hs ρ ρ' h]
theorem relP_loc {k : Nat} {R : List Nat} {v : Nat} : Loc (2 * k) (relP k R v) := fun ρ ρ' h => by
  unfold relP
  congr 1
  funext u
  rw [stF_loc (by omega) ρ ρ' h, setF_loc (by omega) ρ ρ' h]

/-! ### what the functions of a set are -/
/-- The states of a set; the rows of a relation. -/
def memN (k : Nat) (f : BFn) (n : Nat) : Nat := enc n fun v => f (asgN k v 0).testBit
def rowN (k : Nat) (f : BFn) (v n : Nat) : Nat := enc n fun w => f (asgN k v w).testBit
def pairsN (k : Nat) (f : BFn) : List Nat := (List.range (2 ^ k)).map fun v => rowN k f v (2 ^ k)
theorem memN_succ (k : Nat) (f : BFn) (n : Nat) : memN k f (n + 1) = memN k f n ||| (if f (asgN k n 0).testBit = true then 2 ^ n else 0) := enc_snoc _ _
theorem rowN_succ (k : Nat) (f : BFn) (v n : Nat) : rowN k f v (n + 1) = rowN k f v n ||| (if f (asgN k v n).testBit = true then 2 ^ n else 0) := enc_snoc _ _
theorem memN_set {k S : Nat} (hS : S < 2 ^ (2 ^ k)) : memN k (setF k S 0) (2 ^ k) = S := by
  unfold memN
  rw [enc_eq hS]
  intro v hv
  unfold setF
  rw [cod_asg0 hv]
theorem rowN_rel {k v : Nat} {R : List Nat} (hv : v < 2 ^ k) (hR : R.getD v 0 < 2 ^ (2 ^ k)) : rowN k (relF k R) v (2 ^ k) = R.getD v 0 := by
  unfold rowN
  rw [enc_eq hR]
  intro w hw
  unfold relF
  rw [cod_asg0 hv, cod_asg1 hw]
theorem pairsN_rel {k : Nat} {R : List Nat} (hl : R.length = 2 ^ k) (hR : ∀ x ∈ R, x < 2 ^ (2 ^ k)) : pairsN k (relF k R) = R := by
  unfold pairsN
  apply List.ext_getElem?
  intro v
  rw [List.getElem?_map]
  by_cases hv : v < 2 ^ k
  · rw [List.getElem?_range hv]
    have hg : R[v]? = some (R.getD v 0) := by
      rw [List.getD_eq_getElem?_getD, List.getElem?_eq_getElem (by omega)]
      rfl
    rw [hg, Option.map_some, rowN_rel hv (hR _ (List.mem_of_getElem? hg))]
  · rw [List.getElem?_eq_none (by simpa using hv), List.getElem?_eq_none (by omega)]
    rfl
theorem setF_eq {k S T : Nat} (hS : S < 2 ^ (2 ^ k)) (hT : T < 2 ^ (2 ^ k)) (h : ∀ ρ, setF k S 0 ρ = setF k T 0 ρ) : S = T := by
  rw [← memN_set hS, ← memN_set hT]
  unfold memN
  exact enc_congr fun i _ => h _

/-! ### one place of each pair to the other -/
/-- A set of current states as one of next states; and the other way round; both places exchanged: the first n variables alone. -/
def upF (n : Nat) (f : BFn) : BFn := fun ρ => f fun x => if x % 2 = 0 ∧ x < n then ρ (x + 1) else ρ x
def dnF (n : Nat) (f : BFn) : BFn := fun ρ => f fun x => if x % 2 = 1 ∧ x < n then ρ (x - 1) else ρ x
def swF (n : Nat) (f : BFn) : BFn := fun ρ => f fun x => if x < n then (if x % 2 = 0 then ρ (x + 1) else ρ (x - 1)) else ρ x
theorem upF_zero (f : BFn) : upF 0 f = f := by funext ρ; simp [upF]
theorem dnF_zero (f : BFn) : dnF 0 f = f := by funext ρ; simp [dnF]
theorem swF_zero (f : BFn) : swF 0 f = f := by funext ρ; simp [swF]
theorem upF_step {n : Nat} (hn : n % 2 = 0) (f : BFn) (ρ : Nat → Bool) : (if ρ (n + 1) then rf n true (upF n f) ρ else rf n false (upF n f) ρ) = upF (n + 2) f ρ := by
  have h : rf n (ρ (n + 1)) (upF n f) ρ = upF (n + 2) f ρ := by
    unfold rf upF
    congr 1
    funext x
    unfold upd
    by_cases h1 : x % 2 = 0 ∧ x < n
    · rw [if_pos h1, if_neg (by omega), if_pos (by omega)]
    · rw [if_neg h1]
      by_cases h2 : x = n
      · subst h2
        rw [if_pos rfl, if_pos (by omega)]
      · rw [if_neg h2, if_neg (by omega)]
  rw [← h]
  cases ρ (n + 1) <;> simp
theorem dnF_step {n : Nat} (hn : n % 2 = 0) (f : BFn) (ρ : Nat → Bool) : (if ρ n then rf (n + 1) true (dnF n f) ρ else rf (n + 1) false (dnF n f) ρ) = dnF (n + 2) f ρ := by
  have h : rf (n + 1) (ρ n) (dnF n f) ρ = dnF (n + 2) f ρ := by
    unfold rf dnF
    congr 1
    funext x
    unfold upd
    by_cases h1 : x % 2 = 1 ∧ x < n
    · rw [if_pos h1, if_neg (by omega), if_pos (by omega)]
    · rw [if_neg h1]
      by_cases h2 : x = n + 1
      · subst h2
        rw [if_pos rfl, if_pos (by omega)]
        rfl
      · rw [if_neg h2, if_neg (by omega)]
  rw [← h]
  cases ρ n <;> simp
/-- Both places of one pair exchanged. -/
def sw1 (n : Nat) (f : BFn) : BFn := fun ρ => f fun x => if x = n then ρ (n + 1) else if x = n + 1 then ρ n else ρ x
theorem sw1_swF {n : Nat} (hn : n % 2 = 0) (f : BFn) (ρ : Nat → Bool) : sw1 n (swF n f) ρ = swF (n + 2) f ρ := by
  unfold sw1 swF
  congr 1
  funext x
  by_cases h1 : x < n
  · rw [if_pos h1, if_pos (by omega : x < n + 2)]
    by_cases h2 : x % 2 = 0
    · rw [if_pos h2, if_pos h2]
      dsimp only
      rw [if_neg (by omega), if_neg (by omega)]
    · rw [if_neg h2, if_neg h2]
      dsimp only
      rw [if_neg (by omega), if_neg (by omega)]
  · rw [if_neg h1]
    dsimp only
    by_cases h2 : x = n
    · subst h2
      rw [if_pos rfl, if_pos (by omega), if_pos hn]
    · rw [if_neg h2]
      by_cases h3 : x = n + 1
      · subst h3
        rw [if_pos rfl, if_pos (by omega), if_neg (by omega)]
        rfl
      · rw [if_neg h3, if_neg (by omega)]
theorem sw1_ite (n : Nat) (f : BFn) (ρ : Nat → Bool) :
    (if ρ n then (if ρ (n + 1) then rf (n + 1) true (rf n true f) ρ else rf (n + 1) true (rf n false f) ρ) else (if ρ (n + 1) then rf (n + 1) false (rf n true f) ρ else rf (n + 1) false (rf n false f) ρ)) = sw1 n f ρ := by
  have h : rf (n + 1) (ρ n) (rf n (ρ (n + 1)) f) ρ = sw1 n f ρ := by
    rfl
  rw [← h]
  cases ρ n <;> cases ρ (n + 1) <;> simp
theorem upF_loc {V : Nat} (hV : V % 2 = 0) {n : Nat} (hn : n ≤ V) (he : n % 2 = 0) {f : BFn} (h : Loc V f) : Loc V (upF n f) := fun ρ ρ' hr => h _ _ fun x hx => by
  split
  · exact hr _ (by omega)
  · exact hr _ hx
theorem dnF_loc {V : Nat} {n : Nat} (hn : n ≤ V) {f : BFn} (h : Loc V f) : Loc V (dnF n f) := fun ρ ρ' hr => h _ _ fun x hx => by
  split
  · exact hr _ (by omega)
  · exact hr _ hx
theorem swF_loc {V : Nat} (hV : V % 2 = 0) {n : Nat} (hn : n ≤ V) (he : n % 2 = 0) {f : BFn} (h : Loc V f) : Loc V (swF n f) := fun ρ ρ' hr => h _ _ fun x hx => by
  split
  · split
    · exact hr _ (by omega)
    · exact hr _ (by omega)
  · exact hr _ hx
theorem sw1_loc {V n : Nat} (hn : n + 1 < V) {f : BFn} (h : Loc V f) : Loc V (sw1 n f) := fun ρ ρ' hr => h _ _ fun x hx => by
  split
  · exact hr _ (by omega)
  · split
    · exact hr _ (by omega)
    · exact hr _ hx
theorem rf_loc {V v : Nat} {t : Bool} {f : BFn} (h : Loc V f) : Loc V (rf v t f) := fun ρ ρ' hr => h _ _ fun x hx => by
  unfold upd
  split
  · rfl
  · exact hr x hx
theorem qf_loc {V : Nat} (any : Bool) (S : Nat → Bool) {f : BFn} (h : Loc V f) : Loc V (qf any S f) := fun ρ ρ' hr => by
  have key : ∀ {ρ ρ' : Nat → Bool}, (∀ x, x < V → ρ x = ρ' x) → (∃ σ, (∀ x, S x = false → σ x = ρ x) ∧ f σ = true) → ∃ σ, (∀ x, S x = false → σ x = ρ' x) ∧ f σ = true := by
    rintro ρ ρ' hr ⟨σ, h1, h2⟩
    refine ⟨fun x => if x < V then σ x else ρ' x, fun x hx => ?_, ?_⟩
    · show (if x < V then σ x else ρ' x) = ρ' x
      split
      · rw [h1 x hx, hr x (by assumption)]
      · rfl
    · rw [← h2]
      exact h _ _ fun x hx => by simp [hx]
  have key2 : ∀ {ρ ρ' : Nat → Bool}, (∀ x, x < V → ρ x = ρ' x) → (∀ σ, (∀ x, S x = false → σ x = ρ x) → f σ = true) → ∀ σ, (∀ x, S x = false → σ x = ρ' x) → f σ = true := by
    intro ρ ρ' hr h1 σ h2
    rw [← h1 (fun x => if x < V then σ x else ρ x) fun x hx => ?_]
    · exact h _ _ fun x hx => by simp [hx]
    · show (if x < V then σ x else ρ x) = ρ x
      split
      · rw [h2 x hx, hr x (by assumption)]
      · rfl
  unfold qf
  cases any
  · simp only [Bool.false_eq_true, if_false]
    exact decide_eq_decide.2 ⟨key2 hr, key2 fun x hx => (hr x hx).symm⟩
  · simp only [if_true]
    exact decide_eq_decide.2 ⟨key hr, key fun x hx => (hr x hx).symm⟩

open Classical in
theorem qf_iff (S : Nat → Bool) (φ : BFn) (ρ : Nat → Bool) : qf true S φ ρ = true ↔ ∃ σ, (∀ x, S x = false → σ x = ρ x) ∧ φ σ = true := by
  unfold qf
  rw [if_pos rfl, decide_eq_true_iff]

/-! ### images -/
/-- The variables of the current, of the next states. -/
def evN (V : Nat) : Nat := enc V fun x => decide (x % 2 = 0)
def odN (V : Nat) : Nat := enc V fun x => decide (x % 2 = 1)
theorem evN_bit (V x : Nat) : (evN V).testBit x = (decide (x < V) && decide (x % 2 = 0)) := enc_bit _ _ _
theorem odN_bit (V x : Nat) : (odN V).testBit x = (decide (x < V) && decide (x % 2 = 1)) := enc_bit _ _ _
noncomputable def imF (V : Nat) (f g : BFn) : BFn := dnF V (qf true (evN V).testBit fun ρ => f ρ && g ρ)
noncomputable def prF (V : Nat) (f g : BFn) : BFn := qf true (odN V).testBit fun ρ => f ρ && upF V g ρ
noncomputable def boF (V : Nat) (f g : BFn) : BFn := fun ρ => !prF V f (fun ρ => !g ρ) ρ
def imN (k : Nat) (R : List Nat) (S : Nat) : Nat := enc (2 ^ k) fun w => (List.range (2 ^ k)).any fun v => S.testBit v && (R.getD v 0).testBit w
def prN (k : Nat) (R : List Nat) (S : Nat) : Nat := enc (2 ^ k) fun v => (List.range (2 ^ k)).any fun w => (R.getD v 0).testBit w && S.testBit w
def boN (k : Nat) (R : List Nat) (S : Nat) : Nat := enc (2 ^ k) fun v => (List.range (2 ^ k)).all fun w => !(R.getD v 0).testBit w || S.testBit w
def cvN (k : Nat) (R : List Nat) : List Nat := (List.range (2 ^ k)).map fun w => enc (2 ^ k) fun v => (R.getD v 0).testBit w
theorem upF_set {k S : Nat} (ρ : Nat → Bool) : upF (2 * k) (setF k S 0) ρ = setF k S 1 ρ := by
  unfold upF setF
  congr 1
  refine enc_congr fun i hi => ?_
  dsimp only
  rw [if_pos (by omega), Nat.add_zero]
theorem im_law {k S : Nat} {R : List Nat} (ρ : Nat → Bool) : imF (2 * k) (relF k R) (setF k S 0) ρ = setF k (imN k R S) 0 ρ := by
  have hb : setF k (imN k R S) 0 ρ = (List.range (2 ^ k)).any fun v => S.testBit v && (R.getD v 0).testBit (cod k 0 ρ) := by
    unfold setF imN
    rw [enc_bit, decide_eq_true (cod_lt k 0 ρ), Bool.true_and]
  rw [hb]
  unfold imF dnF
  rw [Bool.eq_iff_iff, qf_iff, List.any_eq_true]
  have h1 : ∀ σ : Nat → Bool, (∀ x, (evN (2 * k)).testBit x = false → σ x = if x % 2 = 1 ∧ x < 2 * k then ρ (x - 1) else ρ x) → cod k 1 σ = cod k 0 ρ := fun σ h => enc_congr fun i hi => by
    rw [h (2 * i + 1) (by rw [evN_bit, decide_eq_false (show ¬ (2 * i + 1) % 2 = 0 by omega), Bool.and_false]), if_pos (by omega)]
    rfl
  constructor
  · rintro ⟨σ, h2, h3⟩
    rw [Bool.and_eq_true] at h3
    refine ⟨cod k 0 σ, List.mem_range.2 (cod_lt k 0 σ), ?_⟩
    rw [Bool.and_eq_true]
    refine ⟨h3.2, ?_⟩
    have := h3.1
    unfold relF at this
    rwa [h1 σ h2] at this
  · rintro ⟨v, hv, h3⟩
    have hv := List.mem_range.1 hv
    rw [Bool.and_eq_true] at h3
    refine ⟨fun x => if x < 2 * k ∧ x % 2 = 0 then v.testBit (x / 2) else if x % 2 = 1 ∧ x < 2 * k then ρ (x - 1) else ρ x, fun x hx => ?_, ?_⟩
    · rw [evN_bit] at hx
      try dsimp only
      rw [if_neg (by simpa using hx)]
    · have e0 : cod k 0 (fun x => if x < 2 * k ∧ x % 2 = 0 then v.testBit (x / 2) else if x % 2 = 1 ∧ x < 2 * k then ρ (x - 1) else ρ x) = v := by
        refine (enc_eq hv).2 fun i hi => ?_
        try dsimp only
        rw [if_pos (by omega), Nat.add_zero, show 2 * i / 2 = i by omega]
      have e1 := h1 (fun x => if x < 2 * k ∧ x % 2 = 0 then v.testBit (x / 2) else if x % 2 = 1 ∧ x < 2 * k then ρ (x - 1) else ρ x) fun x hx => by
        rw [evN_bit] at hx
        try dsimp only
        rw [if_neg (by simpa using hx)]
      unfold relF setF
      rw [e0, e1, Bool.and_eq_true]
      exact ⟨h3.2, h3.1⟩
theorem pr_set {k S : Nat} {R : List Nat} (g : BFn) (hg : ∀ ρ, upF (2 * k) g ρ = S.testBit (cod k 1 ρ)) (ρ : Nat → Bool) : prF (2 * k) (relF k R) g ρ = (List.range (2 ^ k)).any fun w => (R.getD (cod k 0 ρ) 0).testBit w && S.testBit w := by
  unfold prF
  rw [Bool.eq_iff_iff, qf_iff, List.any_eq_true]
  have h1 : ∀ σ : Nat → Bool, (∀ x, (odN (2 * k)).testBit x = false → σ x = ρ x) → cod k 0 σ = cod k 0 ρ := fun σ h => enc_congr fun i hi => h _ (by rw [odN_bit]; simp)
  constructor
  · rintro ⟨σ, h2, h3⟩
    rw [Bool.and_eq_true, hg] at h3
    refine ⟨cod k 1 σ, List.mem_range.2 (cod_lt k 1 σ), ?_⟩
    rw [Bool.and_eq_true]
    have := h3.1
    unfold relF at this
    rw [h1 σ h2] at this
    exact ⟨this, h3.2⟩
  · rintro ⟨w, hw, h3⟩
    have hw := List.mem_range.1 hw
    have hx2 : ∀ x, (odN (2 * k)).testBit x = false → (fun x => if x < 2 * k ∧ x % 2 = 1 then w.testBit (x / 2) else ρ x) x = ρ x := fun x hx => by
      rw [odN_bit] at hx
      try dsimp only
      rw [if_neg (by simpa using hx)]
    refine ⟨fun x => if x < 2 * k ∧ x % 2 = 1 then w.testBit (x / 2) else ρ x, hx2, ?_⟩
    have e0 := h1 (fun x => if x < 2 * k ∧ x % 2 = 1 then w.testBit (x / 2) else ρ x) hx2
    have e1 : cod k 1 (fun x => if x < 2 * k ∧ x % 2 = 1 then w.testBit (x / 2) else ρ x) = w := by
      refine (enc_eq hw).2 fun i hi => ?_
      try dsimp only
      rw [if_pos (by omega), show (2 * i + 1) / 2 = i by omega]
    rw [hg, e1]
    unfold relF
    rw [e0, e1]
    exact h3
theorem pr_law {k S : Nat} {R : List Nat} (ρ : Nat → Bool) : prF (2 * k) (relF k R) (setF k S 0) ρ = setF k (prN k R S) 0 ρ := by
  rw [pr_set (S := S) _ fun ρ => upF_set ρ]
  unfold setF prN
  rw [enc_bit, decide_eq_true (cod_lt k 0 ρ), Bool.true_and]
theorem bo_law {k S : Nat} {R : List Nat} (ρ : Nat → Bool) : boF (2 * k) (relF k R) (setF k S 0) ρ = setF k (boN k R S) 0 ρ := by
  unfold boF
  rw [pr_set (S := enc (2 ^ k) fun w => !S.testBit w) (fun ρ => !setF k S 0 ρ) fun ρ => by
    have := upF_set (k := k) (S := S) ρ
    unfold upF at this ⊢
    dsimp only
    rw [this, enc_bit, decide_eq_true (cod_lt k 1 ρ), Bool.true_and]
    rfl]
  unfold setF boN
  rw [enc_bit, decide_eq_true (cod_lt k 0 ρ), Bool.true_and, Bool.eq_iff_iff, Bool.not_eq_true', List.any_eq_false, List.all_eq_true]
  generalize R.getD (cod k 0 ρ) 0 = q
  constructor
  · intro h w hw
    have := h w hw
    rw [enc_bit, decide_eq_true (List.mem_range.1 hw)] at this
    cases h1 : q.testBit w <;> cases h2 : S.testBit w <;> simp [h1, h2] at this ⊢
  · intro h w hw
    have := h w hw
    rw [enc_bit, decide_eq_true (List.mem_range.1 hw)]
    cases h1 : q.testBit w <;> cases h2 : S.testBit w <;> simp [h1, h2] at this ⊢
theorem cv_law {k : Nat} {R : List Nat} (ρ : Nat → Bool) : swF (2 * k) (relF k R) ρ = relF k (cvN k R) ρ := by
  unfold swF relF cvN
  have e0 : cod k 0 (fun x => if x < 2 * k then (if x % 2 = 0 then ρ (x + 1) else ρ (x - 1)) else ρ x) = cod k 1 ρ := enc_congr fun i hi => by
    try dsimp only
    rw [if_pos (by omega), if_pos (by omega)]
  have e1 : cod k 1 (fun x => if x < 2 * k then (if x % 2 = 0 then ρ (x + 1) else ρ (x - 1)) else ρ x) = cod k 0 ρ := enc_congr fun i hi => by
    try dsimp only
    rw [if_pos (by omega), if_neg (by omega)]
    rfl
  have e2 : ((List.range (2 ^ k)).map fun w => enc (2 ^ k) fun v => (R.getD v 0).testBit w).getD (cod k 0 ρ) 0 = enc (2 ^ k) fun v => (R.getD v 0).testBit (cod k 0 ρ) := by
    rw [List.getD_eq_getElem?_getD, List.getElem?_map, List.getElem?_range (cod_lt k 0 ρ)]
    rfl
  rw [e0, e1, e2, enc_bit, decide_eq_true (cod_lt k 1 ρ), Bool.true_and]
end Go.Proofs.YtgdmcidcappkpaaDoor.Dd
