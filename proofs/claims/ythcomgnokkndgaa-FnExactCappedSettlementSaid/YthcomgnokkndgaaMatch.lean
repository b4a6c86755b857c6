/- Greatest settlements in plain Lean: ballots, and ends that have room for some; what a search for room says where it fails and where it succeeds. -/
import Derived.Test.YthcomgnokkndgaaKit
namespace Go.Proofs.Ythcomgnokkndgaa

/-- How many numbers below n have p. -/
def ct (n : Nat) (p : Nat → Bool) : Nat := (List.range n).countP p
theorem ct_succ (n : Nat) (p : Nat → Bool) : ct (n + 1) p = ct n p + if p n then 1 else 0 := by
  simp [ct, List.range_succ, List.countP_append, List.countP_cons]
theorem ct_zero (p : Nat → Bool) : ct 0 p = 0 := rfl
theorem ct_le {p q : Nat → Bool} : ∀ {n : Nat}, (∀ i, i < n → p i = true → q i = true) → ct n p ≤ ct n q
  | 0, _ => Nat.le_refl _
  | n + 1, h => by
    have ih := ct_le (n := n) fun i hi => h i (by omega)
    rw [ct_succ, ct_succ]
    have := h n (by omega)
    cases hp : p n
    · simp; omega
    · simp [this hp]; omega
theorem ct_congr {p q : Nat → Bool} : ∀ {n : Nat}, (∀ i, i < n → p i = q i) → ct n p = ct n q
  | 0, _ => rfl
  | n + 1, h => by rw [ct_succ, ct_succ, ct_congr (n := n) fun i hi => h i (by omega), h n (by omega)]
theorem ct_split (p q : Nat → Bool) : ∀ n, ct n p = ct n (fun i => p i && q i) + ct n (fun i => p i && !q i)
  | 0 => rfl
  | n + 1 => by
    rw [ct_succ, ct_succ, ct_succ, ct_split p q n]
    cases p n <;> cases q n <;> simp <;> omega
theorem ct_lt_or (n : Nat) (p : Nat → Bool) : ct n p ≤ n := by
  have := List.countP_le_length (p := p) (l := List.range n)
  simpa [ct] using this
theorem ct_none {p : Nat → Bool} : ∀ {n : Nat}, (∀ i, i < n → p i = false) → ct n p = 0
  | 0, _ => rfl
  | n + 1, h => by rw [ct_succ, ct_none fun i hi => h i (by omega), h n (by omega)]; rfl
theorem ct_pos {p : Nat → Bool} : ∀ {n : Nat}, 0 < ct n p → ∃ i, i < n ∧ p i = true
  | 0, h => by simp [ct] at h
  | n + 1, h => by
    rw [ct_succ] at h
    cases hp : p n
    · rw [hp] at h
      obtain ⟨i, hi, h2⟩ := ct_pos (n := n) (by simpa using h)
      exact ⟨i, by omega, h2⟩
    · exact ⟨n, by omega, hp⟩
/-- One place more, one place less. -/
theorem ct_upd {p q : Nat → Bool} {i : Nat} : ∀ {n : Nat}, i < n → (∀ j, j < n → j ≠ i → p j = q j) → (ct n q + if p i then 1 else 0) = ct n p + if q i then 1 else 0
  | 0, h, _ => by omega
  | n + 1, h, hj => by
    rw [ct_succ, ct_succ]
    by_cases e : i = n
    · subst e
      rw [ct_congr (p := p) (q := q) fun j hj' => hj j (by omega) (by omega)]
      omega
    · have ih := ct_upd (n := n) (i := i) (by omega) fun j hj' => hj j (by omega)
      rw [hj n (by omega) (fun e' => e e'.symm)]
      omega

def cnt (n : Nat) (f : Nat → Int) (e : Int) : Nat := ct n fun i => decide (f i = e)
def sz (n : Nat) (f : Nat → Int) : Nat := ct n fun i => decide (f i ≠ -1)
def upd (f : Nat → Int) (i : Nat) (v : Int) : Nat → Int := fun j => if j = i then v else f j
theorem upd_same (f : Nat → Int) (i : Nat) (v : Int) : upd f i v i = v := by simp [upd]
theorem upd_other {f : Nat → Int} {i j : Nat} (v : Int) (h : j ≠ i) : upd f i v j = f j := by simp [upd, h]
theorem cnt_upd {n i : Nat} (f : Nat → Int) (v e : Int) (hi : i < n) : (cnt n (upd f i v) e + if f i = e then 1 else 0) = cnt n f e + if v = e then 1 else 0 := by
  have := ct_upd (p := fun j => decide (f j = e)) (q := fun j => decide (upd f i v j = e)) hi fun j _ hj => by rw [upd_other v hj]
  rw [upd_same] at this
  simpa [cnt] using this

structure Feas (n : Nat) (E : Nat → List Int) (cap : Int → Int) (f : Nat → Int) : Prop where
  ok : ∀ i, i < n → f i = -1 ∨ f i ∈ E i
  room : ∀ e, 0 ≤ e → (cnt n f e : Int) ≤ cap e
/-- The ends of n ballots are numbers below m. -/
def EOk (n m : Nat) (E : Nat → List Int) : Prop := ∀ i, i < n → ∀ e, e ∈ E i → 0 ≤ e ∧ e < m
structure Closed (n : Nat) (E : Nat → List Int) (cap : Int → Int) (f : Nat → Int) (R : Int → Bool) : Prop where
  full : ∀ e, 0 ≤ e → R e = true → cap e ≤ cnt n f e
  clo : ∀ e, 0 ≤ e → R e = true → ∀ j, j < n → f j = e → ∀ e', e' ∈ E j → R e' = true

theorem ct_range (n : Nat) (f : Nat → Int) (R : Int → Bool) (m : Nat) :
    ct n (fun i => R (f i) && decide (0 ≤ f i ∧ f i < ((m + 1 : Nat) : Int))) = ct n (fun i => R (f i) && decide (0 ≤ f i ∧ f i < (m : Int))) + if R m then cnt n f m else 0 := by
  induction n with
  | zero => simp [ct, cnt]
  | succ n ih =>
    have h3 : cnt (n + 1) f m = cnt n f m + if f n = (m : Int) then 1 else 0 := by unfold cnt; rw [ct_succ]; simp
    rw [ct_succ, ct_succ, ih, h3]
    by_cases e : f n = (m : Int)
    · rw [e]
      have a : (0 ≤ (m : Int) ∧ (m : Int) < ((m + 1 : Nat) : Int)) := by omega
      have b : ¬ (0 ≤ (m : Int) ∧ (m : Int) < (m : Int)) := by omega
      simp only [decide_eq_true a, decide_eq_false b]
      cases R m <;> simp; omega
    · have : decide (0 ≤ f n ∧ f n < ((m + 1 : Nat) : Int)) = decide (0 ≤ f n ∧ f n < (m : Int)) := by
        rw [decide_eq_decide]; omega
      rw [this, if_neg e]
      split <;> omega
theorem ct_range_le {n m : Nat} {f g : Nat → Int} {R : Int → Bool} (h : ∀ e : Int, 0 ≤ e → e < m → R e = true → cnt n g e ≤ cnt n f e) :
    ct n (fun i => R (g i) && decide (0 ≤ g i ∧ g i < (m : Int))) ≤ ct n (fun i => R (f i) && decide (0 ≤ f i ∧ f i < (m : Int))) := by
  induction m with
  | zero =>
    rw [ct_none fun i _ => by rw [decide_eq_false (by omega), Bool.and_false]]
    exact Nat.zero_le _
  | succ m ih =>
    rw [ct_range, ct_range]
    have h1 := ih fun e h0 h1 h2 => h e h0 (by omega) h2
    cases hR : R m
    · simpa using h1
    · have := h m (by omega) (by omega) hR
      simp only [if_true]; omega

/-- What a certificate says. -/
theorem cert {n m : Nat} {E : Nat → List Int} {cap : Int → Int} {f g : Nat → Int} {R : Int → Bool} (hE : EOk n m E) (hg : Feas n E cap g) (hR : Closed n E cap f R) (hu : ∀ i, i < n → f i = -1 → ∀ e, e ∈ E i → R e = true) : sz n g ≤ sz n f := by
  have hc := ct_range_le (n := n) (m := m) (f := f) (g := g) (R := R) fun e h0 _ h2 => by
    have a := hg.room e h0
    have b := hR.full e h0 h2
    omega
  unfold sz
  rw [ct_split (fun i => decide (g i ≠ -1)) (fun i => (E i).all R), ct_split (fun i => decide (f i ≠ -1)) (fun i => (E i).all R)]
  have h1 : ct n (fun i => decide (g i ≠ -1) && (E i).all R) ≤ ct n (fun i => R (g i) && decide (0 ≤ g i ∧ g i < (m : Int))) := ct_le fun i hi h => by
    simp only [Bool.and_eq_true, decide_eq_true_eq, List.all_eq_true] at h ⊢
    rcases hg.ok i hi with e | e
    · exact absurd e h.1
    · exact ⟨h.2 _ e, hE i hi _ e⟩
  have h2 : ct n (fun i => R (f i) && decide (0 ≤ f i ∧ f i < (m : Int))) ≤ ct n (fun i => decide (f i ≠ -1) && (E i).all R) := ct_le fun i hi h => by
    simp only [Bool.and_eq_true, decide_eq_true_eq, List.all_eq_true] at h ⊢
    exact ⟨by omega, fun e he => hR.clo _ h.2.1 h.1 i hi rfl e he⟩
  have h3 : ct n (fun i => decide (g i ≠ -1) && !(E i).all R) ≤ ct n (fun i => decide (f i ≠ -1) && !(E i).all R) := ct_le fun i hi h => by
    rw [Bool.and_eq_true, decide_eq_true_eq, Bool.not_eq_true'] at h ⊢
    refine ⟨fun e => ?_, h.2⟩
    have : (E i).all R = true := List.all_eq_true.2 (hu i hi e)
    rw [this] at h; cases h.2
  omega

def ins (S : Int → Bool) (e : Int) : Int → Bool := fun x => S x || decide (x = e)
def uni (S T : Int → Bool) : Int → Bool := fun x => S x || T x
def noS : Int → Bool := fun _ => false
theorem uni_cases {S T : Int → Bool} {x : Int} (h : uni S T x = true) : S x = true ∨ T x = true := by simpa [uni] using h
theorem ins_same (S : Int → Bool) (e : Int) : ins S e e = true := by simp [ins]
theorem ins_mono {S : Int → Bool} {e x : Int} (h : S x = true) : ins S e x = true := by simp [ins, h]
theorem ins_cases {S : Int → Bool} {e x : Int} (h : ins S e x = true) : S x = true ∨ x = e := by simpa [ins] using h

/-- The search from S on has come to S1: the ends of A have been tried, each of B lies open. -/
structure Part (n : Nat) (E : Nat → List Int) (cap : Int → Int) (f : Nat → Int) (S : Int → Bool) (A : List Int) (S1 : Int → Bool) : Prop where
  mono : ∀ e, S e = true → S1 e = true
  all : ∀ e, e ∈ A → S1 e = true
  full : ∀ e, 0 ≤ e → S1 e = true → S e = false → cap e ≤ cnt n f e
  clo : ∀ e, 0 ≤ e → S1 e = true → S e = false → ∀ j, j < n → f j = e → ∀ e', e' ∈ E j → S1 e' = true
/-- .. inside one end x, of whose ballots those of B have been tried. -/
structure Inn (n : Nat) (E : Nat → List Int) (cap : Int → Int) (f : Nat → Int) (S : Int → Bool) (A : List Int) (x : Int) (B : Nat → Prop) (S1 : Int → Bool) : Prop where
  mono : ∀ e, S e = true → S1 e = true
  all : ∀ e, e ∈ A → S1 e = true
  this : S1 x = true
  new : S x = false
  full : ∀ e, 0 ≤ e → S1 e = true → S e = false → cap e ≤ cnt n f e
  clo : ∀ e, 0 ≤ e → S1 e = true → S e = false → e ≠ x → ∀ j, j < n → f j = e → ∀ e', e' ∈ E j → S1 e' = true
  tried : ∀ j, B j → ∀ e', e' ∈ E j → S1 e' = true
abbrev Fail (n : Nat) (E : Nat → List Int) (cap : Int → Int) (f : Nat → Int) (S : Int → Bool) (i : Nat) (S1 : Int → Bool) : Prop := Part n E cap f S (E i) S1
section
variable {n : Nat} {E : Nat → List Int} {cap : Int → Int} {f : Nat → Int} {S S1 S2 : Int → Bool} {A : List Int} {x : Int}
theorem Part.start : Part n E cap f S [] S := ⟨fun _ h => h, fun _ h => (by cases h), fun e _ h1 h2 => (by rw [h1] at h2; cases h2), fun e _ h1 h2 => (by rw [h1] at h2; cases h2)⟩
theorem Part.skip (h : Part n E cap f S A S1) (hx : S1 x = true) : Part n E cap f S (A ++ [x]) S1 :=
  ⟨h.mono, fun e he => by
    rcases List.mem_append.1 he with a | a
    · exact h.all e a
    · rw [List.mem_singleton.1 a]; exact hx, h.full, h.clo⟩
theorem Part.inn (h : Part n E cap f S A S1) (hx : S1 x = false) (hfull : cap x ≤ cnt n f x) : Inn n E cap f S A x (fun _ => False) (ins S1 x) :=
  ⟨fun e he => ins_mono (h.mono e he), fun e he => ins_mono (h.all e he), ins_same _ _, by
    cases hs : S x
    · rfl
    · rw [h.mono x hs] at hx; (cases hx), fun e h0 h1 h2 => by
    rcases ins_cases h1 with a | rfl
    · exact h.full e h0 a h2
    · exact hfull, fun e h0 h1 h2 h3 j hj h4 e' h5 => by
    rcases ins_cases h1 with a | rfl
    · exact ins_mono (h.clo e h0 a h2 j hj h4 e' h5)
    · exact absurd rfl h3, fun j hj => hj.elim⟩
theorem Inn.step {B : Nat → Prop} {o : Nat} (h : Inn n E cap f S A x B S1) (k : Fail n E cap f S1 o S2) : Inn n E cap f S A x (fun j => B j ∨ j = o) S2 :=
  ⟨fun e he => k.mono e (h.mono e he), fun e he => k.mono e (h.all e he), k.mono x h.this, h.new, fun e h0 h1 h2 => by
    cases hs : S1 e
    · exact k.full e h0 h1 hs
    · exact h.full e h0 hs h2, fun e h0 h1 h2 h3 j hj h4 e' h5 => by
    cases hs : S1 e
    · exact k.clo e h0 h1 hs j hj h4 e' h5
    · exact k.mono e' (h.clo e h0 hs h2 h3 j hj h4 e' h5), fun j hj e' h5 => by
    rcases hj with hj | rfl
    · exact k.mono e' (h.tried j hj e' h5)
    · exact k.all e' h5⟩
theorem Inn.mono_set {B B' : Nat → Prop} (h : Inn n E cap f S A x B S1) (hB : ∀ j, B' j → B j ∨ ∀ e', e' ∈ E j → S1 e' = true) : Inn n E cap f S A x B' S1 :=
  ⟨h.mono, h.all, h.this, h.new, h.full, h.clo, fun j hj => by
    rcases hB j hj with a | a
    · exact h.tried j a
    · exact a⟩
theorem Inn.done {B : Nat → Prop} (h : Inn n E cap f S A x B S1) (hB : ∀ j, j < n → f j = x → B j) : Part n E cap f S (A ++ [x]) S1 :=
  ⟨h.mono, fun e he => by
    rcases List.mem_append.1 he with a | a
    · exact h.all e a
    · rw [List.mem_singleton.1 a]; exact h.this, h.full, fun e h0 h1 h2 j hj h4 e' h5 => by
    by_cases hx : e = x
    · exact h.tried j (hB j hj (h4.trans hx)) e' h5
    · exact h.clo e h0 h1 h2 hx j hj h4 e' h5⟩

/-- Room has been found for ballot i, at no end of S. -/
structure Aug (n : Nat) (E : Nat → List Int) (cap : Int → Int) (f : Nat → Int) (S : Int → Bool) (i : Nat) (f' : Nat → Int) : Prop where
  new : f' i ∈ E i
  out : S (f' i) = false
  ok : ∀ j, j < n → j ≠ i → f' j = f j ∨ (f j ≠ -1 ∧ f' j ∈ E j)
  keep : ∀ j, j < n → j ≠ i → S (f j) = true → f' j = f j
  keep' : ∀ j, j < n → j ≠ i → S (f' j) = true → f' j = f j
  cnts : ∃ ek, 0 ≤ ek ∧ S ek = false ∧ (cnt n f ek : Int) < cap ek ∧ ∀ e, (cnt n f' e + if f i = e then 1 else 0) = cnt n f e + if e = ek then 1 else 0
  clo : ∀ R, Closed n E cap f R → (¬ ∀ e, e ∈ E i → R e = true) ∧ ∀ j, j < n → (0 ≤ f j → R (f j) = true → f' j = f j) ∧ (0 ≤ f' j → R (f' j) = true → f' j = f j)

theorem Aug.base {i : Nat} (hi : i < n) (hx : x ∈ E i) (h0 : 0 ≤ x) (hS : S x = false) (hc : (cnt n f x : Int) < cap x) : Aug n E cap f S i (upd f i x) where
  new := by rw [upd_same]; exact hx
  out := by rw [upd_same]; exact hS
  ok := fun j _ h => .inl (upd_other _ h)
  keep := fun j _ h _ => upd_other _ h
  keep' := fun j _ h _ => upd_other _ h
  cnts := ⟨x, h0, hS, hc, fun e => by
    rw [cnt_upd f x e hi]
    by_cases he : x = e
    · rw [if_pos he, if_pos he.symm]
    · rw [if_neg he, if_neg fun h => he h.symm]⟩
  clo := fun R hR => by
    have hx' : R x = false := by
      cases hr : R x
      · rfl
      · have := hR.full x h0 hr; omega
    have hnot : ¬ ∀ e, e ∈ E i → R e = true := fun h => by rw [h x hx] at hx'; cases hx'
    refine ⟨hnot, fun j hj => ?_⟩
    by_cases hji : j = i
    · subst hji
      rw [upd_same]
      exact ⟨fun h1 h2 => absurd (hR.clo _ h1 h2 j hj rfl) hnot, fun _ h2 => by rw [hx'] at h2; cases h2⟩
    · rw [upd_other _ hji]; exact ⟨fun _ _ => rfl, fun _ _ => rfl⟩

theorem Aug.step {i o : Nat} {f1 : Nat → Int} (h : Aug n E cap f S1 o f1) (hi : i < n) (ho : o < n) (hx : x ∈ E i) (h0 : 0 ≤ x) (hm : ∀ e, S e = true → S1 e = true) (hS : S x = false) (hfo : f o = x) (hne : o ≠ i) (hfi : f i = -1 ∨ S (f i) = true) : Aug n E cap f S i (upd f1 i x) where
  new := by rw [upd_same]; exact hx
  out := by rw [upd_same]; exact hS
  ok := fun j hj hji => by
    rw [upd_other _ hji]
    by_cases hjo : j = o
    · subst hjo; exact .inr ⟨by omega, h.new⟩
    · exact h.ok j hj hjo
  keep := fun j hj hji hs => by
    rw [upd_other _ hji]
    by_cases hjo : j = o
    · subst hjo; rw [hfo, hS] at hs; cases hs
    · exact h.keep j hj hjo (hm _ hs)
  keep' := fun j hj hji hs => by
    rw [upd_other _ hji] at hs ⊢
    by_cases hjo : j = o
    · subst hjo; have := hm _ hs; rw [h.out] at this; cases this
    · exact h.keep' j hj hjo (hm _ hs)
  cnts := by
    obtain ⟨ek, a, b, c, d⟩ := h.cnts
    refine ⟨ek, a, ?_, c, fun e => ?_⟩
    · cases hs : S ek
      · rfl
      · rw [hm _ hs] at b; cases b
    · have e1 := d e
      have e2 := cnt_upd f1 x e hi
      have e3 : f1 i = f i := by
        rcases hfi with q | q
        · rcases h.ok i hi hne.symm with z | z
          · exact z
          · exact absurd q z.1
        · exact h.keep i hi hne.symm (hm _ q)
      rw [e3] at e2
      rw [hfo] at e1
      omega
  clo := fun R hR => by
    obtain ⟨a, b⟩ := h.clo R hR
    have hx' : R x = false := by
      cases hr : R x
      · rfl
      · exact absurd (hR.clo x h0 hr o ho hfo) a
    have hnot : ¬ ∀ e, e ∈ E i → R e = true := fun h => by rw [h x hx] at hx'; cases hx'
    refine ⟨hnot, fun j hj => ?_⟩
    by_cases hji : j = i
    · subst hji
      rw [upd_same]
      exact ⟨fun h1 h2 => absurd (hR.clo _ h1 h2 j hj rfl) hnot, fun _ h2 => by rw [hx'] at h2; cases h2⟩
    · rw [upd_other _ hji]; exact b j hj

/-- The first i ballots have been tried. -/
structure Run (n : Nat) (E : Nat → List Int) (cap : Int → Int) (f : Nat → Int) (i : Nat) (R : Int → Bool) : Prop where
  feas : Feas n E cap f
  unp : ∀ j, j < n → j < i → f j = -1 → ∀ e, e ∈ E j → R e = true
  clo : Closed n E cap f R
theorem Run.skip {i : Nat} {R : Int → Bool} (h : Run n E cap f i R) (hs : f i ≠ -1 ∨ E i = []) : Run n E cap f (i + 1) R :=
  ⟨h.feas, fun j hj hji hfj e he => by
    by_cases hj' : j = i
    · subst hj'
      rcases hs with a | a
      · exact absurd hfj a
      · rw [a] at he; cases he
    · exact h.unp j hj (by omega) hfj e he, h.clo⟩
theorem Run.fail {i : Nat} {R : Int → Bool} (h : Run n E cap f i R) (k : Fail n E cap f noS i S1) : Run n E cap f (i + 1) (uni R S1) :=
  ⟨h.feas, fun j hj hji hfj e he => by
    by_cases hj' : j = i
    · subst hj'; simp [uni, k.all e he]
    · simp [uni, h.unp j hj (by omega) hfj e he], ⟨fun e h0 h1 => by
      rcases uni_cases h1 with a | a
      · exact h.clo.full e h0 a
      · exact k.full e h0 a rfl, fun e h0 h1 j hj h4 e' h5 => by
      rcases uni_cases h1 with a | a
      · simp [uni, h.clo.clo e h0 a j hj h4 e' h5]
      · simp [uni, k.clo e h0 a rfl j hj h4 e' h5]⟩⟩
theorem Run.aug {i m : Nat} {R : Int → Bool} {f' : Nat → Int} (hE : EOk n m E) (h : Run n E cap f i R) (hi : i < n) (hfi : f i = -1) (k : Aug n E cap f noS i f') : Run n E cap f' (i + 1) R := by
  obtain ⟨-, b⟩ := k.clo R h.clo
  obtain ⟨ek, a1, -, a3, a4⟩ := k.cnts
  have hcn : ∀ e, 0 ≤ e → cnt n f' e = cnt n f e + if e = ek then 1 else 0 := fun e he => by
    have := a4 e
    rw [if_neg (by omega)] at this
    exact this
  refine ⟨⟨fun j hj => ?_, fun e he => ?_⟩, fun j hj hji hfj e he => ?_, ⟨fun e h0 h1 => ?_, fun e h0 h1 j hj h4 e' h5 => ?_⟩⟩
  · by_cases hji : j = i
    · subst hji; exact .inr k.new
    · rcases k.ok j hj hji with z | z
      · rw [z]; exact h.feas.ok j hj
      · exact .inr z.2
  · rw [hcn e he]
    by_cases hk : e = ek
    · subst hk; rw [if_pos rfl]; omega
    · rw [if_neg hk]; exact h.feas.room e he
  · by_cases hj' : j = i
    · subst hj'
      have := (hE j hj _ k.new).1
      omega
    · have hf : f j = -1 := by
        rcases k.ok j hj hj' with z | z
        · rw [← z]; exact hfj
        · have := (hE j hj _ z.2).1
          omega
      exact h.unp j hj (by omega) hf e he
  · have := h.clo.full e h0 h1
    have := hcn e h0
    omega
  · have e1 := (b j hj).2 (by omega) (by rw [h4]; exact h1)
    exact h.clo.clo e h0 h1 j hj (by rw [← e1, h4]) e' h5
theorem Aug.sz {i m : Nat} {f' : Nat → Int} (hE : EOk n m E) (hi : i < n) (hfi : f i = -1) (k : Aug n E cap f S i f') : sz n f' = sz n f + 1 := by
  have hne : f' i ≠ -1 := by have := (hE i hi _ k.new).1; omega
  have := ct_upd (p := fun j => decide (f j ≠ -1)) (q := fun j => decide (f' j ≠ -1)) hi fun j hj hji => by
    rw [decide_eq_decide]
    rcases k.ok j hj hji with z | z
    · rw [z]
    · have := (hE j hj _ z.2).1
      constructor
      · intro _; omega
      · intro _; exact z.1
  simp [hfi, hne] at this
  unfold Go.Proofs.Ythcomgnokkndgaa.sz
  simpa using this
def IsMax (n : Nat) (E : Nat → List Int) (cap : Int → Int) (v : Nat) : Prop := (∃ f, Feas n E cap f ∧ sz n f = v) ∧ ∀ g, Feas n E cap g → sz n g ≤ v
theorem Run.max {m : Nat} {R : Int → Bool} (hE : EOk n m E) (h : Run n E cap f n R) : IsMax n E cap (sz n f) :=
  ⟨⟨f, h.feas, rfl⟩, fun _ hg => cert hE hg h.clo fun i hi => h.unp i hi hi⟩
theorem IsMax.uniq {v u : Nat} (h : IsMax n E cap v) (k : IsMax n E cap u) : v = u := by
  obtain ⟨⟨f, hf, rfl⟩, h2⟩ := h
  obtain ⟨⟨g, hg, rfl⟩, k2⟩ := k
  exact Nat.le_antisymm (k2 f hf) (h2 g hg)
end
end Go.Proofs.Ythcomgnokkndgaa
