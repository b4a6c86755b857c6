/- Ways through a list of voices to one who speaks: costs, least costs, the path by the first good step. Plain. -/
import Derived.Test.YthcomgnokkndgaaPath
namespace Go.Proofs.Ythcomgnokkndgaa
open Go.RowKit

/-- A way of m steps with cost x from a to one who speaks, without the barred. -/
def Wk (L : List VD) (c : Nat → Nat) (bar : List Int) : Nat → Nat → Int → Prop
  | 0, x, a => a ∉ bar ∧ (At L a).1 = true ∧ x = 0
  | m + 1, x, a => a ∉ bar ∧ (At L a).1 = false ∧ ∃ k, ∃ h : k < (At L a).2.length, c k ≤ x ∧ Wk L c bar m (x - c k) ((At L a).2[k])

section
variable {L : List VD} {c : Nat → Nat} {bar : List Int}

theorem Wk.notin {m x : Nat} {a : Int} (h : Wk L c bar m x a) : a ∉ bar := by
  cases m with
  | zero => exact h.1
  | succ m => exact h.1
theorem Wk.mono {bar' : List Int} (hb : ∀ a, a ∈ bar' → a ∈ bar) : ∀ (m x : Nat) (a : Int), Wk L c bar m x a → Wk L c bar' m x a := by
  intro m
  induction m with
  | zero => intro x a h; exact ⟨fun e => h.1 (hb _ e), h.2⟩
  | succ m ih =>
    intro x a h
    obtain ⟨h1, h2, k, hk, h3, h4⟩ := h
    exact ⟨fun e => h1 (hb _ e), h2, k, hk, h3, ih _ _ h4⟩
theorem Wk.avoid {a : Int} : ∀ (m y : Nat) (t : Int), Wk L c bar m y t → (∀ m' y', y' ≤ y → ¬ Wk L c bar m' y' a) → Wk L c (a :: bar) m y t := by
  intro m
  induction m with
  | zero =>
    intro y t h hn
    refine ⟨fun e => ?_, h.2⟩
    rcases List.mem_cons.1 e with e | e
    · subst e; exact hn 0 y (Nat.le_refl _) h
    · exact h.1 e
  | succ m ih =>
    intro y t h hn
    have h' := h
    obtain ⟨h1, h2, k, hk, h3, h4⟩ := h
    refine ⟨fun e => ?_, h2, k, hk, h3, ih _ _ h4 fun m' y' hy => hn m' y' (by omega)⟩
    rcases List.mem_cons.1 e with e | e
    · subst e; exact hn (m + 1) y (Nat.le_refl _) h'
    · exact h1 e

/-- How many members are not barred. -/
def avail (n : Nat) (bar : List Int) : Nat := (List.range n).countP fun i : Nat => decide ((i : Int) ∉ bar)
theorem countP_lt {l : List Nat} {p q : Nat → Bool} (h : ∀ i, q i = true → p i = true) (a : Nat) (ha : a ∈ l) (hp : p a = true) (hq : q a = false) : l.countP q + 1 ≤ l.countP p := by
  induction l with
  | nil => cases ha
  | cons b l ih =>
    have hm : l.countP q ≤ l.countP p := List.countP_mono_left fun i _ => h i
    rw [List.countP_cons, List.countP_cons]
    rcases List.mem_cons.1 ha with e | e
    · subst e; rw [hp, hq]; simp; omega
    · have := ih e
      cases hqb : q b
      · simp; split <;> omega
      · rw [h b hqb]; simp; omega
theorem avail_cons {n : Nat} {a : Int} (h0 : 0 ≤ a) (h1 : a < n) (hn : a ∉ bar) : avail n (a :: bar) + 1 ≤ avail n bar := by
  have e : (a.toNat : Int) = a := by omega
  refine countP_lt (fun i hi => ?_) a.toNat (List.mem_range.2 (by omega)) ?_ ?_
  · simp only [decide_eq_true_eq, List.mem_cons, not_or] at hi ⊢; exact hi.2
  · simp only [decide_eq_true_eq, e]; exact hn
  · simp [e]
theorem avail_le (n : Nat) (bar : List Int) : avail n bar ≤ n := by
  have := List.countP_le_length (p := fun i : Nat => decide ((i : Int) ∉ bar)) (l := List.range n)
  simpa [avail] using this

theorem OkV.range (hok : OkV L) {a : Int} {k : Nat} (hk : k < (At L a).2.length) : 0 ≤ (At L a).2[k] ∧ (At L a).2[k] < L.length := by
  by_cases h : a.toNat < L.length
  · have e := At_eq L a h
    have hk' : k < (L[a.toNat]).2.length := by rw [← e]; exact hk
    have := ((hok.1 a.toNat h).1 k hk').1
    have e2 : (At L a).2[k] = (L[a.toNat]).2[k] := by congr 1; rw [e]
    rw [e2]; omega
  · have e : At L a = (false, []) := by simp [At]; rw [List.getElem?_eq_none (by omega)]; rfl
    rw [e] at hk; simp at hk
theorem OkV.few (hok : OkV L) (a : Int) : (At L a).2.length ≤ 4 := by
  by_cases h : a.toNat < L.length
  · rw [At_eq L a h]; exact (hok.1 a.toNat h).2
  · have e : At L a = (false, []) := by simp [At]; rw [List.getElem?_eq_none (by omega)]; rfl
    rw [e]; simp

theorem least_of {p : Nat → Prop} (h : ∃ x, p x) : ∃ x, p x ∧ ∀ y, y < x → ¬ p y := by
  obtain ⟨x, hx⟩ := h
  induction x using Nat.strongRecOn with
  | _ x ih =>
    by_cases h : ∃ y, y < x ∧ p y
    · obtain ⟨y, hy, hp⟩ := h; exact ih y hy hp
    · exact ⟨x, hx, fun y hy hp => h ⟨y, hy, hp⟩⟩

theorem Wk.short (hok : OkV L) (hc : ∀ k, 1 ≤ c k) : ∀ (N : Nat) (bar : List Int) (a : Int), 0 ≤ a → a < L.length → avail L.length bar ≤ N → ∀ x m, Wk L c bar m x a → ∃ m' x', m' + 1 ≤ N ∧ x' ≤ x ∧ Wk L c bar m' x' a := by
  intro N
  induction N with
  | zero =>
    intro bar a h0 h1 hN x m hw
    have := avail_cons (n := L.length) h0 h1 hw.notin
    omega
  | succ N ih =>
    intro bar a h0 h1 hN x m hw
    obtain ⟨x0, ⟨m0, hw0⟩, hmin⟩ := least_of (p := fun x => ∃ m, Wk L c bar m x a) ⟨x, m, hw⟩
    have hx0 : x0 ≤ x := by
      rcases Nat.lt_or_ge x x0 with h | h
      · exact absurd ⟨m, hw⟩ (hmin x h)
      · exact h
    cases m0 with
    | zero => exact ⟨0, x0, by omega, hx0, hw0⟩
    | succ j =>
      obtain ⟨h1', h2', k, hk, h3, h4⟩ := hw0
      have hck := hc k
      have av := Wk.avoid (a := a) j _ _ h4 fun m' y' hy hh => hmin y' (by omega) ⟨m', hh⟩
      have hr := hok.range hk
      have hav := avail_cons (n := L.length) h0 h1 h1'
      obtain ⟨m', x', e1, e2, e3⟩ := ih (a :: bar) _ hr.1 hr.2 (by omega) _ _ av
      refine ⟨m' + 1, c k + x', by omega, by omega, h1', h2', k, hk, by omega, ?_⟩
      rw [Nat.add_sub_cancel_left]
      exact e3.mono (fun b hb => List.mem_cons_of_mem _ hb)

theorem Wk.le_four (hok : OkV L) (hc : ∀ k, k < 4 → c k ≤ 4) : ∀ (m x : Nat) (a : Int), Wk L c bar m x a → x ≤ 4 * m := by
  intro m
  induction m with
  | zero => intro x a h; have := h.2.2; omega
  | succ m ih =>
    intro x a h
    obtain ⟨-, -, k, hk, h3, h4⟩ := h
    have := ih _ _ h4
    have := hc k (by have := hok.few a; omega)
    omega
/-- A way within the number of members, and at a small cost. -/
theorem Wk.small (hok : OkV L) (hc : ∀ k, 1 ≤ c k) (hc4 : ∀ k, k < 4 → c k ≤ 4) {a : Int} (h0 : 0 ≤ a) (h1 : a < L.length) {x m : Nat} (hw : Wk L c bar m x a) : ∃ m' x', m' < L.length ∧ x' ≤ x ∧ x' ≤ 44 ∧ Wk L c bar m' x' a := by
  obtain ⟨m', x', e1, e2, e3⟩ := Wk.short hok hc L.length bar a h0 h1 (avail_le _ _) x m hw
  have := Wk.le_four hok hc4 _ _ _ e3
  have := hok.2.2
  exact ⟨m', x', by omega, e2, by omega, e3⟩

/-- The least cost. -/
def Lst (L : List VD) (c : Nat → Nat) (bar : List Int) (a : Int) (x : Nat) : Prop := (∃ m, Wk L c bar m x a) ∧ ∀ m y, Wk L c bar m y a → x ≤ y
theorem Lst.uniq {a : Int} {x y : Nat} (h : Lst L c bar a x) (k : Lst L c bar a y) : x = y := by
  obtain ⟨m, hm⟩ := h.1
  obtain ⟨m', hm'⟩ := k.1
  have := h.2 _ _ hm'
  have := k.2 _ _ hm
  omega
theorem Lst.of {a : Int} {m x : Nat} (h : Wk L c bar m x a) : ∃ y, y ≤ x ∧ Lst L c bar a y := by
  obtain ⟨y, ⟨m', hy⟩, hmin⟩ := least_of (p := fun x => ∃ m, Wk L c bar m x a) ⟨x, m, h⟩
  have hl : ∀ m z, Wk L c bar m z a → y ≤ z := fun m z hz => by
    rcases Nat.lt_or_ge z y with h | h
    · exact absurd ⟨m, hz⟩ (hmin z h)
    · exact h
  exact ⟨y, hl m x h, ⟨m', hy⟩, hl⟩
theorem Lst.step {a : Int} {x : Nat} (h : Lst L c bar a x) (hs : (At L a).1 = false) : ∃ k, ∃ hk : k < (At L a).2.length, ∃ y, Lst L c bar ((At L a).2[k]) y ∧ c k + y = x := by
  obtain ⟨m, hm⟩ := h.1
  cases m with
  | zero => have := hm.2.1; rw [hs] at this; cases this
  | succ m =>
    obtain ⟨h1, h2, k, hk, h3, h4⟩ := hm
    obtain ⟨y, hy, hl⟩ := Lst.of h4
    refine ⟨k, hk, y, hl, ?_⟩
    obtain ⟨m', hm'⟩ := hl.1
    have := h.2 (m' + 1) (c k + y) ⟨h1, h2, k, hk, by omega, by rw [Nat.add_sub_cancel_left]; exact hm'⟩
    omega
theorem Lst.zero {a : Int} {x : Nat} (h : Lst L c bar a x) (hc : ∀ k, 1 ≤ c k) : x = 0 ↔ (At L a).1 = true := by
  obtain ⟨m, hm⟩ := h.1
  cases m with
  | zero => exact ⟨fun _ => hm.2.1, fun _ => hm.2.2⟩
  | succ m =>
    obtain ⟨h1, h2, k, hk, h3, h4⟩ := hm
    have := hc k
    rw [h2]
    constructor
    · intro e; omega
    · intro e; cases e

/-- One who speaks can be reached. -/
def Rch (L : List VD) (bar : List Int) (a : Int) : Prop := ∃ m x, Wk L (fun _ => 1) bar m x a
theorem Wk.rch : ∀ (m x : Nat) (a : Int), Wk L c bar m x a → Wk L (fun _ => 1) bar m m a := by
  intro m
  induction m with
  | zero => intro x a h; exact ⟨h.1, h.2.1, rfl⟩
  | succ m ih =>
    intro x a h
    obtain ⟨h1, h2, k, hk, h3, h4⟩ := h
    exact ⟨h1, h2, k, hk, Nat.le_add_left 1 m, ih _ _ h4⟩
theorem Wk.to (c' : Nat → Nat) : ∀ (m x : Nat) (a : Int), Wk L c bar m x a → ∃ y, Wk L c' bar m y a := by
  intro m
  induction m with
  | zero => intro x a h; exact ⟨0, h.1, h.2.1, rfl⟩
  | succ m ih =>
    intro x a h
    obtain ⟨h1, h2, k, hk, h3, h4⟩ := h
    obtain ⟨y, hy⟩ := ih _ _ h4
    exact ⟨c' k + y, h1, h2, k, hk, by omega, by rw [Nat.add_sub_cancel_left]; exact hy⟩
theorem Rch.wk {a : Int} (h : Rch L bar a) (c : Nat → Nat) : ∃ m x, Wk L c bar m x a := by
  obtain ⟨m, x, h⟩ := h
  obtain ⟨y, hy⟩ := Wk.to c m x a h
  exact ⟨m, y, hy⟩
theorem Rch.of {a : Int} {m x : Nat} (h : Wk L c bar m x a) : Rch L bar a := ⟨m, m, Wk.rch m x a h⟩
/-- From one who does not speak the way goes on to somebody else, from whom it does not come back. -/
theorem Rch.next {a : Int} (h : Rch L bar a) (hs : (At L a).1 = false) : ∃ k, ∃ hk : k < (At L a).2.length, Rch L (a :: bar) ((At L a).2[k]) := by
  obtain ⟨m, x, hw⟩ := h
  obtain ⟨x0, ⟨m0, hw0⟩, hmin⟩ := least_of (p := fun x => ∃ m, Wk L (fun _ => 1) bar m x a) ⟨x, m, hw⟩
  cases m0 with
  | zero => have := hw0.2.1; rw [hs] at this; cases this
  | succ j =>
    obtain ⟨h1, h2, k, hk, h3, h4⟩ := hw0
    exact ⟨k, hk, j, _, Wk.avoid (a := a) j _ _ h4 fun m' y' hy hh => hmin y' (by have h3' : 1 ≤ x0 := h3; have hy' : y' ≤ x0 - 1 := hy; omega) ⟨m', hh⟩⟩
theorem Rch.mono {bar' : List Int} {a : Int} (h : Rch L bar a) (hb : ∀ a, a ∈ bar' → a ∈ bar) : Rch L bar' a := by
  obtain ⟨m, x, h⟩ := h
  exact ⟨m, x, h.mono hb⟩
end

/-- The path that goes on as told, so many steps at most. -/
noncomputable def pathBy (L : List VD) (next : List Int → Int → Option Int) : Nat → List Int → List Int
  | 0, p => p
  | f + 1, p => if (At L (p.getLast?.getD 0)).1 = true then p else match next p (p.getLast?.getD 0) with | none => p | some t => pathBy L next f (p ++ [t])
theorem pathBy_end {L : List VD} {next : List Int → Int → Option Int} {f : Nat} {p : List Int} {a : Int} (ha : p.getLast? = some a) (h : (At L a).1 = true) : pathBy L next f p = p := by
  cases f with
  | zero => rfl
  | succ f => rw [pathBy, ha, Option.getD_some, if_pos h]
theorem pathBy_step {L : List VD} {next : List Int → Int → Option Int} {f : Nat} {p : List Int} {a t : Int} (ha : p.getLast? = some a) (h : (At L a).1 = false) (hn : next p a = some t) : pathBy L next (f + 1) p = pathBy L next f (p ++ [t]) := by
  rw [pathBy, ha, Option.getD_some, if_neg (by rw [h]; simp), hn]

/-- The first of a list with a property. -/
noncomputable def firstK (xs : List Int) (good : Nat → Int → Prop) : Option Int := by
  classical exact ((List.range xs.length).find? fun k => decide (good k (xs.getD k 0))).map fun k => xs.getD k 0
theorem firstK_at {xs : List Int} {good : Nat → Int → Prop} {k : Nat} (hk : k < xs.length) (h : good k xs[k]) (hn : ∀ j (hj : j < xs.length), j < k → ¬ good j xs[j]) : firstK xs good = some xs[k] := by
  classical
  have hg : ∀ j (hj : j < xs.length), xs.getD j 0 = xs[j] := fun j hj => by simp [hj]
  have : (List.range xs.length).find? (fun k => decide (good k (xs.getD k 0))) = some k := by
    rw [List.find?_eq_some_iff_getElem]
    refine ⟨by rw [hg k hk]; exact decide_eq_true h, k, by simpa using hk, by simp, fun j hj => ?_⟩
    have hj' : j < xs.length := by omega
    simp only [List.getElem_range, hg j hj', Bool.not_eq_true', decide_eq_false_iff_not]
    exact hn j hj' hj
  unfold firstK
  rw [this]
  simp [hk]

/-- The step by cost. -/
noncomputable def nextC (L : List VD) (c : Nat → Nat) (_ : List Int) (a : Int) : Option Int :=
  firstK (At L a).2 fun k t => ∃ x y, Lst L c [] a x ∧ Lst L c [] t y ∧ c k + y = x
/-- The step by depth. -/
noncomputable def nextD (L : List VD) (p : List Int) (a : Int) : Option Int :=
  firstK (At L a).2 fun _ t => Rch L p t
/-- What a step costs. -/
def costOf (ranked : Bool) (k : Nat) : Nat := if ranked then k + 1 else 1
theorem costOf_pos (r : Bool) (k : Nat) : 1 ≤ costOf r k := by unfold costOf; split <;> omega
theorem costOf_four (r : Bool) (k : Nat) (h : k < 4) : costOf r k ≤ 4 := by unfold costOf; split <;> omega
/-- The best path of a member by a rule. -/
noncomputable def best (L : List VD) (rule m : Int) : List Int := by
  classical exact if Rch L [] m then (if rule = 2 then pathBy L (nextD L) 48 [m] else pathBy L (nextC L (costOf (decide (rule = 1)))) 48 [m]) else []
end Go.Proofs.Ythcomgnokkndgaa
