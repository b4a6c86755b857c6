/- The greatest number of ballots that can be settled where some are told, in plain Lean. -/
import Derived.Test.YthcomgnokkndgaaRoomS
namespace Go.Proofs.Ythcomgnokkndgaa

/-- What stands open to a ballot: its ends where it is free (-2), else what is told of it. -/
def toE (E : List (List Int)) (Td : List Int) : Nat → List Int := fun i => if FnF Td i = -2 then E.getD i [] else if 0 ≤ FnF Td i then [FnF Td i] else []
structure FeasT (n : Nat) (E : List (List Int)) (Td : List Int) (lim : Int) (f : Nat → Int) : Prop where
  told : ∀ i, i < n → FnF Td i ≠ -2 → f i = FnF Td i
  free : ∀ i, i < n → FnF Td i = -2 → f i = -1 ∨ f i ∈ E.getD i []
  room : ∀ e, 0 ≤ e → (cnt n f e : Int) ≤ lim
def MaxT (n : Nat) (E : List (List Int)) (Td : List Int) (lim : Int) (v : Nat) : Prop := (∃ f, FeasT n E Td lim f ∧ sz n f = v) ∧ ∀ g, FeasT n E Td lim g → sz n g ≤ v
theorem MaxT.uniq {n : Nat} {E : List (List Int)} {Td : List Int} {lim : Int} {v u : Nat} (h : MaxT n E Td lim v) (k : MaxT n E Td lim u) : v = u := by
  obtain ⟨⟨f, hf, rfl⟩, h2⟩ := h
  obtain ⟨⟨g, hg, rfl⟩, k2⟩ := k
  exact Nat.le_antisymm (k2 f hf) (h2 g hg)
/-- More is told at one end than the limit. -/
def Over (n : Nat) (Td : List Int) (lim : Int) : Prop := ∃ e, 0 ≤ e ∧ lim < (cnt n (FnF Td) e : Int)
open Classical in
noncomputable def mostX (n : Nat) (E : List (List Int)) (Td : List Int) (lim : Int) : Int := if Over n Td lim then -1 else if h : ∃ v, MaxT n E Td lim v then (h.choose : Int) else -1
theorem mostX_over {n : Nat} {E : List (List Int)} {Td : List Int} {lim : Int} (h : Over n Td lim) : mostX n E Td lim = -1 := by unfold mostX; rw [if_pos h]
theorem mostX_max {n : Nat} {E : List (List Int)} {Td : List Int} {lim : Int} {v : Nat} (h : ¬ Over n Td lim) (k : MaxT n E Td lim v) : mostX n E Td lim = v := by
  have h' : ∃ v, MaxT n E Td lim v := ⟨v, k⟩
  unfold mostX
  rw [if_neg h, dif_pos h', h'.choose_spec.uniq k]

/-- What is told is told of n ballots: free (-2), none (-1), or an end below n. -/
structure TdOk (n : Nat) (E : List (List Int)) (Td : List Int) : Prop where
  n12 : n ≤ 12
  el : E.length = n
  tl : Td.length = n
  rng : ∀ i (h : i < Td.length), -2 ≤ Td[i] ∧ Td[i] < n
  el12 : ∀ i (h : i < E.length), E[i].length ≤ 12
  ends : ∀ i (h : i < E.length), ∀ e, e ∈ E[i] → 0 ≤ e ∧ e < n
def frL (Td : List Int) : List Bool := Td.map (fun x => x == -2)
def woL (Td : List Int) : List Int := Td.map (fun x => max x (-1))
theorem frL_at {Td : List Int} {i : Nat} (h : i < Td.length) : (frL Td).getD i false = (FnF Td i == -2) := by simp [frL, FnF, h]
theorem woL_at {Td : List Int} {i : Nat} (h : i < Td.length) : FnF (woL Td) i = max (FnF Td i) (-1) := by simp [woL, FnF, h]
section
variable {n : Nat} {E : List (List Int)} {Td : List Int} {lim : Int}
theorem TdOk.at (h : TdOk n E Td) {i : Nat} (hi : i < n) : -2 ≤ FnF Td i ∧ FnF Td i < n := by
  rw [FnF_at (by rw [h.tl]; exact hi)]; exact h.rng i _
theorem TdOk.g (h : TdOk n E Td) (h1 : 1 ≤ lim) (h2 : lim ≤ 12) : RmG n E (frL Td) (fun i => max (FnF Td i) (-1)) (toE E Td) lim where
  n12 := h.n12
  eok := fun i hi e he => by
    unfold toE at he
    split at he
    · have hiE : i < E.length := by rw [h.el]; exact hi
      exact h.ends i hiE e (by simpa [hiE] using he)
    · split at he
      · rw [List.mem_singleton.1 he]; have := h.at hi; omega
      · cases he
  el := h.el
  fl := by simp [frL, h.tl]
  el12 := h.el12
  own := fun i hi hf => by
    have := h.el
    rw [frL_at (by have := h.tl; omega)] at hf
    unfold toE
    rw [if_pos (by simpa using hf)]; simp [hi]
  fix := fun i hi hf e he => by
    rw [frL_at (by have := h.tl; omega)] at hf
    have hf' : ¬ FnF Td i = -2 := by simpa using hf
    unfold toE at he
    rw [if_neg hf'] at he
    split at he
    · rw [List.mem_singleton.1 he]; omega
    · cases he
  l1 := h1
  l2 := h2
theorem TdOk.p0 (h : TdOk n E Td) : RmP n (frL Td) (fun i => max (FnF Td i) (-1)) (woL Td) :=
  ⟨fun i hi _ => woL_at (by rw [h.tl]; exact hi), fun i hi => by rw [woL_at (by rw [h.tl]; exact hi)]; have := h.at hi; omega⟩
theorem cnt_wo (h : TdOk n E Td) {e : Int} (he : 0 ≤ e) : cnt n (FnF (woL Td)) e = cnt n (FnF Td) e :=
  ct_congr fun i hi => by
    rw [woL_at (by rw [h.tl]; exact hi), decide_eq_decide]
    omega
theorem TdOk.run0 (h : TdOk n E Td) (ho : ¬ Over n Td lim) : Run n (toE E Td) (fun _ => lim) (FnF (woL Td)) 0 noS :=
  ⟨⟨fun i hi => by
    rw [woL_at (by rw [h.tl]; exact hi)]
    by_cases h0 : 0 ≤ FnF Td i
    · right
      have h2 : ¬ FnF Td i = -2 := by omega
      unfold toE; rw [if_neg h2, if_pos h0, Int.max_eq_left (by omega)]; simp
    · left; omega, fun e he => by
    rw [cnt_wo h he]
    exact Int.not_lt.1 fun hh => ho ⟨e, he, hh⟩⟩, fun j _ hj => absurd hj (by omega), ⟨fun _ _ hh => (by cases hh), fun _ _ hh => (by cases hh)⟩⟩
theorem sz_wo (h : TdOk n E Td) : sz n (FnF (woL Td)) = ct n (fun i => decide (0 ≤ FnF Td i)) :=
  ct_congr fun i hi => by
    rw [woL_at (by rw [h.tl]; exact hi), decide_eq_decide]
    omega
theorem FeasT.feas (h : TdOk n E Td) {f : Nat → Int} (k : FeasT n E Td lim f) : Feas n (toE E Td) (fun _ => lim) f :=
  ⟨fun i hi => by
    by_cases h2 : FnF Td i = -2
    · have := k.free i hi h2
      unfold toE; rw [if_pos h2]; exact this
    · have e := k.told i hi h2
      unfold toE; rw [if_neg h2]
      have := h.at hi
      by_cases h0 : 0 ≤ FnF Td i
      · rw [if_pos h0]; right; rw [e]; simp
      · left; omega, k.room⟩
theorem run_maxT {F : List Int} {R : Int → Bool} (h : TdOk n E Td) (h1 : 1 ≤ lim) (h2 : lim ≤ 12) (hr : Run n (toE E Td) (fun _ => lim) (FnF F) n R) (hp : RmP n (frL Td) (fun i => max (FnF Td i) (-1)) F) : MaxT n E Td lim (sz n (FnF F)) := by
  refine ⟨⟨FnF F, ⟨fun i hi hne => ?_, fun i hi he => ?_, hr.feas.room⟩, rfl⟩, fun g hg => ?_⟩
  · have hf : (frL Td).getD i false = false := by rw [frL_at (by rw [h.tl]; exact hi)]; simpa using hne
    rw [hp.fix i hi hf]
    have := h.at hi
    show max (FnF Td i) (-1) = FnF Td i
    omega
  · have := hr.feas.ok i hi
    unfold toE at this; rw [if_pos he] at this; exact this
  · exact (hr.max (m := n) (h.g h1 h2).eok).2 g (hg.feas h)
end
end Go.Proofs.Ythcomgnokkndgaa
