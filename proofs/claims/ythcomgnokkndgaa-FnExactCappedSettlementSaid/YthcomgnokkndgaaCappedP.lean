/- A settlement with a limit, in plain Lean: one ballot after another takes the first end with which the greatest number stays within reach. -/
import Derived.Test.YthcomgnokkndgaaMostP
import Derived.Test.YthcomgnokkndgaaCapQ
namespace Go.Proofs.Ythcomgnokkndgaa

def td0 (L : List VD) : List Int := (List.range L.length).map fun i : Nat => if (At L (i : Int)).1 = true then (i : Int) else -2
theorem td0_length (L : List VD) : (td0 L).length = L.length := by simp [td0]
theorem td0_at {L : List VD} {i : Nat} (h : i < L.length) : FnF (td0 L) i = if (At L i).1 = true then (i : Int) else -2 := by simp [td0, FnF, h]
noncomputable def pickE (n : Nat) (E : List (List Int)) (Td : List Int) (lim most : Int) (i : Nat) : List Int → Int
  | [] => -1
  | e :: r => if mostX n E (Td.set i e) lim < most then pickE n E Td lim most i r else e
noncomputable def capStep (n : Nat) (E : List (List Int)) (lim most : Int) (Td : List Int) (i : Nat) : List Int :=
  if 0 ≤ FnF Td i then Td else Td.set i (pickE n E Td lim most i (E.getD i []))
noncomputable def capT (n : Nat) (E : List (List Int)) (lim most : Int) (Td : List Int) : Nat → List Int
  | 0 => Td
  | k + 1 => capStep n E lim most (capT n E lim most Td k) k
noncomputable def cappedL (L : List VD) (lim : Int) : List Int := capT L.length (allE L L.length) lim (mostX L.length (allE L L.length) (td0 L) lim) (td0 L) L.length
noncomputable def cpdX (L : List VD) (lim : Int) : List Int := by
  classical exact if CV L lim then cappedL L lim else []

theorem TdOk.set {n : Nat} {E : List (List Int)} {Td : List Int} (h : TdOk n E Td) (i : Nat) {e : Int} (h0 : -2 ≤ e) (h1 : e < n) : TdOk n E (Td.set i e) :=
  ⟨h.n12, h.el, by rw [List.length_set]; exact h.tl, fun j hj => by
    rw [List.getElem_set]
    split
    · exact ⟨h0, h1⟩
    · exact h.rng j (by simpa using hj), h.el12, h.ends⟩
theorem pickE_mem {n : Nat} {E : List (List Int)} {Td : List Int} {lim most : Int} {i : Nat} : ∀ {l : List Int}, pickE n E Td lim most i l = -1 ∨ pickE n E Td lim most i l ∈ l
  | [] => .inl rfl
  | e :: r => by
    unfold pickE
    split
    · rcases pickE_mem (n := n) (E := E) (Td := Td) (lim := lim) (most := most) (i := i) (l := r) with h | h
      · exact .inl h
      · exact .inr (List.mem_cons_of_mem _ h)
    · exact .inr (List.mem_cons_self ..)
theorem TdOk.row {n : Nat} {E : List (List Int)} {Td : List Int} (h : TdOk n E Td) (i : Nat) : ∀ e, e ∈ E.getD i [] → 0 ≤ e ∧ e < n := by
  intro e he
  by_cases hi : i < E.length
  · exact h.ends i hi e (by simpa [hi] using he)
  · simp [show E.length ≤ i by omega] at he
theorem TdOk.step {n : Nat} {E : List (List Int)} {Td : List Int} {lim most : Int} (h : TdOk n E Td) (i : Nat) : TdOk n E (capStep n E lim most Td i) := by
  unfold capStep
  split
  · exact h
  · rcases pickE_mem (n := n) (E := E) (Td := Td) (lim := lim) (most := most) (i := i) (l := E.getD i []) with e | e
    · rw [e]; exact h.set i (by omega) (by omega)
    · have := h.row i _ e; exact h.set i (by omega) (by omega)
theorem TdOk.upto {n : Nat} {E : List (List Int)} {Td : List Int} {lim most : Int} (h : TdOk n E Td) : ∀ k, TdOk n E (capT n E lim most Td k)
  | 0 => h
  | k + 1 => (TdOk.upto h k).step k
theorem td0_ok {L : List VD} (hok : OkV L) : TdOk L.length (allE L L.length) (td0 L) :=
  ⟨hok.2.2, allE_length _ _, td0_length L, fun i hi => by
    have h : i < L.length := by simpa [td0] using hi
    have := td0_at (L := L) h
    rw [FnF_at hi] at this
    rw [this]
    split <;> omega, fun i hi => allE_row hok i hi, fun i hi e he => by
    rw [allE_at] at he
    exact endsL_range he⟩
theorem capped_len {L : List VD} {lim : Int} (hok : OkV L) : (cappedL L lim).length = L.length := ((td0_ok hok).upto _).tl
theorem cpd_no {L : List VD} {lim : Int} (h : ¬ CV L lim) : cpdX L lim = [] := by unfold cpdX; rw [if_neg h]
theorem cpd_yes {L : List VD} {lim : Int} (h : CV L lim) : cpdX L lim = cappedL L lim := by unfold cpdX; rw [if_pos h]
theorem cpdX_small {L : List VD} {lim : Int} : (cpdX L lim).length ≤ 12 := by
  unfold cpdX
  split
  · rename_i h; rw [capped_len h.1]; exact h.1.2.2
  · simp
end Go.Proofs.Ythcomgnokkndgaa
