/- Slices of slices: rows of one kind, read only or owned; marks. -/
import Derived.Test.YthcomgnokkndgaaDoorSlice
namespace Go.Proofs.YthcomgnokkndgaaDoor
open Go.RowKit

/-- What a row of some kind reads as, who owns it, and what marks do to it. -/
structure Kind (α : Type) where
  R : World → Value → α → Prop
  Own : Nat → Nat → World → Value → α → Prop
  cnt : α → Nat
  mark : Int → α → α
  r_ext : ∀ {w w' : World} {v : Value} {a : α}, R w v a → Ext w w' → R w' v a
  own_ext : ∀ {lo hi : Nat} {w w' : World} {v : Value} {a : α}, Own lo hi w v a → Ext w w' → Own lo hi w' v a
  own_rng : ∀ {lo hi lo' hi' : Nat} {w w' : World} {v : Value} {a : α}, Own lo hi w v a → Rng lo' hi' w w' → (hi ≤ lo' ∨ hi' ≤ lo) → Own lo hi w' v a
  own_mono : ∀ {lo hi lo' hi' : Nat} {w : World} {v : Value} {a : α}, Own lo hi w v a → lo' ≤ lo → hi ≤ hi' → Own lo' hi' w v a
  own_r : ∀ {lo hi : Nat} {w : World} {v : Value} {a : α}, Own lo hi w v a → R w v a
  r_form : ∀ {w : World} {v : Value} {a : α}, R w v a → ∃ p n c, v = .slice p n c

variable {α : Type} (K : Kind α)

/-- v reads as the rows L. -/
def RowsS (w : World) (v : Value) (L : List α) : Prop :=
  ∃ b off cap, v = .slice (some ⟨b, off, none⟩) L.length cap ∧ L.length ≤ cap ∧ InW b w ∧ ∀ i (h : i < L.length), ∃ t, w.cell? ⟨b, off + i, none⟩ = some t ∧ K.R w t L[i]
def RowsR (w : World) (v : Value) (L : List α) : Prop := RowsS K w v L ∨ (L = [] ∧ ∃ p cap, v = .slice p 0 cap)
/-- v is nil, or lies with all its rows in blocks of its own. -/
def OwnR (T : TypeId) (lo hi : Nat) (w : World) (v : Value) (L : List α) : Prop :=
  (v = .slice none 0 0 ∧ L = []) ∨ ∃ (g cap : Nat) (cs : List Value) (a b : Nat → Nat), v = .slice (some ⟨g, 0, none⟩) L.length cap ∧ lo ≤ g ∧ g < hi ∧ w.ownsRow lo T 1 v L.length cs ∧
    (∀ i (h : i < L.length), ∃ t, cs[i]? = some t ∧ K.Own (a i) (b i) w t L[i] ∧ lo ≤ a i ∧ b i ≤ hi ∧ (g < a i ∨ b i ≤ g)) ∧
    (∀ i j, i < j → j < L.length → b i ≤ a j ∨ b j ≤ a i)

variable {K}
theorem RowsS.ext {w w' : World} {v : Value} {L : List α} (h : RowsS K w v L) (hx : Ext w w') : RowsS K w' v L := by
  obtain ⟨b, off, cap, hv, hlc, hb, hc⟩ := h
  refine ⟨b, off, cap, hv, hlc, ⟨Nat.lt_of_lt_of_le hb.lt hx.size⟩, fun i hi => ?_⟩
  obtain ⟨t, h1, h2⟩ := hc i hi
  exact ⟨t, by rw [Below.cell hx hb.lt]; exact h1, K.r_ext h2 hx⟩
theorem RowsR.ext {w w' : World} {v : Value} {L : List α} (h : RowsR K w v L) (hx : Ext w w') : RowsR K w' v L := by
  rcases h with h | h
  · exact .inl (h.ext hx)
  · exact .inr h
theorem RowsR.form {w : World} {v : Value} {L : List α} (h : RowsR K w v L) : ∃ p cap, v = .slice p L.length cap ∧ L.length ≤ cap ∧
    (0 < L.length → ∃ b off, p = some ⟨b, off, none⟩ ∧ InW b w ∧ ∀ i (h : i < L.length), ∃ t, w.cell? ⟨b, off + i, none⟩ = some t ∧ K.R w t L[i]) := by
  rcases h with ⟨b, off, cap, rfl, hlc, hb, hc⟩ | ⟨rfl, p, cap, rfl⟩
  · exact ⟨_, _, rfl, hlc, fun _ => ⟨b, off, rfl, hb, hc⟩⟩
  · exact ⟨_, _, rfl, Nat.zero_le _, fun h => absurd h (by simp)⟩
theorem own_le {base : Nat} {e : TypeId} {size : Nat} {w : World} {g n cap : Nat} {xs : List Value} (h : w.ownsRow base e size (.slice (some ⟨g, 0, none⟩) n cap) n xs) : n ≤ cap := by
  rcases h.2 with ⟨h1, _⟩ | ⟨g', cap', cur, h1, _, _, h2, _⟩
  · cases h1
  · simp only [Value.slice.injEq, true_and] at h1; omega
theorem OwnR.s {T : TypeId} {lo hi : Nat} {w : World} {v : Value} {L : List α} (h : OwnR K T lo hi w v L) (hn : v ≠ .slice none 0 0) : RowsS K w v L := by
  rcases h with ⟨rfl, _⟩ | ⟨g, cap, cs, a, b, rfl, _, _, how, hc, _⟩
  · exact absurd rfl hn
  refine ⟨g, 0, cap, rfl, own_le how, ⟨(how.lt g rfl).2⟩, fun i hi => ?_⟩
  obtain ⟨t, h1, h2, _⟩ := hc i hi
  exact ⟨t, by rw [Nat.zero_add, how.cellAt i (by omega)]; exact h1, K.own_r h2⟩
theorem OwnR.r {T : TypeId} {lo hi : Nat} {w : World} {v : Value} {L : List α} (h : OwnR K T lo hi w v L) : RowsR K w v L := by
  rcases h with ⟨rfl, rfl⟩ | h'
  · exact .inr ⟨rfl, none, 0, rfl⟩
  · exact .inl (OwnR.s (.inr h') (by obtain ⟨g, cap, cs, a, b, rfl, _⟩ := h'; simp))
theorem OwnR.ext {T : TypeId} {lo hi : Nat} {w w' : World} {v : Value} {L : List α} (h : OwnR K T lo hi w v L) (hx : Ext w w') : OwnR K T lo hi w' v L := by
  rcases h with h | ⟨g, cap, cs, a, b, hv, h1, h2, how, hc, hd⟩
  · exact .inl h
  · refine .inr ⟨g, cap, cs, a, b, hv, h1, h2, ownsRow_ext how hx, fun i hi => ?_, hd⟩
    obtain ⟨t, c1, c2, c3⟩ := hc i hi
    exact ⟨t, c1, K.own_ext c2 hx, c3⟩
theorem OwnR.rng {T : TypeId} {lo hi lo' hi' : Nat} {w w' : World} {v : Value} {L : List α} (h : OwnR K T lo hi w v L) (hx : Rng lo' hi' w w') (hdj : hi ≤ lo' ∨ hi' ≤ lo) : OwnR K T lo hi w' v L := by
  rcases h with h | ⟨g, cap, cs, a, b, rfl, h1, h2, how, hc, hd⟩
  · exact .inl h
  · refine .inr ⟨g, cap, cs, a, b, rfl, h1, h2, ownsRow_rng how hx (by omega), fun i hi => ?_, hd⟩
    obtain ⟨t, c1, c2, c3, c4, c5⟩ := hc i hi
    exact ⟨t, c1, K.own_rng c2 hx (by omega), c3, c4, c5⟩
theorem OwnR.mono {T : TypeId} {lo hi lo' hi' : Nat} {w : World} {v : Value} {L : List α} (h : OwnR K T lo hi w v L) (h1 : lo' ≤ lo) (h2 : hi ≤ hi') : OwnR K T lo' hi' w v L := by
  rcases h with h | ⟨g, cap, cs, a, b, hv, h3, h4, how, hc, hd⟩
  · exact .inl h
  · refine .inr ⟨g, cap, cs, a, b, hv, by omega, by omega, ownsRow_mono how h1, fun i hi => ?_, hd⟩
    obtain ⟨t, c1, c2, c3, c4, c5⟩ := hc i hi
    exact ⟨t, c1, c2, by omega, by omega, c5⟩

/-- The marks over rows. -/
def mkRows (K : Kind α) : Int → List α → List α
  | _, [] => []
  | k, a :: l => K.mark k a :: mkRows K (k + K.cnt a) l
def cntRows (K : Kind α) (L : List α) : Nat := (L.map K.cnt).sum
theorem mkRows_length (K : Kind α) (k : Int) (L : List α) : (mkRows K k L).length = L.length := by
  induction L generalizing k with
  | nil => rfl
  | cons a l ih => simp [mkRows, ih]
theorem cntRows_take (K : Kind α) (L : List α) (k : Nat) (h : k < L.length) : cntRows K (L.take (k + 1)) = cntRows K (L.take k) + K.cnt L[k] := by
  rw [List.take_succ_eq_append_getElem h]; simp only [cntRows, List.map_append, List.sum_append, List.map_cons, List.map_nil, List.sum_cons, List.sum_nil]; omega
theorem cntRows_le (K : Kind α) (L : List α) (k : Nat) : cntRows K (L.take k) ≤ cntRows K L := by
  have h := List.take_append_drop k L
  have : cntRows K L = cntRows K (L.take k) + cntRows K (L.drop k) := by
    conv => lhs; rw [← h]
    simp only [cntRows, List.map_append, List.sum_append]
  omega
theorem cntRows_get (K : Kind α) (L : List α) (k : Nat) (h : k < L.length) : K.cnt L[k] ≤ cntRows K L := by
  have h1 := cntRows_take K L k h
  have h2 := cntRows_le K L (k + 1)
  omega
theorem mkRows_get (K : Kind α) (k : Int) (L : List α) (i : Nat) (h : i < L.length) : (mkRows K k L)[i]? = some (K.mark (k + cntRows K (L.take i)) L[i]) := by
  induction L generalizing k i with
  | nil => simp at h
  | cons a l ih =>
    cases i with
    | zero => simp [mkRows, cntRows]
    | succ i =>
      have := ih (k + K.cnt a) i (by simpa using h)
      simp only [mkRows, List.getElem?_cons_succ, this, List.take_succ_cons, List.getElem_cons_succ]
      congr 2
      simp only [cntRows, List.map_cons, List.sum_cons]; omega

/-- The rows of numbers. -/
def intKind : Kind (List Int) where
  R := RI
  Own := OwnI
  cnt := List.length
  mark k xs := marks k xs.length
  r_ext h hx := h.ext hx
  own_ext h hx := h.ext hx
  own_rng h hx hd := h.rng hx hd
  own_mono h h1 h2 := h.mono h1 h2
  own_r h := h.ri
  r_form h := by obtain ⟨p, c, rfl, _⟩ := h.form; exact ⟨_, _, _, rfl⟩
end Go.Proofs.YthcomgnokkndgaaDoor
