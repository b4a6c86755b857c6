/- Slices of voices: what reads, what a function owns, and the contracts of the laws' helpers on []Voice. -/
import Derived.Test.YthcomgnokkndgaaDoorSlice
namespace Go.Proofs.YthcomgnokkndgaaDoor
open Go.RowKit

theorem Tryd.info_voice : (Tryd.prog.info? 70).map (fun i => (i.zero, i.size, i.bytes)) = some (some (.agg #[.bool false, .slice none 0 0]), 2, 32) := by kernel_rfl

/-- A voice: whether it speaks, and whom it trusts. -/
abbrev VD := Bool × List Int

/-- v reads as the voices L: at an address with its cells. -/
def VS (w : World) (v : Value) (L : List VD) : Prop :=
  ∃ b off cap, v = .slice (some ⟨b, off, none⟩) L.length cap ∧ InW b w ∧ ∀ i (h : i < L.length), w.cell? ⟨b, off + i * 2, none⟩ = some (.bool L[i].1) ∧ ∃ t, w.cell? ⟨b, off + i * 2 + 1, none⟩ = some t ∧ RI w t L[i].2
def RV (w : World) (v : Value) (L : List VD) : Prop := VS w v L ∨ (L = [] ∧ ∃ p cap, v = .slice p 0 cap)

theorem VS.ext {w w' : World} {v : Value} {L : List VD} (h : VS w v L) (hx : Ext w w') : VS w' v L := by
  obtain ⟨b, off, cap, hv, hb, hc⟩ := h
  refine ⟨b, off, cap, hv, ⟨Nat.lt_of_lt_of_le hb.lt hx.size⟩, fun i hi => ?_⟩
  obtain ⟨h1, t, h2, h3⟩ := hc i hi
  refine ⟨by rw [Below.cell hx hb.lt]; exact h1, t, by rw [Below.cell hx hb.lt]; exact h2, h3.ext hx⟩
theorem RV.ext {w w' : World} {v : Value} {L : List VD} (h : RV w v L) (hx : Ext w w') : RV w' v L := by
  rcases h with h | h
  · exact .inl (h.ext hx)
  · exact .inr h

/-- The lengths of a list of voices, together. -/
def vsum (L : List VD) : Nat := (L.map fun v => v.2.length).sum
theorem vsum_take (L : List VD) (k : Nat) (h : k < L.length) : vsum (L.take (k + 1)) = vsum (L.take k) + L[k].2.length := by
  rw [List.take_succ_eq_append_getElem h]; simp only [vsum, List.map_append, List.sum_append, List.map_cons, List.map_nil, List.sum_cons, List.sum_nil]; omega
theorem vsum_take_le (L : List VD) (k : Nat) : vsum (L.take k) ≤ vsum L := by
  have h := List.take_append_drop k L
  have : vsum L = vsum (L.take k) + vsum (L.drop k) := by
    conv => lhs; rw [← h]
    simp only [vsum, List.map_append, List.sum_append]
  omega
theorem vsum_get (L : List VD) (k : Nat) (h : k < L.length) : L[k].2.length ≤ vsum L := by
  have h1 := vsum_take L k h
  have h2 := vsum_take_le L (k + 1)
  omega


/-- v is nil, or lies with all that its voices trust in blocks of its own, no two of them the same. -/
def OwnV (lo hi : Nat) (w : World) (v : Value) (L : List VD) : Prop :=
  (v = .slice none 0 0 ∧ L = []) ∨ ∃ (g cap : Nat) (cs : List Value) (ts : Nat → Value) (a b : Nat → Nat), v = .slice (some ⟨g, 0, none⟩) L.length cap ∧ lo ≤ g ∧ g < hi ∧ w.ownsRow lo 70 2 v L.length cs ∧
    (∀ i (h : i < L.length), cs[i * 2]? = some (.bool L[i].1) ∧ cs[i * 2 + 1]? = some (ts i) ∧ OwnI (a i) (b i) w (ts i) L[i].2 ∧ lo ≤ a i ∧ b i ≤ hi ∧ (g < a i ∨ b i ≤ g)) ∧
    (∀ i j, i < j → j < L.length → b i ≤ a j ∨ b j ≤ a i)

theorem OwnV.vs {lo hi : Nat} {w : World} {v : Value} {L : List VD} (h : OwnV lo hi w v L) (hn : v ≠ .slice none 0 0) : VS w v L := by
  rcases h with ⟨rfl, _⟩ | ⟨g, cap, cs, ts, a, b, rfl, _, _, how, hc, _⟩
  · exact absurd rfl hn
  refine ⟨g, 0, cap, rfl, ⟨(how.lt g rfl).2⟩, fun i hi => ?_⟩
  obtain ⟨h1, h2, h3, _⟩ := hc i hi
  simp only [Nat.zero_add]
  refine ⟨by rw [how.cellAt _ (by omega)]; exact h1, ts i, by rw [how.cellAt _ (by omega)]; exact h2, h3.ri⟩
theorem OwnV.rv {lo hi : Nat} {w : World} {v : Value} {L : List VD} (h : OwnV lo hi w v L) : RV w v L := by
  rcases h with ⟨rfl, rfl⟩ | h'
  · exact .inr ⟨rfl, none, 0, rfl⟩
  · exact .inl (OwnV.vs (.inr h') (by obtain ⟨g, cap, cs, ts, a, b, rfl, _⟩ := h'; simp))
theorem OwnV.ext {lo hi : Nat} {w w' : World} {v : Value} {L : List VD} (h : OwnV lo hi w v L) (hx : Ext w w') : OwnV lo hi w' v L := by
  rcases h with h | ⟨g, cap, cs, ts, a, b, hv, h1, h2, how, hc, hd⟩
  · exact .inl h
  · exact .inr ⟨g, cap, cs, ts, a, b, hv, h1, h2, ownsRow_ext how hx, fun i hi => ⟨(hc i hi).1, (hc i hi).2.1, (hc i hi).2.2.1.ext hx, (hc i hi).2.2.2⟩, hd⟩
theorem OwnV.rng {lo hi lo' hi' : Nat} {w w' : World} {v : Value} {L : List VD} (h : OwnV lo hi w v L) (hx : Rng lo' hi' w w') (hdj : hi ≤ lo' ∨ hi' ≤ lo) : OwnV lo hi w' v L := by
  rcases h with h | ⟨g, cap, cs, ts, a, b, rfl, h1, h2, how, hc, hd⟩
  · exact .inl h
  · refine .inr ⟨g, cap, cs, ts, a, b, rfl, h1, h2, ownsRow_rng how hx (by omega), fun i hi => ?_, hd⟩
    obtain ⟨c1, c2, c3, c4, c5, c6⟩ := hc i hi
    exact ⟨c1, c2, c3.rng hx (by omega), c4, c5, c6⟩


/-- A voice in a row of its own: cells 2 i and 2 i + 1. -/
theorem set_pair {cs : List Value} {n k : Nat} (hl : cs.length = n * 2) (hk : k < n) (x y : Value) :
    ((cs.set (k * 2) x).set (k * 2 + 1) y).length = n * 2 ∧ ((cs.set (k * 2) x).set (k * 2 + 1) y)[k * 2]? = some x ∧ ((cs.set (k * 2) x).set (k * 2 + 1) y)[k * 2 + 1]? = some y ∧
    ∀ j, j ≠ k → ((cs.set (k * 2) x).set (k * 2 + 1) y)[j * 2]? = cs[j * 2]? ∧ ((cs.set (k * 2) x).set (k * 2 + 1) y)[j * 2 + 1]? = cs[j * 2 + 1]? := by
  refine ⟨by simp [hl], ?_, ?_, fun j hj => ⟨?_, ?_⟩⟩
  · rw [List.getElem?_set_ne (by omega), List.getElem?_set_self (by omega)]
  · rw [List.getElem?_set_self (by simp; omega)]
  · rw [List.getElem?_set_ne (by omega), List.getElem?_set_ne (by omega)]
  · rw [List.getElem?_set_ne (by omega), List.getElem?_set_ne (by omega)]

end Go.Proofs.YthcomgnokkndgaaDoor
