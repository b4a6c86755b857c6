/- Slices of pairs of numbers: what reads. -/
import Derived.Test.YthcomgnokkndgaaDoorNest
namespace Go.Proofs.YthcomgnokkndgaaDoor
open Go.RowKit

abbrev SD := List (Int × Int)
def PS (w : World) (v : Value) (xs : SD) : Prop :=
  ∃ b off cap, v = .slice (some ⟨b, off, none⟩) xs.length cap ∧ xs.length ≤ cap ∧ InW b w ∧ ∀ i (h : i < xs.length), w.cell? ⟨b, off + i * 2, none⟩ = some (iv xs[i].1) ∧ w.cell? ⟨b, off + i * 2 + 1, none⟩ = some (iv xs[i].2)
def RP (w : World) (v : Value) (xs : SD) : Prop := PS w v xs ∨ (xs = [] ∧ ∃ p cap, v = .slice p 0 cap)
def pmarks (k : Int) (n : Nat) : SD := (List.range n).map fun i : Nat => (k + 2 * (i : Int), k + 2 * (i : Int) + 1)
theorem pmarks_length (k : Int) (n : Nat) : (pmarks k n).length = n := by simp [pmarks]
theorem pmarks_get (k : Int) (n i : Nat) (h : i < (pmarks k n).length) : (pmarks k n)[i] = (k + 2 * i, k + 2 * i + 1) := by simp [pmarks]

theorem PS.ext {w w' : World} {v : Value} {xs : SD} (h : PS w v xs) (hx : Ext w w') : PS w' v xs := by
  obtain ⟨b, off, cap, hv, hlc, hb, hc⟩ := h
  refine ⟨b, off, cap, hv, hlc, ⟨Nat.lt_of_lt_of_le hb.lt hx.size⟩, fun i hi => ?_⟩
  rw [Below.cell hx hb.lt, Below.cell hx hb.lt]; exact hc i hi
theorem RP.ext {w w' : World} {v : Value} {xs : SD} (h : RP w v xs) (hx : Ext w w') : RP w' v xs := by
  rcases h with h | h
  · exact .inl (h.ext hx)
  · exact .inr h
theorem RP.form {w : World} {v : Value} {xs : SD} (h : RP w v xs) : ∃ p cap, v = .slice p xs.length cap ∧ xs.length ≤ cap ∧
    (0 < xs.length → ∃ b off, p = some ⟨b, off, none⟩ ∧ InW b w ∧ ∀ i (h : i < xs.length), w.cell? ⟨b, off + i * 2, none⟩ = some (iv xs[i].1) ∧ w.cell? ⟨b, off + i * 2 + 1, none⟩ = some (iv xs[i].2)) := by
  rcases h with ⟨b, off, cap, rfl, hlc, hb, hc⟩ | ⟨rfl, p, cap, rfl⟩
  · exact ⟨_, _, rfl, hlc, fun _ => ⟨b, off, rfl, hb, hc⟩⟩
  · exact ⟨_, _, rfl, Nat.zero_le _, fun h => absurd h (by simp)⟩
theorem set_pair {cs : List Value} {n k : Nat} (hl : cs.length = n * 2) (hk : k < n) (x y : Value) :
    ((cs.set (k * 2) x).set (k * 2 + 1) y).length = n * 2 ∧ ((cs.set (k * 2) x).set (k * 2 + 1) y)[k * 2]? = some x ∧ ((cs.set (k * 2) x).set (k * 2 + 1) y)[k * 2 + 1]? = some y ∧
    ∀ j, j ≠ k → ((cs.set (k * 2) x).set (k * 2 + 1) y)[j * 2]? = cs[j * 2]? ∧ ((cs.set (k * 2) x).set (k * 2 + 1) y)[j * 2 + 1]? = cs[j * 2 + 1]? := by
  refine ⟨by simp [hl], ?_, ?_, fun j hj => ⟨?_, ?_⟩⟩
  · rw [List.getElem?_set_ne (by omega), List.getElem?_set_self (by omega)]
  · rw [List.getElem?_set_self (by simp; omega)]
  · rw [List.getElem?_set_ne (by omega), List.getElem?_set_ne (by omega)]
  · rw [List.getElem?_set_ne (by omega), List.getElem?_set_ne (by omega)]
end Go.Proofs.YthcomgnokkndgaaDoor
