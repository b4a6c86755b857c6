/- A row of numbers that a function owns, cell by cell. -/
import Derived.Test.YthcomgnokkndgaaNest
import Derived.Test.YthcomgnokkndgaaApp
namespace Go.Proofs.Ythcomgnokkndgaa
open Go.RowKit

/-- A row of numbers of some type of numbers. -/
def RowI (T : TypeId) (lo : Nat) (w : World) (v : Value) (xs : List Int) : Prop := w.ownsRow lo T 1 v xs.length (xs.map iv)
section
variable {T : TypeId} {lo g n c : Nat} {w : World} {xs : List Int}
theorem RowI.len (h : RowI T lo w (.slice (some ⟨g, 0, none⟩) n c) xs) : lo ≤ g ∧ g < w.heap.size := World.ownsRow.lt h g rfl
theorem RowI.eq (h : RowI T lo w (.slice (some ⟨g, 0, none⟩) n c) xs) : n = xs.length := by
  rcases h.2 with ⟨e, _⟩ | ⟨g', cap', cur, e, _⟩
  · cases e
  · simp only [Value.slice.injEq] at e; exact e.2.1
theorem RowI.cell (h : RowI T lo w (.slice (some ⟨g, 0, none⟩) n c) xs) (i : Nat) (hi : i < xs.length) : w.cell? ⟨g, i, none⟩ = some (.int .i64 xs[i]) := by
  obtain rfl := h.eq
  rw [World.ownsRow.cellAt h i (by omega)]; simp [hi]
theorem RowI.frozen (h : RowI T lo w (.slice (some ⟨g, 0, none⟩) n c) xs) (i : Nat) : w.frozen? ⟨g, i, none⟩ = false := by
  obtain rfl := h.eq
  exact World.ownsRow.frozenAt h i
theorem RowI.ext {w' : World} {v : Value} (h : RowI T lo w v xs) (hx : Ext w w') : RowI T lo w' v xs := ownsRow_ext h hx
theorem RowI.store (h : RowI T lo w (.slice (some ⟨g, 0, none⟩) n c) xs) (i : Nat) (v : Int) : RowI T lo (w.setCell ⟨g, i, none⟩ (.int .i64 v)) (.slice (some ⟨g, 0, none⟩) n c) (xs.set i v) := by
  obtain rfl := h.eq
  unfold RowI
  rw [List.length_set, List.map_set]
  exact (World.ownsRow.stored h i (iv v)).1
theorem RowI.is (h : RowI T lo w (.slice (some ⟨g, 0, none⟩) xs.length c) xs) : IS w (.slice (some ⟨g, 0, none⟩) xs.length c) xs :=
  ⟨g, 0, c, rfl, own_le h, ⟨h.len.2⟩, fun i hi => by rw [Nat.zero_add]; exact h.cell i hi⟩
theorem row_full {w : World} {v : Value} {cs : List Value} (how : w.ownsRow lo T 1 v xs.length cs) (hcs : ∀ j, (hj : j < xs.length) → cs[j]? = some (iv xs[j])) : RowI T lo w v xs := by
  have hl : cs.length = xs.length := by rw [how.1]; omega
  have e : cs = xs.map iv := by
    apply List.ext_getElem?
    intro j
    by_cases hj : j < xs.length
    · rw [hcs j hj]; simp [hj]
    · rw [List.getElem?_eq_none (by omega), List.getElem?_eq_none (by simp; omega)]
  unfold RowI; rw [← e]; exact how
end
theorem listSet_get {cs : List Value} {k j : Nat} {v : Value} (hk : k < cs.length) : (cs.set k v)[j]? = if k = j then some v else cs[j]? := by
  rw [List.getElem?_set]; simp [hk]

theorem row_zeros64 {lo g n c : Nat} {w : World} (h : w.ownsRow lo 2 1 (.slice (some ⟨g, 0, none⟩) n c) n (madeCells (Value.int .i64 0).cells (n * 1)).toList) : RowI 2 lo w (.slice (some ⟨g, 0, none⟩) n c) (List.replicate n 0) := by
  unfold RowI
  rw [List.length_replicate, List.map_replicate]
  have := h
  rw [Nat.mul_one] at this
  rwa [show (Value.int IntKind.i64 0).cells = #[Value.int IntKind.i64 0] from rfl, toList_madeCells_one] at this

end Go.Proofs.Ythcomgnokkndgaa
