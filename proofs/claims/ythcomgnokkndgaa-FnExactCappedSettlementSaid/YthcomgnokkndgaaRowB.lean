/- Rows of truth values that a function owns. -/
import Derived.Test.YthcomgnokkndgaaTail
import Derived.Test.YthcomgnokkndgaaApp2
namespace Go.Proofs.Ythcomgnokkndgaa
open Go.RowKit

/-- A row of truth values. -/
def RowB (T : TypeId) (lo : Nat) (w : World) (v : Value) (bs : List Bool) : Prop := w.ownsRow lo T 1 v bs.length (bs.map Value.bool)
section
variable {T : TypeId} {lo g n c : Nat} {w : World} {bs : List Bool}
theorem RowB.len (h : RowB T lo w (.slice (some ⟨g, 0, none⟩) n c) bs) : lo ≤ g ∧ g < w.heap.size := World.ownsRow.lt h g rfl
theorem RowB.eq (h : RowB T lo w (.slice (some ⟨g, 0, none⟩) n c) bs) : n = bs.length := by
  rcases h.2 with ⟨e, _⟩ | ⟨g', cap', cur, e, _⟩
  · cases e
  · simp only [Value.slice.injEq] at e; exact e.2.1
theorem RowB.cell (h : RowB T lo w (.slice (some ⟨g, 0, none⟩) n c) bs) (i : Nat) (hi : i < bs.length) : w.cell? ⟨g, i, none⟩ = some (.bool bs[i]) := by
  obtain rfl := h.eq
  rw [World.ownsRow.cellAt h i (by omega)]; simp [hi]
theorem RowB.frozen (h : RowB T lo w (.slice (some ⟨g, 0, none⟩) n c) bs) (i : Nat) : w.frozen? ⟨g, i, none⟩ = false := by
  obtain rfl := h.eq
  exact World.ownsRow.frozenAt h i
theorem RowB.ext {w' : World} {v : Value} (h : RowB T lo w v bs) (hx : Ext w w') : RowB T lo w' v bs := ownsRow_ext h hx
theorem RowB.store (h : RowB T lo w (.slice (some ⟨g, 0, none⟩) n c) bs) (i : Nat) (v : Bool) : RowB T lo (w.setCell ⟨g, i, none⟩ (.bool v)) (.slice (some ⟨g, 0, none⟩) n c) (bs.set i v) := by
  obtain rfl := h.eq
  unfold RowB
  rw [List.length_set, List.map_set]
  exact (World.ownsRow.stored h i (.bool v)).1
theorem row_falses (h : w.ownsRow lo T 1 (.slice (some ⟨g, 0, none⟩) n c) n (madeCells (Value.bool false).cells (n * 1)).toList) : RowB T lo w (.slice (some ⟨g, 0, none⟩) n c) (List.replicate n false) := by
  unfold RowB
  rw [List.length_replicate, List.map_replicate]
  have := h
  rw [Nat.mul_one] at this
  rwa [show (Value.bool false).cells = #[Value.bool false] from rfl, toList_madeCells_one] at this
end
theorem Try.info_bool : (Try.prog.info? 4).map (fun i => (i.zero, i.size, i.bytes)) = some (some (.bool false), 1, 1) := by kernel_rfl
end Go.Proofs.Ythcomgnokkndgaa
