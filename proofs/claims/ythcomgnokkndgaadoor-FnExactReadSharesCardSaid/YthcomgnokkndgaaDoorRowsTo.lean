/- The laws' helpers on slices of slices: copies, sizes. -/
import Derived.Test.YthcomgnokkndgaaDoorNest
import Derived.Test.YthcomgnokkndgaaDoorShare
namespace Go.Proofs.YthcomgnokkndgaaDoor
open Go.RowKit

/-- The lengths of rows, together. -/
def rsum {β : Type} (L : List (List β)) : Nat := (L.map List.length).sum
theorem rsum_take {β : Type} (L : List (List β)) (k : Nat) (h : k < L.length) : rsum (L.take (k + 1)) = rsum (L.take k) + L[k].length := by
  rw [List.take_succ_eq_append_getElem h]; simp only [rsum, List.map_append, List.sum_append, List.map_cons, List.map_nil, List.sum_cons, List.sum_nil]; omega
theorem rsum_take_le {β : Type} (L : List (List β)) (k : Nat) : rsum (L.take k) ≤ rsum L := by
  have h := List.take_append_drop k L
  have : rsum L = rsum (L.take k) + rsum (L.drop k) := by
    conv => lhs; rw [← h]
    simp only [rsum, List.map_append, List.sum_append]
  omega
theorem rsum_get {β : Type} (L : List (List β)) (k : Nat) (h : k < L.length) : L[k].length ≤ rsum L := by
  have h1 := rsum_take L k h
  have h2 := rsum_take_le L (k + 1)
  omega

end Go.Proofs.YthcomgnokkndgaaDoor
