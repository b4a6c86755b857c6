/- cmp.Compare and slices.Compare on whole numbers. -/
import Derived.Test.YthcomgnokkndgaaLib
namespace Go.Proofs.Ythcomgnokkndgaa
open Go.RowKit

def cmpI1 (x y : Int) : Int := if x < y then -1 else if y < x then 1 else 0
def cmpL : List Int → List Int → Int
  | [], [] => 0
  | [], _ :: _ => -1
  | _ :: _, [] => 1
  | x :: xs, y :: ys => if x < y then -1 else if y < x then 1 else cmpL xs ys
theorem cmpL_step (xs ys : List Int) (k : Nat) (h : k < xs.length) (h' : k < ys.length) : cmpL (xs.drop k) (ys.drop k) = if xs[k] < ys[k] then -1 else if ys[k] < xs[k] then 1 else cmpL (xs.drop (k + 1)) (ys.drop (k + 1)) := by
  rw [List.drop_eq_getElem_cons h, List.drop_eq_getElem_cons h', cmpL]
theorem cmpL_left (xs ys : List Int) (k : Nat) (h : k < xs.length) (h' : ys.length ≤ k) : cmpL (xs.drop k) (ys.drop k) = 1 := by
  rw [List.drop_eq_getElem_cons h, List.drop_eq_nil_of_le h', cmpL]
theorem cmpL_right (xs ys : List Int) (k : Nat) (h : xs.length ≤ k) (h' : k < ys.length) : cmpL (xs.drop k) (ys.drop k) = -1 := by
  rw [List.drop_eq_getElem_cons h', List.drop_eq_nil_of_le h, cmpL]
theorem cmpL_both (xs ys : List Int) (k : Nat) (h : xs.length ≤ k) (h' : ys.length ≤ k) : cmpL (xs.drop k) (ys.drop k) = 0 := by
  rw [List.drop_eq_nil_of_le h', List.drop_eq_nil_of_le h, cmpL]

theorem cmpI1_eq (x y : Int) (h : ¬ x < y) (h' : ¬ y < x) : cmpI1 x y = 0 := by unfold cmpI1; rw [if_neg h, if_neg h']
theorem cmpI1_step (x y r : Int) : (if x < y then -1 else if y < x then 1 else r) = if cmpI1 x y = 0 then r else cmpI1 x y := by
  unfold cmpI1
  by_cases h : x < y
  · simp [h]
  · by_cases h' : y < x
    · simp [h, h']
    · rw [if_neg h, if_neg h', if_neg h, if_neg h', if_pos rfl]

end Go.Proofs.Ythcomgnokkndgaa
