/- Sums of the first numbers; a list of numbers that a function owns, with one of them written over. -/
import Derived.Test.YtomkhjcejjkelaaCells
namespace Go.Proofs.Ytomkhjcejjkelaa
open Go.RowKit

theorem sum_take1 (ts : List Int) (k : Nat) (h : k < ts.length) : (ts.take (k + 1)).sum = (ts.take k).sum + ts[k] := by
  rw [List.take_succ_eq_append_getElem h, List.sum_append]; simp
theorem sum_small {ts : List Int} {M : Int} (hM : 0 ≤ M) : ∀ k, k ≤ ts.length → (∀ j (h : j < ts.length), j < k → 0 ≤ ts[j] ∧ ts[j] ≤ M) → 0 ≤ (ts.take k).sum ∧ (ts.take k).sum ≤ M * k
  | 0, _, _ => by simp
  | k + 1, hk, h => by
    have ih := sum_small hM k (by omega) (fun j hj hjk => h j hj (by omega))
    have h1 := h k (by omega) (by omega)
    rw [sum_take1 ts k (by omega)]
    have e : M * ((k + 1 : Nat) : Int) = M * k + M := by rw [show ((k + 1 : Nat) : Int) = (k : Int) + 1 by omega, Int.mul_add, Int.mul_one]
    omega

theorem OwnI.put {lo hi g n c : Nat} {w : World} {xs : List Int} (h : OwnI lo hi w (.slice (some ⟨g, 0, none⟩) n c) xs) (i : Nat) (v : Int) : OwnI lo hi (w.setCell ⟨g, i, none⟩ (.int .i64 v)) (.slice (some ⟨g, 0, none⟩) n c) (xs.set i v) := by
  rcases h with ⟨e, _⟩ | ⟨g', cap, e, h1, h2, h3⟩
  · cases e
  simp only [Value.slice.injEq, Option.some.injEq, Addr.mk.injEq, and_true] at e
  obtain ⟨rfl, rfl, rfl⟩ := e
  have := (h3.stored i (iv v)).1
  refine .inr ⟨g, c, by rw [List.length_set], h1, h2, ?_⟩
  rw [List.length_set, List.map_set]
  exact this
theorem OwnI.cellF {lo hi g n c : Nat} {w : World} {xs : List Int} (h : OwnI lo hi w (.slice (some ⟨g, 0, none⟩) n c) xs) (i : Nat) (hi' : i < xs.length) : w.cell? ⟨g, i, none⟩ = some (.int .i64 xs[i]) ∧ w.frozen? ⟨g, i, none⟩ = false ∧ InW g w := by
  rcases h with ⟨e, _⟩ | ⟨g', cap, e, h1, h2, h3⟩
  · cases e
  simp only [Value.slice.injEq, Option.some.injEq, Addr.mk.injEq, and_true] at e
  obtain ⟨rfl, rfl, rfl⟩ := e
  exact ⟨by rw [h3.cellAt i (by omega)]; simp [hi'], h3.frozenAt i, ⟨(h3.lt g rfl).2⟩⟩
theorem own_snoc_len {lo hi g c : Nat} {w : World} {xs : List Int} {x : Int} (h : OwnI lo hi w (.slice (some ⟨g, 0, none⟩) (xs ++ [x]).length c) (xs ++ [x])) : OwnI lo hi w (.slice (some ⟨g, 0, none⟩) (xs.length + 1) c) (xs ++ [x]) := by simpa using h
end Go.Proofs.Ytomkhjcejjkelaa
