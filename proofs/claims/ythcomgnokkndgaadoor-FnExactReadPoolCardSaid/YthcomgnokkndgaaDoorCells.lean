/- What a new block holds; an empty list of rows; the length of a list that a function owns. -/
import Derived.Test.YthcomgnokkndgaaDoorApp2
namespace Go.Proofs.YthcomgnokkndgaaDoor
open Go.RowKit

theorem own_rows_empty (w : World) (lo : Nat) (hl : lo ≤ w.heap.size) : OwnR intKind 58 lo (w.heap.size + 1) (w.alloc (.cells #[] 58)) (.slice (some ⟨w.heap.size, 0, none⟩) 0 0) [] := by
  have h := World.ownsRow_made (e := 58) (size := 1) (base := lo) w #[] 0 hl (by unfold maxLen; omega) (by rfl)
  have := OwnR.made (K := intKind) h
  simpa using this
theorem IS.of_own {lo hi : Nat} {w : World} {g n c : Nat} {xs : List Int} (h : OwnI lo hi w (.slice (some ⟨g, 0, none⟩) n c) xs) : IS w (.slice (some ⟨g, 0, none⟩) n c) xs := OwnI.is h (by simp)

theorem cell_new (x : World) (v : Value) (T : TypeId) : (x.alloc (.cells #[v] T)).cell? ((⟨x.heap.size, 0, none⟩ : Addr).add 0) = some v := by
  rw [add_plain', World.cell?_alloc_at _ _ _ _ rfl]; rfl
theorem cells_one (x : World) (n : Int) (T : TypeId) : ∀ j (h : j < [n].length), (x.alloc (.cells #[iv n] T)).cell? ((⟨x.heap.size, 0, none⟩ : Addr).add j) = some (iv [n][j]) := by
  intro j h
  have : j = 0 := by simpa using h
  subst this
  exact cell_new _ _ _
theorem OwnI.len {a b g n c : Nat} {w : World} {xs : List Int} (h : OwnI a b w (.slice (some ⟨g, 0, none⟩) n c) xs) : n = xs.length ∧ a ≤ g ∧ g < b := by
  rcases h with ⟨e, _⟩ | ⟨g', cap, e, h1, h2, h3⟩
  · cases e
  · simp only [Value.slice.injEq, Option.some.injEq, Addr.mk.injEq, and_true] at e
    obtain ⟨rfl, rfl, rfl⟩ := e
    exact ⟨rfl, h1, h2⟩
end Go.Proofs.YthcomgnokkndgaaDoor
