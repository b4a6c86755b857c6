/- The ranks of a path's steps, on both sides. -/
import Derived.Test.YtomkhjcejjkelaaPath
import Derived.Test.YtomkhjcejjkelaaMade
namespace Go.Proofs.Ytomkhjcejjkelaa
open Go.RowKit

theorem Ext.grown {a w w' : World} {row : Option Nat} (h : Ext a w) (hg : w.grownBy w' row) (hr : ∀ k, row = some k → a.heap.size ≤ k) : Ext a w' := Below.grown h hg h.size hr
theorem own_of_row {lo : Nat} {w : World} {v : Value} {xs : List Int} (h : w.ownsRow lo 2 1 v xs.length (xs.map iv)) : OwnI lo w.heap.size w v xs := by
  have h' := h
  rcases h.2 with ⟨rfl, hn⟩ | ⟨g, cap, cur, rfl, h1, _⟩
  · exact .inl ⟨rfl, List.length_eq_zero_iff.1 hn⟩
  · exact .inr ⟨g, cap, rfl, h1, (h.lt g rfl).2, h'⟩

/-- The cell of a row just made, wherever the world has grown to. -/
theorem cell_made {w : World} {c : Array Value} {t : TypeId} (g : Grow (w.alloc (.cells c t))) (i : Nat) : g.fin.cell? ⟨w.heap.size, i, none⟩ = c[i]? := by
  haveI : InW w.heap.size (w.alloc (.cells c t)) := ⟨by simp⟩
  rw [g.cell, World.cell?_alloc_at c t _ i rfl]

def rkAt (L : List VD) (p : List Int) (i : Nat) : Int := posOf (At L (p.getD i 0)).2 (p.getD (i + 1) 0) + 1
def rk (L : List VD) (p : List Int) : List Int := (List.range (p.length - 1)).map (rkAt L p)

end Go.Proofs.Ytomkhjcejjkelaa
