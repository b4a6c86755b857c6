/- FirstCircles on both sides. -/
import Derived.Test.YthcomgnokkndgaaOrb
import Derived.Test.YthcomgnokkndgaaApp2
import Derived.Test.YthcomgnokkndgaaRowsEq
namespace Go.Proofs.Ythcomgnokkndgaa
open Go.RowKit


def MinR (xs : List Int) (w : World) (e : Ending) (w' : World) : Prop := ∃ r : Int, e = .returned (.int .i64 r) ∧ (r ∈ xs ∧ ∀ y ∈ xs, r ≤ y) ∧ Ext w w'
end Go.Proofs.Ythcomgnokkndgaa
