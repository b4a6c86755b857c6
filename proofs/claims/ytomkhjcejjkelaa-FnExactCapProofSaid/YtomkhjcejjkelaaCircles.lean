/- FirstCircles on both sides. -/
import Derived.Test.YtomkhjcejjkelaaOrb
import Derived.Test.YtomkhjcejjkelaaApp2
import Derived.Test.YtomkhjcejjkelaaRowsEq
namespace Go.Proofs.Ytomkhjcejjkelaa
open Go.RowKit


def MinR (xs : List Int) (w : World) (e : Ending) (w' : World) : Prop := ∃ r : Int, e = .returned (.int .i64 r) ∧ (r ∈ xs ∧ ∀ y ∈ xs, r ≤ y) ∧ Ext w w'
end Go.Proofs.Ytomkhjcejjkelaa
