/- FirstCircles on both sides. -/
import Derived.Test.YtbbppkcdgcajjaaOrb
import Derived.Test.YtbbppkcdgcajjaaApp2
import Derived.Test.YtbbppkcdgcajjaaRowsEq
namespace Go.Proofs.Ytbbppkcdgcajjaa
open Go.RowKit


def MinR (xs : List Int) (w : World) (e : Ending) (w' : World) : Prop := ∃ r : Int, e = .returned (.int .i64 r) ∧ (r ∈ xs ∧ ∀ y ∈ xs, r ≤ y) ∧ Ext w w'
end Go.Proofs.Ytbbppkcdgcajjaa
