/- The reference's ranks. -/
import Derived.Test.YtomkhjcejjkelaaRanks
namespace Go.Proofs.Ytomkhjcejjkelaa
open Go.RowKit



def RankR (w : World) (L : List VD) (p : List Int) (e : Ending) (w' : World) : Prop :=
  (¬(OkV L ∧ PathP L p) ∧ e = .returned (.tuple #[.slice none 0 0, .bool false]) ∨ (OkV L ∧ PathP L p) ∧ ∃ v', e = .returned (.tuple #[v', .bool true]) ∧ v' ≠ .slice none 0 0 ∧ OwnI w.heap.size w'.heap.size w' v' (rk L p)) ∧ Ext w w'



end Go.Proofs.Ytomkhjcejjkelaa
