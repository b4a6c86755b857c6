/- The laws' helpers on slices of slices: sizes and comparisons. -/
import Derived.Test.YthcomgnokkndgaaRowsTo
namespace Go.Proofs.Ythcomgnokkndgaa
open Go.RowKit

theorem laws_szInt64S' (v : Value) (xs : List Int) (left : Int) (w : World) (h : RI w v xs) (hn : xs.length ≤ 9223372036854775807) (h1 : 0 ≤ left) (h2 : left ≤ 1152921504606846976) :
    Calls Try.prog 22 #[v, .int .i64 left] w fun e w' => ∃ r : Int, e = .returned (.int .i64 r) ∧ ((r < 0 ∧ left - xs.length < 0) ∨ (0 ≤ r ∧ r = left - xs.length)) ∧ Ext w w' := by
  refine (laws_szInt64S v xs left w h hn h1 h2).mono fun e w' ⟨he, hx⟩ => ⟨_, he, ?_, hx⟩
  split <;> omega

/-- Bounds on rows. -/
def ShortRows {β : Type} (L : List (List β)) : Prop := L.length ≤ 1152921504606846976 ∧ ∀ i (h : i < L.length), L[i].length ≤ 1152921504606846976
theorem shortRows_of {β : Type} {L : List (List β)} (hl : L.length ≤ 1048576) (hm : rsum L ≤ 1048576) : ShortRows L :=
  ⟨by omega, fun i h => by have := rsum_get L i h; omega⟩

end Go.Proofs.Ythcomgnokkndgaa
