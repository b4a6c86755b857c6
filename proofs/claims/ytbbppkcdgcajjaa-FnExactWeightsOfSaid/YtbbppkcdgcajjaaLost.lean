/- The members from whom no path leads to anybody: LostMembers on both sides. -/
import Derived.Test.YtbbppkcdgcajjaaEnds
import Derived.Test.YtbbppkcdgcajjaaCosts
namespace Go.Proofs.Ytbbppkcdgcajjaa
open Go.RowKit

/-- The lost ones among the first n. -/
noncomputable def lostTo (L : List VD) (n : Nat) : List Int := by
  classical exact ((List.range n).map fun i : Nat => (i : Int)).filter fun i => decide (¬ Rch L [] i)
theorem lostTo_yes {L : List VD} {n : Nat} (h : ¬ Rch L [] (n : Int)) : lostTo L (n + 1) = lostTo L n ++ [(n : Int)] := by
  simp [lostTo, List.range_succ, List.filter_append, h]
theorem lostTo_no {L : List VD} {n : Nat} (h : Rch L [] (n : Int)) : lostTo L (n + 1) = lostTo L n := by
  simp [lostTo, List.range_succ, List.filter_append, h]
theorem lostTo_length (L : List VD) (n : Nat) : (lostTo L n).length ≤ n := by
  unfold lostTo
  refine Nat.le_trans (List.length_filter_le _ _) (by simp)
open Classical in
noncomputable def lostX (L : List VD) : List Int := if OkV L then lostTo L L.length else []
theorem lostX_small {L : List VD} : (lostX L).length ≤ 12 := by
  unfold lostX
  split
  · rename_i h; exact Nat.le_trans (lostTo_length L _) h.2.2
  · simp
/-- What the costs tell of a member. -/
theorem cost_neg {L : List VD} {c : Nat → Nat} {bar : List Int} (hok : OkV L) (hc : ∀ k, 1 ≤ c k) (hc4 : ∀ k, k < 4 → c k ≤ 4) {cs : List Int} (h : Mid L c bar LeS (SnS L c bar) BdS L.length 0 0 cs) (j : Nat) (hj : j < cs.length) : (cs[j] < 0 ↔ ¬ Rch L bar j) ∧ -1 ≤ cs[j] ∧ cs[j] ≤ 44 := by
  rcases endS hok hc hc4 h j hj with ⟨e, hn⟩ | ⟨x, e, hl, h44⟩
  · refine ⟨⟨fun _ ⟨m, x, hw⟩ => ?_, fun _ => by omega⟩, by omega, by omega⟩
    obtain ⟨y, hy⟩ := Wk.to c m x j hw
    exact hn _ _ hy
  · obtain ⟨m, hm⟩ := hl.1
    exact ⟨⟨fun h => absurd h (by omega), fun h => absurd (Rch.of hm) h⟩, by omega, by omega⟩


end Go.Proofs.Ytbbppkcdgcajjaa
