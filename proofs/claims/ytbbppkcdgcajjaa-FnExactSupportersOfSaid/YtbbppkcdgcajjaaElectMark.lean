/- The laws' marks over elections. -/
import Derived.Test.YtbbppkcdgcajjaaElect
import Derived.Test.YtbbppkcdgcajjaaQueue
namespace Go.Proofs.Ytbbppkcdgcajjaa
open Go.RowKit

set_option maxHeartbeats 1000000 in
theorem laws_markElection (m : Int) (q c q2 c2 : Nat) (cs : List Int) (ap : List (List Int)) (k0 : Int) (w : World) (lo mid hi : Nat) (o1 : OwnI lo mid w (.slice (some ⟨q, 0, none⟩) cs.length c) cs) (o2 : OwnR intKind 24 mid hi w (.slice (some ⟨q2, 0, none⟩) ap.length c2) ap)
    (h1 : lo ≤ mid) (h2 : mid ≤ hi) (h3 : hi ≤ w.heap.size) (n1 : cs.length ≤ 1048576) (n2 : ap.length ≤ 1048576) (n3 : cntRows intKind ap ≤ 1048576) (hk0 : 0 ≤ k0) (hk1 : k0 ≤ 1048576) :
    Calls Try.prog 61 #[.agg #[.int .i64 m, .slice (some ⟨q, 0, none⟩) cs.length c, .slice (some ⟨q2, 0, none⟩) ap.length c2], .int .i64 k0] w fun e w' => e = .returned (.int .i64 (k0 + (cs.length : Int) + (cntRows intKind ap : Int))) ∧ Rng lo hi w w' := by
  have O1 := Lib.hid o1
  have O2 := Lib.hid o2
  clear o1 o2
  go_enter Try.func61, Try.ntmps61
  go_wp2_with fail
  refine Calls.mono (laws_markInt64S _ cs k0 _ lo mid (O1.out.ext ExtC.ext) (by omega) (by omega) (by omega)) ?_
  rintro e w1 ⟨rfl, -, hr⟩
  have hs1 := hr.size
  simp only [World.size_alloc] at hs1
  have iw : InW w.heap.size w1 := ⟨by omega⟩
  have b0 : w1.cell? ⟨w.heap.size, 2, none⟩ = some (.slice (some ⟨q2, 0, none⟩) ap.length c2) := by
    rw [hr.cell (by simp) (by omega), World.cell?_alloc_at _ _ _ _ rfl]; rfl
  have HR := Lib.hid hr
  clear hr
  go_wp2_with fail
  refine Calls.mono (laws_markInt64SS _ ap (k0 + (cs.length : Int)) _ mid hi ((O2.out.ext (ExtC.ext : Ext w (w.alloc _))).rng HR.out (.inr (Nat.le_refl _))) (by omega) (by omega) (by omega)) ?_
  rintro e w2 ⟨rfl, -, hr2⟩
  have HR2 := Lib.hid hr2
  clear hr2
  go_wp2_with fail
  go_ret
  exact ⟨rfl, ((Rng.of_ext (ExtC.ext : Ext w (w.alloc _))).trans (HR.out.mono (Nat.le_refl _) h2)).trans (HR2.out.mono h1 (Nat.le_refl _))⟩
end Go.Proofs.Ytbbppkcdgcajjaa
