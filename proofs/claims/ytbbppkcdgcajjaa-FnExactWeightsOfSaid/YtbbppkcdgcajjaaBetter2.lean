/- The comparing of two paths, on the reference's side. -/
import Derived.Test.YtbbppkcdgcajjaaBetter
namespace Go.Proofs.Ytbbppkcdgcajjaa
open Go.RowKit

def cmpTwo (x y r : Int) : Int := if x < y then -1 else if y < x then 1 else r
def better (rule : Int) (p q a b : List Int) : Int :=
  if rule = 0 then cmpTwo p.length q.length (cmpL a b) else if rule = 1 then cmpTwo (wsum a) (wsum b) (cmpL a b) else cmpL a b

theorem spec_l02Rule (r : Int) (b : Bool) (hb : inB r 0 2 = b) (w : World) : Calls Try.prog 77 #[.int .i64 r] w fun e w' => e = .returned (.bool b) ∧ Ext w w' := by
  go_enter Try.func77, Try.ntmps77
  go_wp2_with (first | (go_at_call 133; (with_reducible refine (spec_l00In _ _ _ _ hb _).mono ?_); rintro e w' ⟨rfl, hx⟩; obtain ⟨g, rfl⟩ := hx.grow; clear hx))
  go_ret
  exact ⟨rfl, ExtC.ext⟩
theorem impl_isRule (r : Int) (b : Bool) (hb : inB r 0 2 = b) (w : World) : Calls Try.prog 82 #[.int .i64 r] w fun e w' => e = .returned (.bool b) ∧ Ext w w' := by
  go_enter Try.func82, Try.ntmps82
  go_wp2_with (first | (go_at_call 105; (with_reducible refine (impl_within _ _ _ _ hb _).mono ?_); rintro e w' ⟨rfl, hx⟩; obtain ⟨g, rfl⟩ := hx.grow; clear hx))
  go_ret
  exact ⟨rfl, ExtC.ext⟩

end Go.Proofs.Ytbbppkcdgcajjaa
