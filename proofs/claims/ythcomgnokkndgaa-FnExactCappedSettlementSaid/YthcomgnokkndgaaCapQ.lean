/- A valid list and a limit from 1 to 12: both sides' look at them. -/
import Derived.Test.YthcomgnokkndgaaEndsI
import Derived.Test.YthcomgnokkndgaaEndsS
import Derived.Test.YthcomgnokkndgaaCompare
namespace Go.Proofs.Ythcomgnokkndgaa
open Go.RowKit

def CV (L : List VD) (lim : Int) : Prop := OkV L ∧ 1 ≤ lim ∧ lim ≤ 12
open Classical in
noncomputable def capB (L : List VD) (lim : Int) : Bool := decide (CV L lim)
theorem capB_no {L : List VD} {lim : Int} (h : ¬ CV L lim) : capB L lim = false ∧ True := by
  unfold capB; simp [h]
theorem capB_yes {L : List VD} {lim : Int} (h : CV L lim) : capB L lim = true ∧ True := by
  unfold capB; simp [h]
theorem allE_row {L : List VD} (hok : OkV L) (k : Nat) (hk : k < (allE L L.length).length) : (allE L L.length)[k].length ≤ 12 := by
  rw [allE_at]
  have h := endsL_length L (k : Int)
  have := hok.2
  omega
theorem spec_l02Limit (r : Int) (b : Bool) (hb : inB r 1 12 = b) (w : World) : Calls Try.prog 15 #[.int .i64 r] w fun e w' => e = .returned (.bool b) ∧ Ext w w' := by
  have R := fun x => spec_l00In r 1 12 b hb x
  clear hb
  go_enter Try.func15, Try.ntmps15
  go_wp2_with (first | (go_at_call 23; (with_reducible refine (R _).mono ?_); rintro e w' ⟨rfl, hx⟩; obtain ⟨g, rfl⟩ := hx.grow; clear hx))
  go_ret
  exact ⟨rfl, ExtC.ext⟩


set_option maxHeartbeats 1000000 in
theorem impl_isLimit (v : Value) (r : Int) (L : List VD) (w : World) (h : VS w v L) (hs : Short L) (b : Bool) (hb : capB L r = b) : Calls Try.prog 18 #[v, .int .i64 r] w fun e w' => e = .returned (.bool b) ∧ Ext w w' := by
  have H1 := fun x (hx : Ext w x) => (impl_ValidVoices v L x (h.ext hx) hs).mono fun e w' (h : RetB (OkV L) e ∧ Ext x w') => (⟨h.1.told' (okB_iff rfl), h.2⟩ : e = .returned (.bool (okB L)) ∧ Ext x w')
  cases q1 : okB L
  · rw [q1] at H1
    have hbf : b = false := by rw [← hb]; exact (capB_no fun hh => by have := (okB_iff q1).2 hh.1; cases this).1
    subst hbf
    clear hb
    go_enter Try.func18, Try.ntmps18
    go_wp2_with (first | (go_at_call 28; (with_reducible refine (H1 _ ExtC.ext).mono ?_); rintro e w' ⟨rfl, hx⟩; obtain ⟨g, rfl⟩ := hx.grow; clear hx))
    go_ret
    exact ⟨rfl, ExtC.ext⟩
  rw [q1] at H1
  have hb2 : inB r 1 12 = b := by
    cases q2 : inB r 1 12
    · rw [← hb]; exact (capB_no fun hh => (inB_false.1 q2) hh.2).1.symm
    · rw [← hb]; exact (capB_yes ⟨(okB_iff q1).1 rfl, inB_true.1 q2⟩).1.symm
  clear hb
  have R := fun x => impl_within r 1 12 b hb2 x
  clear hb2
  go_enter Try.func18, Try.ntmps18
  go_wp2_with (first | (go_at_call 28; (with_reducible refine (H1 _ ExtC.ext).mono ?_); rintro e w' ⟨rfl, hx⟩; obtain ⟨g, rfl⟩ := hx.grow; clear hx) | (go_at_call 29; (with_reducible refine (R _).mono ?_); rintro e w' ⟨rfl, hx⟩; obtain ⟨g, rfl⟩ := hx.grow; clear hx))
  go_ret
  exact ⟨rfl, ExtC.ext⟩


end Go.Proofs.Ythcomgnokkndgaa
