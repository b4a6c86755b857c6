/- The comparing of two paths, on the reference's side. -/
import Derived.Test.YtgaooafdalhdpaaBetter
namespace Go.Proofs.Ytgaooafdalhdpaa
open Go.RowKit

def cmpTwo (x y r : Int) : Int := if x < y then -1 else if y < x then 1 else r
def better (rule : Int) (p q a b : List Int) : Int :=
  if rule = 0 then cmpTwo p.length q.length (cmpL a b) else if rule = 1 then cmpTwo (wsum a) (wsum b) (cmpL a b) else cmpL a b

theorem spec_l02Rule (r : Int) (b : Bool) (hb : inB r 0 2 = b) (w : World) : Calls Try.prog 74 #[.int .i64 r] w fun e w' => e = .returned (.bool b) ∧ Ext w w' := by
  go_enter Try.func74, Try.ntmps74
  go_wp2_with (first | (go_at_call 96; (with_reducible refine (spec_l00In _ _ _ _ hb _).mono ?_); rintro e w' ⟨rfl, hx⟩; obtain ⟨g, rfl⟩ := hx.grow; clear hx))
  go_ret
  exact ⟨rfl, ExtC.ext⟩
theorem impl_isRule (r : Int) (b : Bool) (hb : inB r 0 2 = b) (w : World) : Calls Try.prog 76 #[.int .i64 r] w fun e w' => e = .returned (.bool b) ∧ Ext w w' := by
  go_enter Try.func76, Try.ntmps76
  go_wp2_with (first | (go_at_call 60; (with_reducible refine (impl_within _ _ _ _ hb _).mono ?_); rintro e w' ⟨rfl, hx⟩; obtain ⟨g, rfl⟩ := hx.grow; clear hx))
  go_ret
  exact ⟨rfl, ExtC.ext⟩

set_option maxHeartbeats 2000000 in
theorem spec_l02Better (v u t : Value) (L : List VD) (p q : List Int) (rule : Int) (w : World) (h : VS w v L) (hs : Short L) (hok : OkV L) (hp : IS w u p) (hq : IS w t q) (hpp : PathP L p) (hqq : PathP L q) (hpn : p.length ≤ 1048576) (hqn : q.length ≤ 1048576) (hr : 0 ≤ rule ∧ rule ≤ 2) :
    Calls Try.prog 75 #[v, .int .i64 rule, u, t] w fun e w' => e = .returned (.int .i64 (better rule p q (rk L p) (rk L q))) ∧ Ext w w' := by
  have HA := fun x (hx : Ext w x) => spec_l02Ranks v u L p x (h.ext hx) hs hok (hp.ext hx) hpp hpn
  have HB := fun x (hx : Ext w x) => spec_l02Ranks v t L q x (h.ext hx) hs hok (hq.ext hx) hqq hqn
  have la : (rk L p).length ≤ 1048576 := by simp [rk]; omega
  have lb : (rk L q).length ≤ 1048576 := by simp [rk]; omega
  obtain ⟨a, ha⟩ : ∃ a, rk L p = a := ⟨_, rfl⟩
  obtain ⟨b, hb⟩ : ∃ b, rk L q = b := ⟨_, rfl⟩
  rw [ha] at HA la ⊢
  rw [hb] at HB lb ⊢
  obtain ⟨pb, po, pc, rfl, -⟩ := hp
  obtain ⟨qb, qo, qc, rfl, -⟩ := hq
  clear ha hb h hok hpp hqq hs
  go_enter Try.func75, Try.ntmps75
  go_wp2_with fail
  refine Calls.mono (HA _ ExtC.ext) ?_
  rintro e w' ⟨v1, rfl, n1, o1, hx⟩; obtain ⟨g, rfl⟩ := hx.grow; clear hx
  go_wp2_with fail
  refine Calls.mono (HB _ ExtC.ext) ?_
  rintro e w' ⟨v2, rfl, n2, o2, hx⟩; obtain ⟨g2, rfl⟩ := hx.grow; clear hx
  have HL := fun x (hx : Ext g2.fin x) => spec_l02Less v1 v2 a b x (((o1.is n1).ext (ExtC.ext : Ext g.fin g2.fin)).ext hx) ((o2.is n2).ext hx) (by omega) (by omega)
  have HS1 := fun x (hx : Ext g.fin x) => spec_l02Sum v1 a x ((o1.is n1).ext hx) (by omega)
  have HS2 := fun x (hx : Ext g2.fin x) => spec_l02Sum v2 b x ((o2.is n2).ext hx) (by omega)
  clear o1 o2 HA HB
  have hcase : rule = 0 ∨ rule = 1 ∨ rule = 2 := by omega
  rcases hcase with rfl | rfl | rfl
  · by_cases h1 : p.length < q.length
    · have d1 : decide ((p.length:Int) < q.length) = true := by simp; omega
      go_wp2_with fail
      go_ret
      exact ⟨ret_int (by simp [better, cmpTwo, h1]), ExtC.ext⟩
    · have d1 : decide ((p.length:Int) < q.length) = false := by simp; omega
      by_cases h2 : q.length < p.length
      · have d2 : decide ((q.length:Int) < p.length) = true := by simp; omega
        go_wp2_with fail
        go_ret
        exact ⟨ret_int (by simp [better, cmpTwo, h1, h2]), ExtC.ext⟩
      · have d2 : decide ((q.length:Int) < p.length) = false := by simp; omega
        go_wp2_with (first | (go_at_call 89; (with_reducible refine (HL _ ExtC.ext).mono ?_); rintro e w' ⟨rfl, hx⟩; obtain ⟨g, rfl⟩ := hx.grow; clear hx))
        go_ret
        exact ⟨ret_int (by simp [better, cmpTwo, h1, h2]), ExtC.ext⟩
  · skip
    go_wp2_with fail
    refine Calls.mono (HS1 _ ExtC.ext) ?_
    rintro e w' ⟨rfl, hx⟩; obtain ⟨g3, rfl⟩ := hx.grow; clear hx
    go_wp2_with fail
    refine Calls.mono (HS2 _ ExtC.ext) ?_
    rintro e w' ⟨rfl, hx⟩; obtain ⟨g4, rfl⟩ := hx.grow; clear hx
    by_cases h1 : wsum a < wsum b
    · have d1 : decide (wsum a < wsum b) = true := by simp [h1]
      go_wp2_with fail
      go_ret
      exact ⟨ret_int (by simp [better, cmpTwo, h1]), ExtC.ext⟩
    · have d1 : decide (wsum a < wsum b) = false := by simp; omega
      by_cases h2 : wsum b < wsum a
      · have d2 : decide (wsum b < wsum a) = true := by simp [h2]
        have HV := Lib.hid (show better 1 p q a b = 1 by simp [better, cmpTwo, h1, h2])
        go_wp2_with fail
        go_ret
        exact ⟨ret_int HV.out.symm, ExtC.ext⟩
      · have d2 : decide (wsum b < wsum a) = false := by simp; omega
        have HV := Lib.hid (show better 1 p q a b = cmpL a b by unfold better cmpTwo; simp only [if_neg h1, if_neg h2]; rfl)
        go_wp2_with (first | (go_at_call 89; (with_reducible refine (HL _ ExtC.ext).mono ?_); rintro e w' ⟨rfl, hx⟩; obtain ⟨g, rfl⟩ := hx.grow; clear hx))
        go_ret
        exact ⟨ret_int HV.out.symm, ExtC.ext⟩
  · go_wp2_with (first | (go_at_call 89; (with_reducible refine (HL _ ExtC.ext).mono ?_); rintro e w' ⟨rfl, hx⟩; obtain ⟨g, rfl⟩ := hx.grow; clear hx))
    go_ret
    exact ⟨ret_int (by simp [better]), ExtC.ext⟩
end Go.Proofs.Ytgaooafdalhdpaa
