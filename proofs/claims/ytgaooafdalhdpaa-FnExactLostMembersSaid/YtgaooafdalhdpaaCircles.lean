/- FirstCircles on both sides. -/
import Derived.Test.YtgaooafdalhdpaaOrb
import Derived.Test.YtgaooafdalhdpaaApp2
import Derived.Test.YtgaooafdalhdpaaRowsEq
namespace Go.Proofs.Ytgaooafdalhdpaa
open Go.RowKit

theorem spec_l02First (v : Value) (L : List VD) (m : Int) (w : World) (h : VS w v L) (hs : Short L) (h0 : 0 ≤ m) (h1 : m < L.length) :
    Calls Try.prog 70 #[v, .int .i64 m] w fun e w' => e = .returned (.int .i64 (fst1 L m)) ∧ Ext w w' := by
  have hln := hs.1
  obtain ⟨b, off, cap, rfl, hb, hc⟩ := h.at
  obtain ⟨c1, t, c2, c3⟩ := hc m h0 (by omega)
  obtain ⟨p, tc, rfl, -, hx⟩ := c3.form
  clear hc h c3
  obtain ⟨s, hs'⟩ : ∃ s, (At L m).1 = s := ⟨_, rfl⟩
  rw [hs'] at c1
  cases s
  · by_cases hl : (At L m).2.length = 0
    · have HV := Lib.hid (show fst1 L m = -1 by simp [fst1, hl])
      have hz : ((At L m).2.length : Int) = 0 := by omega
      rw [hl] at c2
      clear hx hl hz
      go_enter Try.func70, Try.ntmps70
      go_wp2
      go_ret
      exact ⟨ret_int HV.out.symm, ExtC.ext⟩
    · have hl0 : 0 < (At L m).2.length := by omega
      obtain ⟨tb, to, rfl, ib, ic⟩ := hx hl0
      have d := ic 0 hl0
      have d2 := d; rw [Nat.add_zero] at d2
      have hz : (((At L m).2.length : Int) == 0) = false := by simpa using hl
      have HV := Lib.hid (show fst1 L m = (At L m).2[0] by simp [fst1, hs', hl, hl0])
      clear hx ic hl hs'
      go_enter Try.func70, Try.ntmps70
      go_wp2
      go_ret
      exact ⟨ret_int HV.out.symm, ExtC.ext⟩
  · have HV := Lib.hid (show fst1 L m = -1 by simp [fst1, hs'])
    clear hx hs'
    go_enter Try.func70, Try.ntmps70
    go_wp2
    go_ret
    exact ⟨ret_int HV.out.symm, ExtC.ext⟩

def MinR (xs : List Int) (w : World) (e : Ending) (w' : World) : Prop := ∃ r : Int, e = .returned (.int .i64 r) ∧ (r ∈ xs ∧ ∀ y ∈ xs, r ≤ y) ∧ Ext w w'
set_option maxHeartbeats 400000 in
theorem slices_Min (v : Value) (xs : List Int) (w : World) (h : IS w v xs) (h0 : 0 < xs.length) (hn : xs.length ≤ 1152921504606846976) :
    Calls Try.prog 71 #[v] w (MinR xs w) := by
  obtain ⟨b, off, cap, rfl, hlc, hb, hx⟩ := h
  have d0 := hx 0 h0
  have d00 := d0; rw [Nat.add_zero] at d00
  have HX := Lib.hid hx; clear hx
  go_enter Try.func71, Try.ntmps71
  go_wp2
  go_loopw [3, 4] (fun r i wr => ∃ (k : Nat) (m : Int), 1 ≤ k ∧ k ≤ xs.length ∧ i = .int .i64 k ∧ r = .int .i64 m ∧ Hid (m ∈ xs.take k ∧ ∀ y ∈ xs.take k, m ≤ y) ∧ Ext w wr) (fun _ i _ => xs.length - (intOf i).toNat)
  case atStart => exact ⟨1, _, Nat.le_refl _, h0, rfl, rfl, Lib.hid (by rw [List.take_succ_eq_append_getElem h0]; simp), ExtC.ext⟩
  case round =>
    obtain ⟨k, m, hk1, hk, rfl, rfl, hm, hx⟩ := hrel
    obtain ⟨g, rfl⟩ := hx.grow; clear hx
    by_cases hlt : k < xs.length
    · have d := HX.out k hlt
      have HT := Lib.hid (List.take_succ_eq_append_getElem hlt)
      by_cases hc : m ≤ xs[k]
      · have hc' : ¬ xs[k] < m := by omega
        have hmin : min m xs[k] = m := by omega
        go_wp2
        go_roundw
        case rel =>
          refine ⟨k + 1, m, by omega, by omega, by go_num, by first | rfl | (congr 1), Lib.hid ?_, ExtC.ext⟩
          rw [HT.out]
          obtain ⟨h1, h2⟩ := hm.out
          exact ⟨List.mem_append_left _ h1, fun y hy => by rcases List.mem_append.1 hy with e | e; exact h2 y e; simp at e; subst e; exact hc⟩
        case measure => simp [intOf]; omega
      · have hmin : min m xs[k] = xs[k] := by omega
        have hc' : xs[k] < m := by omega
        go_wp2
        go_roundw
        case rel =>
          refine ⟨k + 1, xs[k], by omega, by omega, by go_num, by first | rfl | (congr 1), Lib.hid ?_, ExtC.ext⟩
          rw [HT.out]
          obtain ⟨h1, h2⟩ := hm.out
          exact ⟨List.mem_append_right _ (List.mem_singleton.2 rfl), fun y hy => by rcases List.mem_append.1 hy with e | e; have := h2 y e; omega; simp at e; subst e; exact Int.le_refl _⟩
        case measure => simp [intOf]; omega
    · have e : k = xs.length := by omega
      subst e
      go_wp2
      go_ret
      refine ⟨_, rfl, ?_, ExtC.ext⟩
      have := hm.out
      rwa [List.take_length] at this
end Go.Proofs.Ytgaooafdalhdpaa
