/- Whether a number is in a list, and where: slices.Index, slices.Contains at []int64, and the reference's l00Has. -/
import Derived.Test.YthcomgnokkndgaaDoorSlice
import Derived.Test.YthcomgnokkndgaaDoorBasic
namespace Go.Proofs.YthcomgnokkndgaaDoor
open Go.RowKit

/-- Where x is in a list, -1 if it is not there. -/
def posOf : List Int → Int → Int
  | [], _ => -1
  | y :: ys, x => if y = x then 0 else if posOf ys x < 0 then -1 else posOf ys x + 1
theorem posOf_ge (xs : List Int) (x : Int) : -1 ≤ posOf xs x := by
  induction xs with
  | nil => simp [posOf]
  | cons y ys ih => unfold posOf; split <;> (try split) <;> omega
theorem posOf_at (xs : List Int) (x : Int) (k : Nat) (hk : k < xs.length) (h : xs[k] = x) (hn : ∀ j (hj : j < xs.length), j < k → xs[j] ≠ x) : posOf xs x = k := by
  induction xs generalizing k with
  | nil => simp at hk
  | cons y ys ih =>
    cases k with
    | zero => simp at h; simp [posOf, h]
    | succ k =>
      have h0 : y ≠ x := hn 0 (by simp) (by omega)
      have := ih k (by simpa using hk) (by simpa using h) (fun j hj hjk => hn (j + 1) (by simpa using hj) (by omega))
      rw [posOf, if_neg h0, if_neg (by omega)]; omega
theorem posOf_none (xs : List Int) (x : Int) (hn : ∀ j (hj : j < xs.length), xs[j] ≠ x) : posOf xs x = -1 := by
  induction xs with
  | nil => rfl
  | cons y ys ih =>
    have h0 : y ≠ x := hn 0 (by simp)
    have := ih (fun j hj => hn (j + 1) (by simpa using hj))
    rw [posOf, if_neg h0, if_pos (by omega)]
theorem posOf_mem (xs : List Int) (x : Int) : decide (0 ≤ posOf xs x) = decide (x ∈ xs) := by
  rw [Bool.eq_iff_iff, decide_eq_true_eq, decide_eq_true_eq]
  induction xs with
  | nil => simp [posOf]
  | cons y ys ih =>
    rw [posOf]
    by_cases h : y = x
    · simp [h]
    · have := posOf_ge ys x
      rw [if_neg h]
      simp only [List.mem_cons]
      split
      · rename_i h1
        constructor
        · intro h2; omega
        · rintro (h2 | h2)
          · exact absurd h2.symm h
          · have := ih.2 h2; omega
      · rename_i h1
        constructor
        · intro _; exact .inr (ih.1 (by omega))
        · intro _; omega
theorem posOf_lt (xs : List Int) (x : Int) : posOf xs x < xs.length := by
  induction xs with
  | nil => simp [posOf]
  | cons y ys ih => rw [posOf]; simp only [List.length_cons]; split <;> (try split) <;> omega

set_option maxHeartbeats 400000 in
theorem slices_Index (v : Value) (xs : List Int) (x : Int) (w : World) (h : RI w v xs) (hn : xs.length ≤ 1152921504606846976) :
    Calls Tryd.prog 92 #[v, .int .i64 x] w fun e w' => e = .returned (.int .i64 (posOf xs x)) ∧ Ext w w' := by
  obtain ⟨p, cap, rfl, -, hc⟩ := h.form
  clear h
  by_cases h0 : 0 < xs.length
  · obtain ⟨b, off, rfl, hb, c⟩ := hc h0
    have HC := Lib.hid c
    clear hc c
    go_enter Tryd.func92, Tryd.ntmps92
    go_wp2
    go_loopw [8] (fun i wr => ∃ k : Nat, k ≤ xs.length ∧ i = .int .i64 k ∧ Hid (∀ j (hj : j < xs.length), j < k → xs[j] ≠ x) ∧ Ext w wr) (fun i _ => xs.length - (intOf i).toNat)
    case atStart => exact ⟨0, Nat.zero_le _, rfl, Lib.hid fun j _ hj => by omega, Ext.refl _⟩
    case round =>
      obtain ⟨k, hk, rfl, hrel, hx⟩ := hrel
      obtain ⟨g0, rfl⟩ := hx.grow; clear hx
      by_cases hlt : k < xs.length
      · have d := HC.out k hlt
        by_cases he : xs[k] = x
        · have hq : (x == xs[k]) = true := by simp [he]
          have HE := Lib.hid he; clear he
          go_wp2
          go_ret
          exact ⟨ret_int (posOf_at xs x k hlt HE.out hrel.out).symm, ExtC.ext⟩
        · have hq : (x == xs[k]) = false := by simp; intro e; exact he e.symm
          have HE := Lib.hid he; clear he
          go_wp2
          go_roundw
          case rel =>
            refine ⟨k + 1, by omega, by go_num, Lib.hid fun j hj hjk => ?_, ExtC.ext⟩
            by_cases e : j = k
            · subst e; exact HE.out
            · exact hrel.out j hj (by omega)
          case measure => simp [intOf]; omega
      · go_wp2
        go_ret
        exact ⟨ret_int (posOf_none xs x fun j hj => hrel.out j hj (by omega)).symm, ExtC.ext⟩
  · have e1 : xs = [] := List.length_eq_zero_iff.1 (by omega)
    subst e1
    clear hc
    go_enter Tryd.func92, Tryd.ntmps92
    go_wp2
    refine wp_loop_rounds 1 ?_; rw [rounds_succ]
    go_wp2
    go_ret
    exact ⟨rfl, ExtC.ext⟩
set_option maxHeartbeats 400000 in
theorem slices_Contains (v : Value) (xs : List Int) (x : Int) (b : Bool) (hb : decide (x ∈ xs) = b) (w : World) (h : RI w v xs) (hn : xs.length ≤ 1152921504606846976) :
    Calls Tryd.prog 76 #[v, .int .i64 x] w fun e w' => e = .returned (.bool b) ∧ Ext w w' := by
  have hp := posOf_mem xs x
  rw [hb] at hp
  have HP := Lib.hid hp; clear hp
  go_enter Tryd.func76, Tryd.ntmps76
  go_wp2_with (first | (go_at_call 92; refine Calls.mono (slices_Index _ xs _ _ (h.ext ExtC.ext) hn) ?_; rintro e w' ⟨rfl, hx⟩; obtain ⟨g, rfl⟩ := hx.grow; clear hx))
  go_ret
  exact ⟨ret_bool HP.out, ExtC.ext⟩
set_option maxHeartbeats 400000 in
theorem spec_l00Has (v : Value) (xs : List Int) (x : Int) (b : Bool) (hb : decide (x ∈ xs) = b) (w : World) (h : RI w v xs) (hn : xs.length ≤ 1152921504606846976) :
    Calls Tryd.prog 75 #[v, .int .i64 x] w fun e w' => e = .returned (.bool b) ∧ Ext w w' := by
  obtain ⟨p, cap, rfl, -, hc⟩ := h.form
  clear h
  by_cases h0 : 0 < xs.length
  · obtain ⟨b1, off, rfl, hb1, c⟩ := hc h0
    have HC := Lib.hid c
    clear hc c
    have HB := Lib.hid hb; clear hb
    go_enter Tryd.func75, Tryd.ntmps75
    go_wp2
    go_loopw [5] (fun i wr => ∃ k : Nat, k ≤ xs.length ∧ i = .int .i64 k ∧ Hid (∀ j (hj : j < xs.length), j < k → xs[j] ≠ x) ∧ Ext w wr) (fun i _ => xs.length - (intOf i).toNat)
    case atStart => exact ⟨0, Nat.zero_le _, rfl, Lib.hid fun j _ hj => by omega, Ext.refl _⟩
    case round =>
      obtain ⟨k, hk, rfl, hrel, hx⟩ := hrel
      obtain ⟨g0, rfl⟩ := hx.grow; clear hx
      by_cases hlt : k < xs.length
      · have d := HC.out k hlt
        by_cases he : xs[k] = x
        · have hq : (xs[k] == x) = true := by simp [he]
          have HE := Lib.hid he; clear he
          go_wp2
          go_ret
          refine ⟨ret_bool ?_, ExtC.ext⟩
          rw [← HB.out]; symm; rw [decide_eq_true_eq, ← HE.out]; exact List.getElem_mem _
        · have hq : (xs[k] == x) = false := by simp [he]
          have HE := Lib.hid he; clear he
          go_wp2
          go_roundw
          case rel =>
            refine ⟨k + 1, by omega, by go_num, Lib.hid fun j hj hjk => ?_, ExtC.ext⟩
            by_cases e : j = k
            · subst e; exact HE.out
            · exact hrel.out j hj (by omega)
          case measure => simp [intOf]; omega
      · go_wp2
        go_ret
        refine ⟨ret_bool ?_, ExtC.ext⟩
        rw [← HB.out]; symm; rw [decide_eq_false_iff_not]; intro hm
        obtain ⟨j, hj, e⟩ := List.getElem_of_mem hm
        exact hrel.out j hj (by omega) e
  · have e1 : xs = [] := List.length_eq_zero_iff.1 (by omega)
    subst e1
    clear hc
    go_enter Tryd.func75, Tryd.ntmps75
    go_wp2
    refine wp_loop_rounds 1 ?_; rw [rounds_succ]
    go_wp2
    go_ret
    exact ⟨ret_bool (by rw [← hb]; rfl), ExtC.ext⟩
end Go.Proofs.YthcomgnokkndgaaDoor
