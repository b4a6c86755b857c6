/- The set of members with the greatest spare: spec.CapProof. -/
import Derived.Test.YtomkhjcejjkelaaSetK
import Derived.Test.YtomkhjcejjkelaaBetter
import Derived.Test.YtomkhjcejjkelaaVoice3
namespace Go.Proofs.Ytomkhjcejjkelaa
open Go.RowKit

def CV (L : List VD) (lim : Int) : Prop := OkV L ∧ 1 ≤ lim ∧ lim ≤ 12
open Classical in
noncomputable def capB (L : List VD) (lim : Int) : Bool := decide (CV L lim)
open Classical in
noncomputable def capX (L : List VD) (lim : Int) : List Int := if CV L lim then (capTo (allE L L.length) lim (2 ^ L.length)).1 else []
theorem cap_no {L : List VD} {lim : Int} (h : ¬ CV L lim) : capB L lim = false ∧ capX L lim = [] := by
  unfold capB capX
  rw [if_neg h]; simp [h]
theorem cap_yes {L : List VD} {lim : Int} (h : CV L lim) : capB L lim = true ∧ capX L lim = (capTo (allE L L.length) lim (2 ^ L.length)).1 := by
  unfold capB capX
  rw [if_pos h]; simp [h]
theorem capX_small {L : List VD} {lim : Int} : (capX L lim).length ≤ 12 := by
  unfold capX
  split
  · exact capTo_len _ _ _
  · simp
theorem allE_mem {L : List VD} (hok : OkV L) : ∀ e ∈ allE L L.length, ∀ x ∈ e, 0 ≤ x ∧ x < 12 := by
  intro e he x hx
  obtain ⟨i, -, rfl⟩ := List.mem_map.1 he
  have h := endsL_range hx
  have := hok.2
  exact ⟨h.1, by omega⟩
theorem allE_row {L : List VD} (hok : OkV L) (k : Nat) (hk : k < (allE L L.length).length) : (allE L L.length)[k].length ≤ 12 := by
  rw [allE_at]
  have h := endsL_length L (k : Int)
  have := hok.2
  omega
theorem bitsL_at {m n : Nat} (k : Nat) (h : k < (bitsL m n).length) : 0 ≤ (bitsL m n)[k] ∧ (bitsL m n)[k] < n := by
  have := (mem_bitsL m n _).1 (List.getElem_mem h)
  exact ⟨this.1, this.2.1⟩
theorem spare_range {E : List (List Int)} {lim : Int} {S : List Int} (hE : ∀ e ∈ E, ∀ x ∈ e, 0 ≤ x ∧ x < 12) (hl : 1 ≤ lim) (hl2 : lim ≤ 12) (hS : S.length ≤ 12) : -144 ≤ spare E lim S ∧ spare E lim S ≤ 12 := by
  have h12 := put_twelve _ (endsOf_range hE S)
  have h1 : 0 ≤ lim * ((putL [] (endsOf E S)).length : Int) := Int.mul_nonneg (by omega) (by omega)
  have h2 : lim * ((putL [] (endsOf E S)).length : Int) ≤ 12 * 12 := Int.mul_le_mul hl2 (by omega) (by omega) (by omega)
  unfold spare
  omega


theorem spec_l02Limit (r : Int) (b : Bool) (hb : inB r 1 12 = b) (w : World) : Calls Try.prog 27 #[.int .i64 r] w fun e w' => e = .returned (.bool b) ∧ Ext w w' := by
  have R := fun x => spec_l00In r 1 12 b hb x
  clear hb
  go_enter Try.func27, Try.ntmps27
  go_wp2_with (first | (go_at_call 21; (with_reducible refine (R _).mono ?_); rintro e w' ⟨rfl, hx⟩; obtain ⟨g, rfl⟩ := hx.grow; clear hx))
  go_ret
  exact ⟨rfl, ExtC.ext⟩


set_option maxHeartbeats 16000000 in
set_option maxRecDepth 100000 in
theorem spec_CapProof' (v : Value) (lim : Int) (L : List VD) (w : World) (h : VS w v L) (hs : Short L) (b : Bool) (hb : capB L lim = b) (xs : List Int) (hxs : capX L lim = xs) :
    Calls Try.prog 13 #[v, .int .i64 lim] w fun e w' => ∃ v', e = .returned (.tuple #[v', .bool b]) ∧ OwnI w.heap.size w'.heap.size w' v' xs ∧ Ext w w' := by
  have H1 := fun x (hx : Ext w x) => (spec_l02Ok v L x (h.ext hx) hs).mono fun e w' (h : RetB (OkV L) e ∧ Ext x w') => (⟨h.1.told' (okB_iff rfl), h.2⟩ : e = .returned (.bool (okB L)) ∧ Ext x w')
  cases q1 : okB L
  · rw [q1] at H1
    have HN := Lib.hid (show xs = [] by rw [← hxs]; exact (cap_no fun hh => by have := (okB_iff q1).2 hh.1; cases this).2)
    have hbf : b = false := by rw [← hb]; exact (cap_no fun hh => by have := (okB_iff q1).2 hh.1; cases this).1
    subst hbf
    clear hb hxs
    go_enter Try.func13, Try.ntmps13
    go_wp2_with (first | (go_at_call 26; (with_reducible refine (H1 _ ExtC.ext).mono ?_); rintro e w' ⟨rfl, hx⟩; obtain ⟨g, rfl⟩ := hx.grow; clear hx))
    refine bodyPost_ret (v := .tuple #[.slice none 0 0, .bool false]) (by simp [results, Try.results13, go_sem]) rfl ?_
    exact ⟨_, rfl, .inl ⟨rfl, HN.out⟩, ExtC.ext⟩
  rw [q1] at H1
  cases q2 : inB lim 1 12
  · have HN := Lib.hid (show xs = [] by rw [← hxs]; exact (cap_no fun hh => (inB_false.1 q2) hh.2).2)
    have hbf : b = false := by rw [← hb]; exact (cap_no fun hh => (inB_false.1 q2) hh.2).1
    have R2 := fun x => spec_l02Limit lim false q2 x
    subst hbf
    clear hb hxs q2
    go_enter Try.func13, Try.ntmps13
    go_wp2_with (first | (go_at_call 26; (with_reducible refine (H1 _ ExtC.ext).mono ?_); rintro e w' ⟨rfl, hx⟩; obtain ⟨g, rfl⟩ := hx.grow; clear hx) | (go_at_call 27; (with_reducible refine (R2 _).mono ?_); rintro e w' ⟨rfl, hx⟩; obtain ⟨g, rfl⟩ := hx.grow; clear hx))
    refine bodyPost_ret (v := .tuple #[.slice none 0 0, .bool false]) (by simp [results, Try.results13, go_sem]) rfl ?_
    exact ⟨_, rfl, .inl ⟨rfl, HN.out⟩, ExtC.ext⟩
  have R2 := fun x => spec_l02Limit lim true q2 x
  have hv : CV L lim := ⟨(okB_iff q1).1 rfl, inB_true.1 q2⟩
  clear q1 q2
  obtain ⟨e1, e2⟩ := cap_yes hv
  rw [hb] at e1
  rw [hxs] at e2
  subst e1
  obtain ⟨E, hE⟩ : ∃ E, allE L L.length = E := ⟨_, rfl⟩
  obtain ⟨N, hN⟩ : ∃ N, L.length = N := ⟨_, rfl⟩
  obtain ⟨M, hM⟩ : ∃ M : Nat, 2 ^ N = M := ⟨_, rfl⟩
  have hn12 := hv.1.2
  rw [hN] at hn12
  have hM2 : M ≤ 4096 := by rw [← hM]; exact Nat.pow_le_pow_right (n := 2) (by decide) hn12.2
  have HM := Lib.hid hM
  have hsh : wrap64 (2 ^ N) = (M : Int) := by
    have e : (2 : Int) ^ N = (M : Int) := by rw [← hM]; simp
    rw [e]; unfold wrap64; omega
  have hl1 := hv.2.1
  have hl2 := hv.2.2
  have HEM := Lib.hid (show ∀ e ∈ E, ∀ x ∈ e, 0 ≤ x ∧ x < 12 by rw [← hE]; exact allE_mem hv.1)
  have HER := Lib.hid (show ∀ k (hk : k < E.length), E[k].length ≤ 12 by subst hE; exact allE_row hv.1)
  have HEL := Lib.hid (show E.length = N by rw [← hE, allE_length, hN])
  have HN := Lib.hid (show (capTo E lim M).1 = xs by rw [← hE, ← hM, ← hN]; exact e2.symm)
  have HA := fun x (hx : Ext w x) => spec_l02AllEnds v L x (h.ext hx) hv.1 E hE
  obtain ⟨vb, vo, vc, rfl, -⟩ := h
  have HLN := Lib.hid hN
  clear hv hb hxs e2 hM hE
  rw [hN] at H1 HA ⊢
  clear hN
  go_enter Try.func13, Try.ntmps13
  go_wp2_with (first | (go_at_call 26; (with_reducible refine (H1 _ ExtC.ext).mono ?_); rintro e w' ⟨rfl, hx⟩; obtain ⟨g, rfl⟩ := hx.grow; clear hx) | (go_at_call 27; (with_reducible refine (R2 _).mono ?_); rintro e w' ⟨rfl, hx⟩; obtain ⟨g, rfl⟩ := hx.grow; clear hx))
  refine Calls.mono (HA _ ExtC.ext) ?_
  rintro e w' ⟨eg, ec, rfl, ho, hx⟩; obtain ⟨g1, rfl⟩ := hx.grow; clear hx HA H1 R2
  have HE := Lib.hid ho.r; clear ho
  go_wp2_with fail
  try simp only [hsh]
  go_loopw [8, 9, 10] (fun o z i wr => ∃ (m bg bc : Nat) (B : List Int) (q : Int), m ≤ M ∧ i = .int .i64 m ∧ z = .int .i64 q ∧ o = .slice (some ⟨bg, 0, none⟩) B.length bc ∧ B.length ≤ 12 ∧ Ext g1.fin wr ∧ Hid (capTo E lim m = (B, q)) ∧ Hid (OwnI g1.fin.heap.size wr.heap.size wr (.slice (some ⟨bg, 0, none⟩) B.length bc) B)) (fun _ _ i _ => M - (intOf i).toNat)
  case atStart => exact ⟨0, _, _, [], 0, Nat.zero_le _, rfl, rfl, rfl, by simp, ExtC.ext, Lib.hid rfl, Lib.hid ((own_empty g1.fin g1.fin.heap.size (Nat.le_refl _)).mono (Nat.le_refl _) (by simp))⟩
  case round =>
    obtain ⟨m, bg, bc, B, q, hm, rfl, rfl, rfl, hB, hx, HCk, HO⟩ := hrel
    obtain ⟨g0, rfl⟩ := hx.grow; clear hx
    by_cases hlt : m < M
    · have hbe : bitsL m N = bitsL m 12 := bitsL_12 m N (by rw [HM.out]; exact hlt) (by omega)
      obtain ⟨S, hS⟩ : ∃ S, bitsL m 12 = S := ⟨_, rfl⟩
      rw [hS] at hbe
      have hS12 : S.length ≤ 12 := by rw [← hS]; exact bitsL_len _ _
      have HSR := Lib.hid (show ∀ k (h : k < S.length), 0 ≤ S[k] ∧ S[k] < E.length by rw [HEL.out]; subst hbe; exact fun k h => bitsL_at k h)
      obtain ⟨X, hX⟩ : ∃ X, spare E lim S = X := ⟨_, rfl⟩
      have HX := Lib.hid hX
      have HSE := Lib.hid hS
      have HST := Lib.hid (show ∀ y, (Beats S B X q → y = (S, X)) → (¬ Beats S B X q → y = (B, q)) → capTo E lim (m + 1) = y by
        intro y h1 h2
        rw [capTo, HCk.out, hS, hX]
        dsimp only
        split
        · rename_i h; exact (h1 h).symm
        · rename_i h; exact (h2 h).symm)
      have hXr := spare_range HEM.out hl1 hl2 hS12
      rw [hX] at hXr
      have RS := fun x => spec_l02Set m N (by omega) hn12.2 x S hbe
      have RP := fun sg sc x (hx : Ext g1.fin x) (hi : IS x (.slice (some ⟨sg, 0, none⟩) S.length sc) S) => spec_l02Spare eg ec sg sc lim E S x (HE.out.ext hx) hi HEM.out hS12 HSR.out HER.out hl1 hl2 X hX
      clear hbe hS hX
      have h6 : q < X ∨ (X = q ∧ S.length < B.length) ∨ (X = q ∧ S.length = B.length ∧ cmpL S B < 0) ∨ X < q ∨ (X = q ∧ B.length < S.length) ∨ (X = q ∧ S.length = B.length ∧ ¬ cmpL S B < 0) := by omega
      rcases h6 with hA | hA | hA | hA | hA | hA
      · have HBT := Lib.hid (show Beats S B X q from Or.inl hA)
        have d1 : decide (q < X) = true := decide_eq_true hA
        clear hA
        go_wp2_with (first | (go_at_call 29; (with_reducible refine (RS _).mono ?_); rintro e w' ⟨sg, sc, rfl, ho, hx⟩; obtain ⟨g2, rfl⟩ := hx.grow; clear hx; have HS := Lib.hid ho; clear ho) | (go_at_call 30; (with_reducible refine (RP sg sc _ ExtC.ext (IS.of_own (HS.out.ext ExtC.ext))).mono ?_); rintro e w' ⟨rfl, hx⟩; obtain ⟨g7, rfl⟩ := hx.grow; clear hx) | (go_at_call 31; (with_reducible refine (spec_l02Less _ _ S B _ (IS.of_own (HS.out.ext ExtC.ext)) (IS.of_own (HO.out.ext ExtC.ext)) (by omega) (by omega)).mono ?_); rintro e w' ⟨rfl, hx⟩; obtain ⟨g8, rfl⟩ := hx.grow; clear hx))
        all_goals first | (exfalso; omega) | exact ⟨⟨m + 1, sg, sc, S, X, by omega, by go_num, rfl, rfl, hS12, ExtC.ext, Lib.hid (HST.out _ (fun _ => rfl) (fun h => absurd HBT.out h)), Lib.hid ((HS.out.ext ExtC.ext).mono (ExtC.ext : Ext g1.fin g0.fin).size (ExtC.ext : Ext g2.fin _).size)⟩, by simp [intOf]; omega⟩
      · have HBT := Lib.hid (show Beats S B X q from Or.inr ⟨hA.1, Or.inl hA.2⟩)
        have d1 : decide (q < X) = false := decide_eq_false (by omega)
        have d2 : (X == q) = true := by simp [hA.1]
        have d3 : decide ((S.length : Int) < (B.length : Int)) = true := decide_eq_true (by omega)
        have d6 : S.length < B.length := hA.2
        clear hA
        go_wp2_with (first | (go_at_call 29; (with_reducible refine (RS _).mono ?_); rintro e w' ⟨sg, sc, rfl, ho, hx⟩; obtain ⟨g2, rfl⟩ := hx.grow; clear hx; have HS := Lib.hid ho; clear ho) | (go_at_call 30; (with_reducible refine (RP sg sc _ ExtC.ext (IS.of_own (HS.out.ext ExtC.ext))).mono ?_); rintro e w' ⟨rfl, hx⟩; obtain ⟨g7, rfl⟩ := hx.grow; clear hx) | (go_at_call 31; (with_reducible refine (spec_l02Less _ _ S B _ (IS.of_own (HS.out.ext ExtC.ext)) (IS.of_own (HO.out.ext ExtC.ext)) (by omega) (by omega)).mono ?_); rintro e w' ⟨rfl, hx⟩; obtain ⟨g8, rfl⟩ := hx.grow; clear hx))
        all_goals first | (exfalso; omega) | exact ⟨⟨m + 1, sg, sc, S, X, by omega, by go_num, rfl, rfl, hS12, ExtC.ext, Lib.hid (HST.out _ (fun _ => rfl) (fun h => absurd HBT.out h)), Lib.hid ((HS.out.ext ExtC.ext).mono (ExtC.ext : Ext g1.fin g0.fin).size (ExtC.ext : Ext g2.fin _).size)⟩, by simp [intOf]; omega⟩
      · have HBT := Lib.hid (show Beats S B X q from Or.inr ⟨hA.1, Or.inr hA.2⟩)
        have d1 : decide (q < X) = false := decide_eq_false (by omega)
        have d2 : (X == q) = true := by simp [hA.1]
        have d3 : decide ((S.length : Int) < (B.length : Int)) = false := decide_eq_false (by omega)
        have d4 : ((S.length : Int) == (B.length : Int)) = true := by simp [hA.2.1]
        have d6 : S.length ≤ B.length := by omega
        have d7 : B.length ≤ S.length := by omega
        have d5 : decide (cmpL S B < 0) = true := decide_eq_true hA.2.2
        clear hA
        go_wp2_with (first | (go_at_call 29; (with_reducible refine (RS _).mono ?_); rintro e w' ⟨sg, sc, rfl, ho, hx⟩; obtain ⟨g2, rfl⟩ := hx.grow; clear hx; have HS := Lib.hid ho; clear ho) | (go_at_call 30; (with_reducible refine (RP sg sc _ ExtC.ext (IS.of_own (HS.out.ext ExtC.ext))).mono ?_); rintro e w' ⟨rfl, hx⟩; obtain ⟨g7, rfl⟩ := hx.grow; clear hx) | (go_at_call 31; (with_reducible refine (spec_l02Less _ _ S B _ (IS.of_own (HS.out.ext ExtC.ext)) (IS.of_own (HO.out.ext ExtC.ext)) (by omega) (by omega)).mono ?_); rintro e w' ⟨rfl, hx⟩; obtain ⟨g8, rfl⟩ := hx.grow; clear hx))
        all_goals first | (exfalso; omega) | exact ⟨⟨m + 1, sg, sc, S, X, by omega, by go_num, rfl, rfl, hS12, ExtC.ext, Lib.hid (HST.out _ (fun _ => rfl) (fun h => absurd HBT.out h)), Lib.hid ((HS.out.ext ExtC.ext).mono (ExtC.ext : Ext g1.fin g0.fin).size (ExtC.ext : Ext g2.fin _).size)⟩, by simp [intOf]; omega⟩
      · have HBT := Lib.hid (show ¬ Beats S B X q from fun h => by unfold Beats at h; omega)
        have d1 : decide (q < X) = false := decide_eq_false (by omega)
        have d2 : (X == q) = false := by simp; omega
        clear hA
        go_wp2_with (first | (go_at_call 29; (with_reducible refine (RS _).mono ?_); rintro e w' ⟨sg, sc, rfl, ho, hx⟩; obtain ⟨g2, rfl⟩ := hx.grow; clear hx; have HS := Lib.hid ho; clear ho) | (go_at_call 30; (with_reducible refine (RP sg sc _ ExtC.ext (IS.of_own (HS.out.ext ExtC.ext))).mono ?_); rintro e w' ⟨rfl, hx⟩; obtain ⟨g7, rfl⟩ := hx.grow; clear hx) | (go_at_call 31; (with_reducible refine (spec_l02Less _ _ S B _ (IS.of_own (HS.out.ext ExtC.ext)) (IS.of_own (HO.out.ext ExtC.ext)) (by omega) (by omega)).mono ?_); rintro e w' ⟨rfl, hx⟩; obtain ⟨g8, rfl⟩ := hx.grow; clear hx))
        all_goals first | (exfalso; omega) | exact ⟨⟨m + 1, bg, bc, B, q, by omega, by go_num, rfl, rfl, hB, ExtC.ext, Lib.hid (HST.out _ (fun h => absurd h HBT.out) (fun _ => rfl)), Lib.hid ((HO.out.ext ExtC.ext).mono (Nat.le_refl _) (ExtC.ext : Ext g0.fin _).size)⟩, by simp [intOf]; omega⟩
      · have HBT := Lib.hid (show ¬ Beats S B X q from fun h => by unfold Beats at h; omega)
        have d1 : decide (q < X) = false := decide_eq_false (by omega)
        have d2 : (X == q) = true := by simp [hA.1]
        have d3 : decide ((S.length : Int) < (B.length : Int)) = false := decide_eq_false (by omega)
        have d4 : ((S.length : Int) == (B.length : Int)) = false := by simp; omega
        have d6 : B.length < S.length := hA.2
        clear hA
        go_wp2_with (first | (go_at_call 29; (with_reducible refine (RS _).mono ?_); rintro e w' ⟨sg, sc, rfl, ho, hx⟩; obtain ⟨g2, rfl⟩ := hx.grow; clear hx; have HS := Lib.hid ho; clear ho) | (go_at_call 30; (with_reducible refine (RP sg sc _ ExtC.ext (IS.of_own (HS.out.ext ExtC.ext))).mono ?_); rintro e w' ⟨rfl, hx⟩; obtain ⟨g7, rfl⟩ := hx.grow; clear hx) | (go_at_call 31; (with_reducible refine (spec_l02Less _ _ S B _ (IS.of_own (HS.out.ext ExtC.ext)) (IS.of_own (HO.out.ext ExtC.ext)) (by omega) (by omega)).mono ?_); rintro e w' ⟨rfl, hx⟩; obtain ⟨g8, rfl⟩ := hx.grow; clear hx))
        all_goals first | (exfalso; omega) | exact ⟨⟨m + 1, bg, bc, B, q, by omega, by go_num, rfl, rfl, hB, ExtC.ext, Lib.hid (HST.out _ (fun h => absurd h HBT.out) (fun _ => rfl)), Lib.hid ((HO.out.ext ExtC.ext).mono (Nat.le_refl _) (ExtC.ext : Ext g0.fin _).size)⟩, by simp [intOf]; omega⟩
      · have HBT := Lib.hid (show ¬ Beats S B X q from fun h => by unfold Beats at h; omega)
        have d1 : decide (q < X) = false := decide_eq_false (by omega)
        have d2 : (X == q) = true := by simp [hA.1]
        have d3 : decide ((S.length : Int) < (B.length : Int)) = false := decide_eq_false (by omega)
        have d4 : ((S.length : Int) == (B.length : Int)) = true := by simp [hA.2.1]
        have d6 : S.length ≤ B.length := by omega
        have d7 : B.length ≤ S.length := by omega
        have d5 : decide (cmpL S B < 0) = false := decide_eq_false hA.2.2
        clear hA
        go_wp2_with (first | (go_at_call 29; (with_reducible refine (RS _).mono ?_); rintro e w' ⟨sg, sc, rfl, ho, hx⟩; obtain ⟨g2, rfl⟩ := hx.grow; clear hx; have HS := Lib.hid ho; clear ho) | (go_at_call 30; (with_reducible refine (RP sg sc _ ExtC.ext (IS.of_own (HS.out.ext ExtC.ext))).mono ?_); rintro e w' ⟨rfl, hx⟩; obtain ⟨g7, rfl⟩ := hx.grow; clear hx) | (go_at_call 31; (with_reducible refine (spec_l02Less _ _ S B _ (IS.of_own (HS.out.ext ExtC.ext)) (IS.of_own (HO.out.ext ExtC.ext)) (by omega) (by omega)).mono ?_); rintro e w' ⟨rfl, hx⟩; obtain ⟨g8, rfl⟩ := hx.grow; clear hx))
        all_goals first | (exfalso; omega) | exact ⟨⟨m + 1, bg, bc, B, q, by omega, by go_num, rfl, rfl, hB, ExtC.ext, Lib.hid (HST.out _ (fun h => absurd h HBT.out) (fun _ => rfl)), Lib.hid ((HO.out.ext ExtC.ext).mono (Nat.le_refl _) (ExtC.ext : Ext g0.fin _).size)⟩, by simp [intOf]; omega⟩
    · have e : m = M := by omega
      have HF := Lib.hid (show B = xs by rw [← HN.out, ← e, HCk.out])
      go_wp2_with fail
      refine bodyPost_ret (v := .tuple #[.slice (some ⟨bg, 0, none⟩) B.length bc, .bool true]) (by simp [results, Try.results13, go_sem]) rfl ?_
      refine ⟨_, rfl, ?_, ExtC.ext⟩
      rw [← HF.out]
      exact HO.out.mono (ExtC.ext : Ext w g1.fin).size (Nat.le_refl _)
end Go.Proofs.Ytomkhjcejjkelaa
