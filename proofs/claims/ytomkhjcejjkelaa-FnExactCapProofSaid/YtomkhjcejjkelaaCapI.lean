/- The set of members with the greatest spare: impl.CapProof. -/
import Derived.Test.YtomkhjcejjkelaaSetK
import Derived.Test.YtomkhjcejjkelaaCapS
import Derived.Test.YtomkhjcejjkelaaEndsI
import Derived.Test.YtomkhjcejjkelaaCompare
namespace Go.Proofs.Ytomkhjcejjkelaa
open Go.RowKit


set_option maxHeartbeats 1000000 in
theorem impl_isLimit (v : Value) (r : Int) (L : List VD) (w : World) (h : VS w v L) (hs : Short L) (b : Bool) (hb : capB L r = b) : Calls Try.prog 33 #[v, .int .i64 r] w fun e w' => e = .returned (.bool b) ∧ Ext w w' := by
  have H1 := fun x (hx : Ext w x) => (impl_ValidVoices v L x (h.ext hx) hs).mono fun e w' (h : RetB (OkV L) e ∧ Ext x w') => (⟨h.1.told' (okB_iff rfl), h.2⟩ : e = .returned (.bool (okB L)) ∧ Ext x w')
  cases q1 : okB L
  · rw [q1] at H1
    have hbf : b = false := by rw [← hb]; exact (cap_no fun hh => by have := (okB_iff q1).2 hh.1; cases this).1
    subst hbf
    clear hb
    go_enter Try.func33, Try.ntmps33
    go_wp2_with (first | (go_at_call 45; (with_reducible refine (H1 _ ExtC.ext).mono ?_); rintro e w' ⟨rfl, hx⟩; obtain ⟨g, rfl⟩ := hx.grow; clear hx))
    go_ret
    exact ⟨rfl, ExtC.ext⟩
  rw [q1] at H1
  have hb2 : inB r 1 12 = b := by
    cases q2 : inB r 1 12
    · rw [← hb]; exact (cap_no fun hh => (inB_false.1 q2) hh.2).1.symm
    · rw [← hb]; exact (cap_yes ⟨(okB_iff q1).1 rfl, inB_true.1 q2⟩).1.symm
  clear hb
  have R := fun x => impl_within r 1 12 b hb2 x
  clear hb2
  go_enter Try.func33, Try.ntmps33
  go_wp2_with (first | (go_at_call 45; (with_reducible refine (H1 _ ExtC.ext).mono ?_); rintro e w' ⟨rfl, hx⟩; obtain ⟨g, rfl⟩ := hx.grow; clear hx) | (go_at_call 22; (with_reducible refine (R _).mono ?_); rintro e w' ⟨rfl, hx⟩; obtain ⟨g, rfl⟩ := hx.grow; clear hx))
  go_ret
  exact ⟨rfl, ExtC.ext⟩


set_option maxHeartbeats 16000000 in
set_option maxRecDepth 100000 in
theorem impl_CapProof' (v : Value) (lim : Int) (L : List VD) (w : World) (h : VS w v L) (hs : Short L) (b : Bool) (hb : capB L lim = b) (xs : List Int) (hxs : capX L lim = xs) :
    Calls Try.prog 15 #[v, .int .i64 lim] w fun e w' => ∃ v', e = .returned (.tuple #[v', .bool b]) ∧ OwnI w.heap.size w'.heap.size w' v' xs ∧ Ext w w' := by
  have H1 := fun x (hx : Ext w x) => impl_isLimit v lim L x (h.ext hx) hs b hb
  cases b
  · have HN := Lib.hid (show xs = [] by rw [← hxs]; exact (cap_no fun hh => by have := (cap_yes hh).1; rw [hb] at this; cases this).2)
    clear hb hxs
    go_enter Try.func15, Try.ntmps15
    go_wp2_with (first | (go_at_call 33; (with_reducible refine (H1 _ ExtC.ext).mono ?_); rintro e w' ⟨rfl, hx⟩; obtain ⟨g, rfl⟩ := hx.grow; clear hx))
    refine bodyPost_ret (v := .tuple #[.slice none 0 0, .bool false]) (by simp [results, Try.results15, go_sem]) rfl ?_
    exact ⟨_, rfl, .inl ⟨rfl, HN.out⟩, ExtC.ext⟩
  have hv : CV L lim := Classical.byContradiction fun hn => by have := (cap_no hn).1; rw [hb] at this; cases this
  obtain ⟨e1, e2⟩ := cap_yes hv
  rw [hb] at e1
  rw [hxs] at e2
  clear e1
  obtain ⟨E, hE⟩ : ∃ E, allE L L.length = E := ⟨_, rfl⟩
  obtain ⟨N, hN⟩ : ∃ N, L.length = N := ⟨_, rfl⟩
  obtain ⟨M, hM⟩ : ∃ M : Nat, 2 ^ N = M := ⟨_, rfl⟩
  have hn12 := hv.1.2
  rw [hN] at hn12
  have hM2 : M ≤ 4096 := by rw [← hM]; exact Nat.pow_le_pow_right (n := 2) (by decide) hn12.2
  have HM := Lib.hid hM
  have hsh : wrap64 (2 ^ N) = (M : Int) := by
    have e : (2 : Int) ^ N = (M : Int) := by rw [← hM]; simp
    rw [e]; unfold wrap64; omega
  have hl1 := hv.2.1
  have hl2 := hv.2.2
  have HEM := Lib.hid (show ∀ e ∈ E, ∀ x ∈ e, 0 ≤ x ∧ x < 12 by rw [← hE]; exact allE_mem hv.1)
  have HER := Lib.hid (show ∀ k (hk : k < E.length), E[k].length ≤ 12 by subst hE; exact allE_row hv.1)
  have HEL := Lib.hid (show E.length = N by rw [← hE, allE_length, hN])
  have HN := Lib.hid (show (capTo E lim M).1 = xs by rw [← hE, ← hM, ← hN]; exact e2.symm)
  have HA := fun x (hx : Ext w x) => impl_allEnds v L x (h.ext hx) hs hv.1 E hE
  obtain ⟨vb, vo, vc, rfl, -⟩ := h
  have HLN := Lib.hid hN
  clear hv hb hxs e2 hM hE
  rw [hN] at H1 HA ⊢
  clear hN
  go_enter Try.func15, Try.ntmps15
  go_wp2_with (first | (go_at_call 33; (with_reducible refine (H1 _ ExtC.ext).mono ?_); rintro e w' ⟨rfl, hx⟩; obtain ⟨g, rfl⟩ := hx.grow; clear hx))
  refine Calls.mono (HA _ ExtC.ext) ?_
  rintro e w' ⟨eg, ec, rfl, ho, hx⟩; obtain ⟨g1, rfl⟩ := hx.grow; clear hx HA H1
  have HE := Lib.hid ho.r; clear ho
  go_wp2_with fail
  try simp only [hsh]
  go_loopw [7, 8, 27] (fun o z i wr => ∃ (m bg bc : Nat) (B : List Int) (q : Int), m ≤ M ∧ i = .int .i64 m ∧ z = .int .i64 q ∧ o = .slice (some ⟨bg, 0, none⟩) B.length bc ∧ B.length ≤ 12 ∧ Ext g1.fin wr ∧ Hid (capTo E lim m = (B, q)) ∧ Hid (OwnI g1.fin.heap.size wr.heap.size wr (.slice (some ⟨bg, 0, none⟩) B.length bc) B)) (fun _ _ i _ => M - (intOf i).toNat)
  case atStart => exact ⟨0, _, _, [], 0, Nat.zero_le _, rfl, rfl, rfl, by simp, ExtC.ext, Lib.hid rfl, Lib.hid ((own_empty g1.fin g1.fin.heap.size (Nat.le_refl _)).mono (Nat.le_refl _) (by simp))⟩
  case round =>
    obtain ⟨m, bg, bc, B, q, hm, rfl, rfl, rfl, hB, hx, HCk, HO⟩ := hrel
    obtain ⟨g0, rfl⟩ := hx.grow; clear hx
    by_cases hlt : m < M
    · have hbe : bitsL m N = bitsL m 12 := bitsL_12 m N (by rw [HM.out]; exact hlt) (by omega)
      obtain ⟨S, hS⟩ : ∃ S, bitsL m 12 = S := ⟨_, rfl⟩
      rw [hS] at hbe
      have hS12 : S.length ≤ 12 := by rw [← hS]; exact bitsL_len _ _
      have HSR := Lib.hid (show ∀ k (h : k < S.length), 0 ≤ S[k] ∧ S[k] < E.length by rw [HEL.out]; subst hbe; exact fun k h => bitsL_at k h)
      obtain ⟨X, hX⟩ : ∃ X, spare E lim S = X := ⟨_, rfl⟩
      have HX := Lib.hid hX
      have HSE := Lib.hid hS
      have HST := Lib.hid (show ∀ y, (Beats S B X q → y = (S, X)) → (¬ Beats S B X q → y = (B, q)) → capTo E lim (m + 1) = y by
        intro y h1 h2
        rw [capTo, HCk.out, hS, hX]
        dsimp only
        split
        · rename_i h; exact (h1 h).symm
        · rename_i h; exact (h2 h).symm)
      have hXr := spare_range HEM.out hl1 hl2 hS12
      rw [hX] at hXr
      have RS := fun x => impl_setOfK m (by omega) x S hS
      clear hbe hS
      go_wp2_with (first | (go_at_call 35; (with_reducible refine (RS _).mono ?_); rintro e w' ⟨sg, sc, rfl, ho, hx⟩; obtain ⟨g2, rfl⟩ := hx.grow; clear hx; have HS := Lib.hid ho; clear ho RS))
      go_loopw [11, 34] (fun o i wr => ∃ (k r : Nat), k ≤ S.length ∧ i = .int .i64 k ∧ o = .int .i64 r ∧ r < 4096 ∧ Ext g2.fin wr ∧ Hid (r = orN 0 (endsOf E (S.take k)))) (fun _ i _ => S.length - (intOf i).toNat)
      case atStart => exact ⟨0, 0, Nat.zero_le _, rfl, rfl, by omega, ExtC.ext, Lib.hid (by simp [endsOf, orN])⟩
      case round =>
        obtain ⟨k, r, hk, rfl, rfl, hr, hx, HRk⟩ := hrel
        obtain ⟨g3, rfl⟩ := hx.grow; clear hx
        by_cases hkl : k < S.length
        · obtain ⟨isg, hsc⟩ := HS.out.cell0
          have d := hsc k hkl
          obtain ⟨s0, s1⟩ := HSR.out k hkl
          obtain ⟨x, hx⟩ : ∃ x, S[k] = x := ⟨_, rfl⟩
          rw [hx] at d s0 s1
          obtain ⟨xn, hxn⟩ := Int.eq_ofNat_of_zero_le s0
          subst hxn
          have hxl : xn < E.length := by omega
          obtain ⟨ieg, hce⟩ := rows_at HE.out (by omega)
          obtain ⟨t, d2, d3⟩ := hce xn hxl
          obtain ⟨tp, tc, rfl, -, hct⟩ := d3.form
          have hel := HER.out xn hxl
          have HSN := Lib.hid (show endsOf E (S.take (k + 1)) = endsOf E (S.take k) ++ E[xn] by rw [endsOf_snoc E S k hkl (by rw [hx]; simpa using hxl)]; simp [hx])
          have HRM := Lib.hid (HEM.out E[xn] (List.getElem_mem hxl))
          obtain ⟨R, hR⟩ : ∃ R, E[xn] = R := ⟨_, rfl⟩
          rw [hR] at d2 hct hel HRM HSN
          have HCT := Lib.hid hct
          clear d3 hce hct hx hsc hR
          go_wp2_with fail
          go_loopw [11, 43] (fun o i wr => ∃ (j r' : Nat), j ≤ R.length ∧ i = .int .i64 j ∧ o = .int .i64 r' ∧ r' < 4096 ∧ Ext g3.fin wr ∧ Hid (r' = orN r (R.take j))) (fun _ i _ => R.length - (intOf i).toNat)
          case atStart => exact ⟨0, r, Nat.zero_le _, rfl, rfl, hr, ExtC.ext, Lib.hid (by simp [orN])⟩
          case round =>
            obtain ⟨j, r', hj, rfl, rfl, hr', hx, HRj⟩ := hrel
            obtain ⟨g4, rfl⟩ := hx.grow; clear hx
            by_cases hjl : j < R.length
            · obtain ⟨tb, to, hp, itb, hcc⟩ := HCT.out (by omega)
              subst hp
              have d5 := hcc j hjl
              obtain ⟨y0, y1⟩ := HRM.out R[j] (List.getElem_mem hjl)
              have HST2 := Lib.hid (show orN r (R.take (j + 1)) = orN r (R.take j) ||| 2 ^ R[j].toNat by rw [List.take_succ_eq_append_getElem hjl]; unfold orN; rw [List.foldl_append]; rfl)
              obtain ⟨y, hy⟩ : ∃ y, R[j] = y := ⟨_, rfl⟩
              rw [hy] at d5 y0 y1 HST2
              obtain ⟨yn, hyn⟩ := Int.eq_ofNat_of_zero_le y0
              subst hyn
              rw [Int.toNat_natCast] at HST2
              obtain ⟨P, hP⟩ : ∃ P : Nat, 2 ^ yn = P := ⟨_, rfl⟩
              have hPl : P ≤ 2048 := by rw [← hP]; exact Nat.pow_le_pow_right (n := 2) (by decide) (show yn ≤ 11 by omega)
              have hs2 : wrap64 (2 ^ yn) = (P : Int) := by
                have e : (2 : Int) ^ yn = (P : Int) := by rw [← hP]; simp
                rw [e]; unfold wrap64; omega
              have hbo := bits_or_nat r' P (Nat.lt_of_lt_of_le hr' (by decide)) (Nat.lt_of_le_of_lt hPl (by decide))
              have hro : r' ||| P < 4096 := Nat.or_lt_two_pow (n := 12) hr' (Nat.lt_of_le_of_lt hPl (by decide))
              rw [hP] at HST2
              obtain ⟨ro, hro2⟩ : ∃ ro, r' ||| P = ro := ⟨_, rfl⟩
              rw [hro2] at hbo hro
              have HRO := Lib.hid hro2
              clear hcc hy hro2 hP
              go_wp2_with fail
              go_roundw
              case rel => exact ⟨j + 1, ro, by omega, by go_num, rfl, hro, ExtC.ext, Lib.hid (by rw [HST2.out, ← HRj.out, HRO.out])⟩
              case measure => simp [intOf]; omega
            · have e : j = R.length := by omega
              have HF := Lib.hid (show r' = orN 0 (endsOf E (S.take (k + 1))) by rw [HRj.out, HSN.out, e, List.take_length, HRk.out]; unfold orN; rw [List.foldl_append])
              go_wp2_with fail
              go_roundw
              case rel => exact ⟨k + 1, r', by omega, by go_num, rfl, hr', ExtC.ext, HF⟩
              case measure => simp [intOf]; omega
        · have e : k = S.length := by omega
          have HRF := Lib.hid (show bitsL r 12 = putL [] (endsOf E S) by rw [HRk.out, e, List.take_length]; exact or_put _ (endsOf_range HEM.out S))
          obtain ⟨D, hD⟩ : ∃ D, bitsL r 12 = D := ⟨_, rfl⟩
          have hD12 : D.length ≤ 12 := by rw [← hD]; exact bitsL_len _ _
          have hXD : (S.length : Int) - lim * (D.length : Int) = X := by rw [← hX, ← hD, HRF.out]; rfl
          have h1 : 0 ≤ lim * (D.length : Int) := Int.mul_nonneg (by omega) (by omega)
          have h2 : lim * (D.length : Int) ≤ 12 * 12 := Int.mul_le_mul hl2 (by omega) (by omega) (by omega)
          have RD := fun x => impl_setOfK r hr x D hD
          obtain ⟨z, hz⟩ : ∃ z, lim * (D.length : Int) = z := ⟨_, rfl⟩
          rw [hz] at h1 h2 hXD
          have hz2 : wrap64 (lim * (D.length : Int)) = z := by rw [hz]; unfold wrap64; omega
          clear hD hX e
          subst hXD
          have h6 : q < ((S.length : Int) - z) ∨ (((S.length : Int) - z) = q ∧ S.length < B.length) ∨ (((S.length : Int) - z) = q ∧ S.length = B.length ∧ cmpL S B < 0) ∨ ((S.length : Int) - z) < q ∨ (((S.length : Int) - z) = q ∧ B.length < S.length) ∨ (((S.length : Int) - z) = q ∧ S.length = B.length ∧ ¬ cmpL S B < 0) := by omega
          rcases h6 with hA | hA | hA | hA | hA | hA
          · have HBT := Lib.hid (show Beats S B ((S.length : Int) - z) q from Or.inl hA)
            have d1 : decide (q < ((S.length : Int) - z)) = true := decide_eq_true hA
            clear hA
            go_wp2_with (first | (go_at_call 35; (with_reducible refine (RD _).mono ?_); rintro e w' ⟨dg, dc, rfl, -, hx⟩; obtain ⟨g5, rfl⟩ := hx.grow; clear hx) | (go_at_call 36; (with_reducible refine (slices_Compare _ _ S B _ (IS.of_own (HS.out.ext ExtC.ext)) (IS.of_own (HO.out.ext ExtC.ext)) (by omega) (by omega)).mono ?_); rintro e w' ⟨rfl, hx⟩; obtain ⟨g8, rfl⟩ := hx.grow; clear hx))
            all_goals first | (exfalso; omega) | exact ⟨⟨m + 1, sg, sc, S, ((S.length : Int) - z), by omega, by go_num, rfl, rfl, hS12, ExtC.ext, Lib.hid (HST.out _ (fun _ => rfl) (fun h => absurd HBT.out h)), Lib.hid ((HS.out.ext ExtC.ext).mono (ExtC.ext : Ext g1.fin g0.fin).size (ExtC.ext : Ext g2.fin _).size)⟩, by simp [intOf]; omega⟩
          · have HBT := Lib.hid (show Beats S B ((S.length : Int) - z) q from Or.inr ⟨hA.1, Or.inl hA.2⟩)
            have d1 : decide (q < ((S.length : Int) - z)) = false := decide_eq_false (by omega)
            have d2 : (((S.length : Int) - z) == q) = true := by simp [hA.1]
            have d3 : decide ((S.length : Int) < (B.length : Int)) = true := decide_eq_true (by omega)
            have d6 : S.length < B.length := hA.2
            clear hA
            go_wp2_with (first | (go_at_call 35; (with_reducible refine (RD _).mono ?_); rintro e w' ⟨dg, dc, rfl, -, hx⟩; obtain ⟨g5, rfl⟩ := hx.grow; clear hx) | (go_at_call 36; (with_reducible refine (slices_Compare _ _ S B _ (IS.of_own (HS.out.ext ExtC.ext)) (IS.of_own (HO.out.ext ExtC.ext)) (by omega) (by omega)).mono ?_); rintro e w' ⟨rfl, hx⟩; obtain ⟨g8, rfl⟩ := hx.grow; clear hx))
            all_goals first | (exfalso; omega) | exact ⟨⟨m + 1, sg, sc, S, ((S.length : Int) - z), by omega, by go_num, rfl, rfl, hS12, ExtC.ext, Lib.hid (HST.out _ (fun _ => rfl) (fun h => absurd HBT.out h)), Lib.hid ((HS.out.ext ExtC.ext).mono (ExtC.ext : Ext g1.fin g0.fin).size (ExtC.ext : Ext g2.fin _).size)⟩, by simp [intOf]; omega⟩
          · have HBT := Lib.hid (show Beats S B ((S.length : Int) - z) q from Or.inr ⟨hA.1, Or.inr hA.2⟩)
            have d1 : decide (q < ((S.length : Int) - z)) = false := decide_eq_false (by omega)
            have d2 : (((S.length : Int) - z) == q) = true := by simp [hA.1]
            have d3 : decide ((S.length : Int) < (B.length : Int)) = false := decide_eq_false (by omega)
            have d4 : ((S.length : Int) == (B.length : Int)) = true := by simp [hA.2.1]
            have d6 : S.length ≤ B.length := by omega
            have d7 : B.length ≤ S.length := by omega
            have d5 : decide (cmpL S B < 0) = true := decide_eq_true hA.2.2
            clear hA
            go_wp2_with (first | (go_at_call 35; (with_reducible refine (RD _).mono ?_); rintro e w' ⟨dg, dc, rfl, -, hx⟩; obtain ⟨g5, rfl⟩ := hx.grow; clear hx) | (go_at_call 36; (with_reducible refine (slices_Compare _ _ S B _ (IS.of_own (HS.out.ext ExtC.ext)) (IS.of_own (HO.out.ext ExtC.ext)) (by omega) (by omega)).mono ?_); rintro e w' ⟨rfl, hx⟩; obtain ⟨g8, rfl⟩ := hx.grow; clear hx))
            all_goals first | (exfalso; omega) | exact ⟨⟨m + 1, sg, sc, S, ((S.length : Int) - z), by omega, by go_num, rfl, rfl, hS12, ExtC.ext, Lib.hid (HST.out _ (fun _ => rfl) (fun h => absurd HBT.out h)), Lib.hid ((HS.out.ext ExtC.ext).mono (ExtC.ext : Ext g1.fin g0.fin).size (ExtC.ext : Ext g2.fin _).size)⟩, by simp [intOf]; omega⟩
          · have HBT := Lib.hid (show ¬ Beats S B ((S.length : Int) - z) q from fun h => by unfold Beats at h; omega)
            have d1 : decide (q < ((S.length : Int) - z)) = false := decide_eq_false (by omega)
            have d2 : (((S.length : Int) - z) == q) = false := by simp; omega
            clear hA
            go_wp2_with (first | (go_at_call 35; (with_reducible refine (RD _).mono ?_); rintro e w' ⟨dg, dc, rfl, -, hx⟩; obtain ⟨g5, rfl⟩ := hx.grow; clear hx) | (go_at_call 36; (with_reducible refine (slices_Compare _ _ S B _ (IS.of_own (HS.out.ext ExtC.ext)) (IS.of_own (HO.out.ext ExtC.ext)) (by omega) (by omega)).mono ?_); rintro e w' ⟨rfl, hx⟩; obtain ⟨g8, rfl⟩ := hx.grow; clear hx))
            all_goals first | (exfalso; omega) | exact ⟨⟨m + 1, bg, bc, B, q, by omega, by go_num, rfl, rfl, hB, ExtC.ext, Lib.hid (HST.out _ (fun h => absurd h HBT.out) (fun _ => rfl)), Lib.hid ((HO.out.ext ExtC.ext).mono (Nat.le_refl _) (ExtC.ext : Ext g0.fin _).size)⟩, by simp [intOf]; omega⟩
          · have HBT := Lib.hid (show ¬ Beats S B ((S.length : Int) - z) q from fun h => by unfold Beats at h; omega)
            have d1 : decide (q < ((S.length : Int) - z)) = false := decide_eq_false (by omega)
            have d2 : (((S.length : Int) - z) == q) = true := by simp [hA.1]
            have d3 : decide ((S.length : Int) < (B.length : Int)) = false := decide_eq_false (by omega)
            have d4 : ((S.length : Int) == (B.length : Int)) = false := by simp; omega
            have d6 : B.length < S.length := hA.2
            clear hA
            go_wp2_with (first | (go_at_call 35; (with_reducible refine (RD _).mono ?_); rintro e w' ⟨dg, dc, rfl, -, hx⟩; obtain ⟨g5, rfl⟩ := hx.grow; clear hx) | (go_at_call 36; (with_reducible refine (slices_Compare _ _ S B _ (IS.of_own (HS.out.ext ExtC.ext)) (IS.of_own (HO.out.ext ExtC.ext)) (by omega) (by omega)).mono ?_); rintro e w' ⟨rfl, hx⟩; obtain ⟨g8, rfl⟩ := hx.grow; clear hx))
            all_goals first | (exfalso; omega) | exact ⟨⟨m + 1, bg, bc, B, q, by omega, by go_num, rfl, rfl, hB, ExtC.ext, Lib.hid (HST.out _ (fun h => absurd h HBT.out) (fun _ => rfl)), Lib.hid ((HO.out.ext ExtC.ext).mono (Nat.le_refl _) (ExtC.ext : Ext g0.fin _).size)⟩, by simp [intOf]; omega⟩
          · have HBT := Lib.hid (show ¬ Beats S B ((S.length : Int) - z) q from fun h => by unfold Beats at h; omega)
            have d1 : decide (q < ((S.length : Int) - z)) = false := decide_eq_false (by omega)
            have d2 : (((S.length : Int) - z) == q) = true := by simp [hA.1]
            have d3 : decide ((S.length : Int) < (B.length : Int)) = false := decide_eq_false (by omega)
            have d4 : ((S.length : Int) == (B.length : Int)) = true := by simp [hA.2.1]
            have d6 : S.length ≤ B.length := by omega
            have d7 : B.length ≤ S.length := by omega
            have d5 : decide (cmpL S B < 0) = false := decide_eq_false hA.2.2
            clear hA
            go_wp2_with (first | (go_at_call 35; (with_reducible refine (RD _).mono ?_); rintro e w' ⟨dg, dc, rfl, -, hx⟩; obtain ⟨g5, rfl⟩ := hx.grow; clear hx) | (go_at_call 36; (with_reducible refine (slices_Compare _ _ S B _ (IS.of_own (HS.out.ext ExtC.ext)) (IS.of_own (HO.out.ext ExtC.ext)) (by omega) (by omega)).mono ?_); rintro e w' ⟨rfl, hx⟩; obtain ⟨g8, rfl⟩ := hx.grow; clear hx))
            all_goals first | (exfalso; omega) | exact ⟨⟨m + 1, bg, bc, B, q, by omega, by go_num, rfl, rfl, hB, ExtC.ext, Lib.hid (HST.out _ (fun h => absurd h HBT.out) (fun _ => rfl)), Lib.hid ((HO.out.ext ExtC.ext).mono (Nat.le_refl _) (ExtC.ext : Ext g0.fin _).size)⟩, by simp [intOf]; omega⟩
    · have e : m = M := by omega
      have HF := Lib.hid (show B = xs by rw [← HN.out, ← e, HCk.out])
      go_wp2_with fail
      refine bodyPost_ret (v := .tuple #[.slice (some ⟨bg, 0, none⟩) B.length bc, .bool true]) (by simp [results, Try.results15, go_sem]) rfl ?_
      refine ⟨_, rfl, ?_, ExtC.ext⟩
      rw [← HF.out]
      exact HO.out.mono (ExtC.ext : Ext w g1.fin).size (Nat.le_refl _)
end Go.Proofs.Ytomkhjcejjkelaa
