/- All teams by succession: spec.l04First, spec.l04Teams. -/
import Derived.Test.YtoedphgoaifojaaShort
import Derived.Test.YtoedphgoaifojaaTeams
import Derived.Test.YtoedphgoaifojaaAppR
import Derived.Test.YtoedphgoaifojaaCells
namespace Go.Proofs.Ytoedphgoaifojaa
open Go.RowKit

theorem firstN_len (n : Nat) : (firstN n).length = n := by simp [firstN]
theorem firstN_succ (n : Nat) : firstN (n + 1) = firstN n ++ [(n : Int)] := by simp [firstN, List.range_succ]
def slenP : Value → Nat
  | .slice _ n _ => n
  | _ => 0

set_option maxHeartbeats 4000000 in
theorem spec_l04First (n : Nat) (hn : n ≤ 7) (w : World) :
    Calls Try.prog 104 #[.int .i64 (n : Int)] w fun e w' => ∃ g c, e = .returned (.slice (some ⟨g, 0, none⟩) n c) ∧ OwnI w.heap.size w'.heap.size w' (.slice (some ⟨g, 0, none⟩) n c) (firstN n) ∧ Ext w w' := by
  go_enter Try.func104, Try.ntmps104
  go_wp2_with fail
  have H00 := Lib.hid (own_empty w w.heap.size (Nat.le_refl _))
  go_loopw [3, 4] (fun o i wr => ∃ (k og oc : Nat), k ≤ n ∧ i = .int .i64 k ∧ o = .slice (some ⟨og, 0, none⟩) k oc ∧ Ext w wr ∧ Hid (OwnI w.heap.size wr.heap.size wr (.slice (some ⟨og, 0, none⟩) k oc) (firstN k))) (fun _ i _ => n - (intOf i).toNat)
  case atStart => exact ⟨0, _, _, Nat.zero_le _, rfl, rfl, ExtC.ext, Lib.hid (by have := H00.out; simp only [World.size_alloc] at this ⊢; exact this)⟩
  case round =>
    obtain ⟨k, og, oc, hk, rfl, rfl, hx, HO⟩ := hrel
    obtain ⟨g0, rfl⟩ := hx.grow; clear hx
    by_cases hlt : k < n
    · go_wp2_with (first | (at_builtin; refine app_int (w0 := w) (lo := w.heap.size) (hi := g0.fin.heap.size) _ _ (.slice (some ⟨og, 0, none⟩) k oc) (firstN k) ⟨g0.fin.heap.size, 0, none⟩ 1 [(k : Int)] rfl rfl rfl (HO.out.ext ExtC.ext) rfl (cells_one _ _ _) (by rw [firstN_len]; simp only [List.length_cons, List.length_nil]; omega) ExtC.ext (Nat.le_refl _) (by have := (ExtC.ext : Ext w g0.fin).size; simp only [World.size_alloc]; omega) (by simp) ?_; intro g' c' w' ho hx; obtain ⟨g3, rfl⟩ := hx.grow; clear hx; have HO2 := Lib.hid ho; clear ho))
      go_roundw
      case rel => exact ⟨k + 1, g', c', by omega, by go_num, by rw [firstN_len], ExtC.ext, Lib.hid (by have := HO2.out; rw [List.length_append, firstN_len, ← firstN_succ] at this; exact this)⟩
      case measure => simp [intOf]; omega
    · have e : k = n := by omega
      subst e
      go_wp2
      refine bodyPost_ret (v := .slice (some ⟨og, 0, none⟩) k oc) (by simp [results, Try.results104, go_sem]) rfl ?_
      exact ⟨_, _, rfl, HO.out, ExtC.ext⟩

theorem atOf_zero (n k : Nat) (now : List Int) : atOf n k now 0 = 0 := rfl
theorem atOf_down {n k : Nat} {now : List Int} {a : Nat} (h : now.getD a 0 = (n : Int) - k + a) : atOf n k now (a + 1) = atOf n k now a := by rw [atOf, if_pos h]
theorem atOf_stop {n k : Nat} {now : List Int} {a : Nat} (h : now.getD a 0 ≠ (n : Int) - k + a) : atOf n k now (a + 1) = a + 1 := by rw [atOf, if_neg h]
theorem next_step (now : List Int) (b j : Nat) : now.take b ++ ((List.range j).map fun i : Nat => now.getD b 0 + 1 + (i : Int)) ++ [now.getD b 0 + 1 + (j : Int)] = now.take b ++ (List.range (j + 1)).map fun i : Nat => now.getD b 0 + 1 + (i : Int) := by
  rw [List.range_succ, List.map_append, List.append_assoc]; rfl

set_option maxHeartbeats 8000000 in
set_option maxRecDepth 100000 in
theorem spec_l04Teams (bx n k : Nat) (qv : Value) (w : World) (hb : BxP bx n k qv w) (h1 : 1 ≤ k) (h2 : k ≤ n) (h3 : n ≤ 7) (T : List (List Int)) (hT : teams n k = T) :
    Calls Try.prog 79 #[.pointer (some ⟨bx, 0, none⟩)] w fun e w' => ∃ g c, e = .returned (.slice (some ⟨g, 0, none⟩) T.length c) ∧ OwnR intKind 33 w.heap.size w'.heap.size w' (.slice (some ⟨g, 0, none⟩) T.length c) T ∧ Ext w w' := by
  have HF : Hid (TeamsF n k) := Lib.hid (teamsF n k h1 h2 h3)
  have HT := Lib.hid hT
  have hT0 : 0 < T.length ∧ T.length ≤ 35 := by rw [← hT]; have := HF.out; exact ⟨this.least, this.most⟩
  have hT1 : T.getD 0 [] = firstN k := by rw [← hT]; exact HF.out.first
  have HT1 := Lib.hid hT1
  have hbl := hb.inw.lt
  have HBX := Lib.hid hb
  obtain ⟨ib, b0, b1, b2⟩ := hb
  clear hT hT1
  have HE := Lib.hid (own_rows_empty w w.heap.size (Nat.le_refl _))
  go_enter Try.func79, Try.ntmps79
  go_wp2_with (first | (go_at_call 104; (with_reducible refine (spec_l04First k (by omega) _).mono ?_); rintro e w' ⟨ng, nc, rfl, ho, hx⟩; obtain ⟨g1, rfl⟩ := hx.grow; clear hx; have HN := Lib.hid ho; clear ho))
  go_loopw [3, 4] (fun o v wr => ∃ (i og oc ng nc mid : Nat), i < T.length ∧ o = .slice (some ⟨og, 0, none⟩) i oc ∧ v = .slice (some ⟨ng, 0, none⟩) k nc ∧ w.heap.size ≤ mid ∧ mid ≤ wr.heap.size ∧ Ext w wr ∧ Hid (OwnR intKind 33 w.heap.size mid wr (.slice (some ⟨og, 0, none⟩) i oc) (T.take i)) ∧ Hid (OwnI mid wr.heap.size wr (.slice (some ⟨ng, 0, none⟩) k nc) (T.getD i []))) (fun o _ _ => T.length - slenP o)
  case atStart =>
    refine ⟨0, _, _, _, _, w.heap.size + 1, hT0.1, rfl, rfl, by omega, ?_, ExtC.ext, Lib.hid ((HE.out.ext ExtC.ext).mono (Nat.le_refl _) (by simp)), Lib.hid ?_⟩
    · have := (ExtC.ext : Ext (w.alloc (.cells #[] 33)) g1.fin).size
      simpa using this
    · rw [HT1.out]; have := HN.out; simp only [World.size_alloc] at this; exact this
  case round =>
    clear HN HE
    obtain ⟨i, og, oc, ng, nc, mid, hi, rfl, rfl, hm0, hm1, hx, HO, HN⟩ := hrel
    obtain ⟨g0, rfl⟩ := hx.grow; clear hx
    obtain ⟨now, hnow⟩ : ∃ now, T.getD i [] = now := ⟨_, rfl⟩
    rw [hnow] at HN
    have hmem : now ∈ T := by rw [← hnow]; simp [hi]
    have hteam := HF.out.team now (by rw [HT.out]; exact hmem)
    have hsucc := HF.out.succ i (by rw [HT.out]; exact hi)
    rw [HT.out, hnow] at hsucc
    have HS := Lib.hid (And.intro hsucc (And.intro hteam hnow))
    clear hsucc hteam hnow hmem
    have z1 : IntKind.i64.wrap ((k : Int) - 1) = (k : Int) - 1 := IntWalk.i64_in _ (by omega)
    go_wp2_with (first | (at_builtin; refine app_row2 (lo := w.heap.size) (mid := mid) (hi := g0.fin.heap.size) _ _ og oc i (T.take i) ⟨g0.fin.heap.size, 0, none⟩ 1 (.slice (some ⟨ng, 0, none⟩) k nc) now rfl rfl (by simp; omega) rfl (HO.out.ext ExtC.ext) rfl (cell_new _ _ _) rfl (HN.out.ext ExtC.ext) hm0 (by simp) (by simp; omega) (by simp; omega) ?_; intro g' c' w' ho hr hg; obtain ⟨g3, rfl⟩ := (Ext.rng (ExtC.ext : Ext w (g0.fin.alloc (.cells #[.slice (some ⟨ng, 0, none⟩) k nc] 33))) hr (by have := HO.out.at0; omega)).grow; have HN2 := Lib.hid (((HN.out.ext (ExtC.ext : Ext g0.fin (g0.fin.alloc (.cells #[.slice (some ⟨ng, 0, none⟩) k nc] 33)))).rng hr (.inr (by have := HO.out.at0; omega))).ri); have HO2 := Lib.hid ho; clear ho hr))
    have hnl : now.length = k := HS.out.2.1.1
    have hn2 := HN2.out
    rw [← hnl] at hn2
    obtain ⟨nb, no, ncap, hne, hlc, hnb, hnx⟩ := hn2.is (by omega)
    simp only [Value.slice.injEq, Option.some.injEq, Addr.mk.injEq, and_true, true_and] at hne
    obtain ⟨⟨rfl, rfl⟩, rfl⟩ := hne
    have HNX := Lib.hid hnx
    have HNR := Lib.hid hn2
    clear hn2 hnx HN2
    have hcell : ∀ b, b < k → g3.fin.cell? ⟨ng, b, none⟩ = some (.int .i64 (now.getD b 0)) ∧ 0 ≤ now.getD b 0 ∧ now.getD b 0 ≤ 6 := fun b hb => by
      have e : now.getD b 0 = now[b]'(by omega) := by simp [show b < now.length by omega]
      have := HNX.out b (by omega)
      rw [Nat.zero_add] at this
      have h5 := (HS.out.2.1.2 b (by omega)).1
      rw [e]
      exact ⟨this, by omega, by omega⟩
    have HC := Lib.hid hcell; clear hcell
    go_loopw [5] (fun v wr => ∃ a : Nat, a ≤ k ∧ v = .int .i64 ((a : Int) - 1) ∧ Ext g3.fin wr ∧ Hid (atOf n k now a = atOf n k now k)) (fun v _ => ((intOf v) + 1).toNat)
    case atStart => exact ⟨k, Nat.le_refl _, rfl, Ext.refl _, Lib.hid rfl⟩
    case round =>
      obtain ⟨a, ha, rfl, hx, HA⟩ := hrel
      obtain ⟨g4, rfl⟩ := hx.grow; clear hx
      rcases a with _ | b
      · have hsn : T[i + 1]? = none := by
          rw [← HS.out.1]; unfold succT; rw [← HA.out]; rfl
        have hil : i + 1 = T.length := by have := List.getElem?_eq_none_iff.1 hsn; omega
        clear hsn
        go_wp2_with fail
        refine wp_region_grow (by kernel_rfl) (by kernel_rfl) ?_
        repeat (go_big_quiet_step ((fail)))
        refine wpQuiet_nil ?_
        intro _ hw'
        obtain ⟨g, hw''⟩ := hw'
        subst hw''
        go_wp2_with fail
        refine bodyPost_ret (v := .slice (some ⟨g', 0, none⟩) (i + 1) c') (by simp [results, Try.results79, go_sem]) rfl ?_
        have hTT : T.take i ++ [now] = T := by
          have e : T.take (i + 1) = T.take i ++ [now] := by
            rw [List.take_succ_eq_append_getElem hi]
            have := HS.out.2.2
            simp [hi] at this
            rw [this]
          rw [← e, hil, List.take_length]
        have ho := HO2.out
        rw [hTT] at ho
        rw [← hil]
        exact ⟨_, _, rfl, (ho.ext ExtC.ext).mono (Nat.le_refl _) (ExtC.ext : Ext g3.fin _).size, ExtC.ext⟩
      · obtain ⟨c1, c2, c3⟩ := HC.out b (by omega)
        obtain ⟨y, hy⟩ : ∃ y, now.getD b 0 = y := ⟨_, rfl⟩
        rw [hy] at c1 c2 c3
        have HY := Lib.hid hy; clear hy
        rw [show (((b + 1 : Nat) : Int) - 1) = (b : Int) by omega]
        have z2 : IntKind.i64.wrap ((n : Int) - k) = (n : Int) - k := IntWalk.i64_in _ (by omega)
        have z3 : IntKind.i64.wrap ((n : Int) - k + b) = (n : Int) - k + b := IntWalk.i64_in _ (by omega)
        have z4 : IntKind.i64.wrap ((b : Int) - 1) = (b : Int) - 1 := IntWalk.i64_in _ (by omega)
        have z5 : (b : Int) < k := by omega
        have z6 : (0 : Int) ≤ b := by omega
        by_cases hd : y = (n : Int) - k + b
        · have e1 : (y == (n : Int) - k + b) = true := by simp [hd]
          have hst := atOf_down (n := n) (k := k) (now := now) (a := b) (by rw [HY.out]; exact hd)
          have HD := Lib.hid hst; clear hst hd
          go_wp2_with fail
          refine wp_region_grow (by kernel_rfl) (by kernel_rfl) ?_
          repeat (go_big_quiet_step ((fail)))
          refine wpQuiet_nil ?_
          intro _ hw'
          obtain ⟨g, hw''⟩ := hw'
          subst hw''
          go_wp2_with fail
          exact ⟨⟨b, by omega, rfl, ExtC.ext, Lib.hid (by rw [← HD.out]; exact HA.out)⟩, by simp [intOf]⟩
        · have e1 : (y == (n : Int) - k + b) = false := by simp [hd]
          have hst := atOf_stop (n := n) (k := k) (now := now) (a := b) (by rw [HY.out]; exact hd)
          have HD := Lib.hid hst; clear hst hd
          go_wp2_with fail
          refine wp_region_grow (by kernel_rfl) (by kernel_rfl) ?_
          repeat (go_big_quiet_step ((fail)))
          refine wpQuiet_nil ?_
          intro _ hw'
          obtain ⟨g, hw''⟩ := hw'
          subst hw''
          have htk : (now.take b).length = b := by rw [List.length_take]; have := HS.out.2.1.1; omega
          have hri : RI g3.fin (.slice (some ⟨ng, 0, none⟩) b nc) (now.take b) := by
            refine .inl ⟨ng, 0, nc, by rw [htk], by rw [htk]; have := HS.out.2.1.1; omega, hnb, fun i' hi' => ?_⟩
            rw [List.getElem_take]
            exact HNX.out i' (by rw [htk] at hi'; have := HS.out.2.1.1; omega)
          have hown := fun x (hx : Ext g3.fin x) => spec_l00Own _ (now.take b) x (hri.ext hx) (by rw [htk]; omega)
          simp only [htk] at hown
          have HTK := Lib.hid htk
          clear hri htk
          go_wp2_with (first | (go_at_call 105; (with_reducible refine (hown _ ExtC.ext).mono ?_); rintro e w' ⟨xg, xc, rfl, ho, hx⟩; obtain ⟨g6, rfl⟩ := hx.grow; clear hx; have HX := Lib.hid ho; clear ho))
          clear hown
          go_loopw [6, 7] (fun v j' wr => ∃ (m q qc : Nat), b ≤ m ∧ m ≤ k ∧ j' = .int .i64 m ∧ v = .slice (some ⟨q, 0, none⟩) m qc ∧ Ext g.fin wr ∧ Hid (OwnI g.fin.heap.size wr.heap.size wr (.slice (some ⟨q, 0, none⟩) m qc) (now.take b ++ (List.range (m - b)).map fun i : Nat => now.getD b 0 + 1 + (i : Int)))) (fun _ j' _ => k - (intOf j').toNat)
          case atStart => exact ⟨b, _, _, Nat.le_refl _, by omega, rfl, rfl, ExtC.ext, Lib.hid (by simpa using HX.out)⟩
          case round =>
            obtain ⟨m, q, qc, hm, hmk, rfl, rfl, hx, HJ⟩ := hrel
            obtain ⟨g7, rfl⟩ := hx.grow; clear hx
            have hjl : (now.take b ++ (List.range (m - b)).map fun i : Nat => now.getD b 0 + 1 + (i : Int)).length = m := by
              rw [List.length_append, HTK.out, List.length_map, List.length_range]; omega
            by_cases hlt : m < k
            · have y1 : IntKind.i64.wrap (y + 1) = y + 1 := IntWalk.i64_in _ (by omega)
              have y2 : IntKind.i64.wrap (y + 1 + m) = y + 1 + m := IntWalk.i64_in _ (by omega)
              have y3 : IntKind.i64.wrap (y + 1 + m - b) = y + 1 + m - b := IntWalk.i64_in _ (by omega)
              have hns := next_step now b (m - b)
              rw [show m - b + 1 = m + 1 - b by omega, HY.out, show y + 1 + ((m - b : Nat) : Int) = y + 1 + m - b by omega] at hns
              rw [HY.out] at HJ hjl
              have HNS := Lib.hid (And.intro hns hjl); clear hns hjl
              go_wp2_with (first | (at_builtin; refine app_int (w0 := g.fin) (lo := g.fin.heap.size) (hi := g7.fin.heap.size) _ _ (.slice (some ⟨q, 0, none⟩) m qc) (now.take b ++ (List.range (m - b)).map fun i : Nat => y + 1 + (i : Int)) ⟨g7.fin.heap.size, 0, none⟩ 1 [y + 1 + (m : Int) - b] rfl rfl rfl (HJ.out.ext ExtC.ext) rfl (cells_one _ _ _) (by rw [HNS.out.2]; simp only [List.length_cons, List.length_nil]; omega) ExtC.ext (Nat.le_refl _) (by have := (ExtC.ext : Ext g.fin g7.fin).size; simp only [World.size_alloc]; omega) (by simp) ?_; intro g' c' w' ho hx; obtain ⟨g8, rfl⟩ := hx.grow; clear hx; have HO8 := Lib.hid ho; clear ho))
              refine ⟨⟨m + 1, g', c', by omega, by omega, by go_num, by rw [show min b k + (m - b) + 1 = m + 1 by omega], ExtC.ext, Lib.hid ?_⟩, by simp [intOf]; omega⟩
              have := HO8.out
              rw [List.length_append, HNS.out.2, HNS.out.1] at this
              rw [HY.out]
              exact this
            · have hmk2 : m = k := by omega
              subst hmk2
              clear hjl
              go_wp2_with fail
              have hat : atOf n m now m = b + 1 := by rw [← HA.out, HD.out]
              have hnx : T[i + 1]? = some (nextOf m now b) := by rw [← HS.out.1]; unfold succT; rw [hat]
              obtain ⟨hi1, hi2⟩ := List.getElem?_eq_some_iff.1 hnx
              have hsz := (ExtC.ext : Ext w g.fin).size
              have hs3 := (ExtC.ext : Ext g3.fin g.fin).size
              refine ⟨⟨i + 1, g', c', q, qc, g.fin.heap.size, hi1, rfl, rfl, hsz, (ExtC.ext : Ext g.fin g7.fin).size, ExtC.ext, Lib.hid ?_, Lib.hid ?_⟩, by simp [slenP]; omega⟩
              · have hTT : T.take (i + 1) = T.take i ++ [now] := by
                  rw [List.take_succ_eq_append_getElem hi]
                  have := HS.out.2.2
                  simp [hi] at this
                  rw [this]
                rw [hTT]
                exact (HO2.out.ext ExtC.ext).mono (Nat.le_refl _) hs3
              · have e : T.getD (i + 1) [] = nextOf m now b := by simp [hi1, hi2]
                rw [e]
                exact HJ.out
end Go.Proofs.Ytoedphgoaifojaa
