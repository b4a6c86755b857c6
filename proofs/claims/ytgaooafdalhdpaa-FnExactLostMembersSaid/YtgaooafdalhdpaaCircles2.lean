/- FirstCircles on both sides: the walks. -/
import Derived.Test.YtgaooafdalhdpaaCircles
import Derived.Test.YtgaooafdalhdpaaGraph
import Derived.Test.YtgaooafdalhdpaaRowsMark
namespace Go.Proofs.Ytgaooafdalhdpaa
open Go.RowKit

theorem RetB.told' {P : Prop} {e : Ending} {b : Bool} (h : RetB P e) (hb : b = true ↔ P) : e = .returned (.bool b) := by
  obtain ⟨c, rfl, hc⟩ := h
  have : c = b := by rw [Bool.eq_iff_iff, hc, hb]
  rw [this]
open Classical in
noncomputable def okB (L : List VD) : Bool := decide (OkV L)
theorem okB_iff {L : List VD} {b : Bool} (h : okB L = b) : b = true ↔ OkV L := by subst h; simp [okB]
open Classical in
noncomputable def circX (L : List VD) : List (List Int) := if OkV L then circlesTo L L.length else []

theorem own_rows_empty (w : World) (lo : Nat) (hl : lo ≤ w.heap.size) : OwnR intKind 29 lo (w.heap.size + 1) (w.alloc (.cells #[] 29)) (.slice (some ⟨w.heap.size, 0, none⟩) 0 0) [] := by
  have h := World.ownsRow_made (e := 29) (size := 1) (base := lo) w #[] 0 hl (by unfold maxLen; omega) (by rfl)
  have := OwnR.made (K := intKind) h
  simpa using this
theorem IS.of_own {lo hi : Nat} {w : World} {g n c : Nat} {xs : List Int} (h : OwnI lo hi w (.slice (some ⟨g, 0, none⟩) n c) xs) : IS w (.slice (some ⟨g, 0, none⟩) n c) xs := OwnI.is h (by simp)

theorem cell_new (x : World) (v : Value) (T : TypeId) : (x.alloc (.cells #[v] T)).cell? ((⟨x.heap.size, 0, none⟩ : Addr).add 0) = some v := by
  rw [add_plain', World.cell?_alloc_at _ _ _ _ rfl]; rfl
theorem cells_one (x : World) (n : Int) (T : TypeId) : ∀ j (h : j < [n].length), (x.alloc (.cells #[iv n] T)).cell? ((⟨x.heap.size, 0, none⟩ : Addr).add j) = some (iv [n][j]) := by
  intro j h
  have : j = 0 := by simpa using h
  subst this
  exact cell_new _ _ _
set_option maxHeartbeats 4000000 in
theorem impl_FirstCircles' (v : Value) (L : List VD) (w : World) (h : VS w v L) (hs : Short L) (b : Bool) (hb : okB L = b) (xs : List (List Int)) (hxs : circX L = xs) :
    Calls Try.prog 35 #[v] w fun e w' => ∃ v', e = .returned (.tuple #[v', .bool b]) ∧ OwnR intKind 29 w.heap.size w'.heap.size w' v' xs ∧ Ext w w' := by
  have H1 := fun x (hx : Ext w x) => (impl_ValidVoices v L x (h.ext hx) hs).mono fun e w' (h : RetB (OkV L) e ∧ Ext x w') => (⟨h.1.told' (okB_iff hb), h.2⟩ : e = .returned (.bool b) ∧ Ext x w')
  cases b
  · have HN := Lib.hid (show xs = [] by rw [← hxs]; unfold circX; rw [if_neg (by rw [← okB_iff hb]; simp)])
    clear hb hxs
    go_enter Try.func35, Try.ntmps35
    go_wp2_with (first | (go_at_call 20; (with_reducible refine (H1 _ ExtC.ext).mono ?_); rintro e w' ⟨rfl, hx⟩; obtain ⟨g, rfl⟩ := hx.grow; clear hx))
    refine bodyPost_ret (v := .tuple #[.slice none 0 0, .bool false]) (by simp [results, Try.results35, go_sem]) rfl ?_
    exact ⟨_, rfl, .inl ⟨rfl, HN.out⟩, ExtC.ext⟩
  have hok := (okB_iff hb).1 rfl
  have HN := Lib.hid (show circlesTo L L.length = xs by rw [← hxs]; unfold circX; rw [if_pos hok])
  have hl := hok.2
  have HOK := Lib.hid hok
  obtain ⟨vb, vo, vc, rfl, hvb, hc⟩ := h.at
  have HC := Lib.hid hc
  clear hb hxs hok hc h
  go_enter Try.func35, Try.ntmps35
  go_wp2_with (first | (go_at_call 20; (with_reducible refine (H1 _ ExtC.ext).mono ?_); rintro e w' ⟨rfl, hx⟩; obtain ⟨g, rfl⟩ := hx.grow; clear hx))
  clear H1
  go_loopw [4, 14] (fun o i wr => ∃ (k og oc : Nat) (C : List (List Int)), k ≤ L.length ∧ i = .int .i64 k ∧ o = .slice (some ⟨og, 0, none⟩) C.length oc ∧ C.length ≤ k ∧ Ext w wr ∧ Hid (C = circlesTo L k) ∧ OwnR intKind 29 w.heap.size wr.heap.size wr (.slice (some ⟨og, 0, none⟩) C.length oc) C) (fun _ i _ => L.length - (intOf i).toNat)
  case atStart => exact ⟨0, _, _, [], Nat.zero_le _, rfl, rfl, Nat.le_refl _, ExtC.ext, Lib.hid rfl, (own_rows_empty g.fin w.heap.size (ExtC.ext : Ext w g.fin).size).mono (Nat.le_refl _) (by simp)⟩
  case round =>
    obtain ⟨k, og, oc, C, hk, rfl, rfl, hCk, hx, HCk, how⟩ := hrel
    have HO := Lib.hid how; clear how
    by_cases hlt : k < L.length
    · obtain ⟨g0, rfl⟩ := hx.grow; clear hx
      go_wp2_with fail
      go_loopw [6, 7] (fun c a wr => ∃ (j cg cc : Nat), j ≤ L.length ∧ c = .slice (some ⟨cg, 0, none⟩) j cc ∧ a = .int .i64 (orb L k j) ∧ 0 ≤ orb L k j ∧ orb L k j < L.length ∧ Ext g0.fin wr ∧ Hid (∀ i, i < j → 0 ≤ orb L k i ∧ orb L k i ∉ circ L k i) ∧ Hid (OwnI g0.fin.heap.size wr.heap.size wr (.slice (some ⟨cg, 0, none⟩) j cc) (circ L k j))) (fun c _ _ => match c with | .slice _ n _ => L.length - n | _ => 0)
      case atStart => exact ⟨0, _, _, Nat.zero_le _, rfl, rfl, by simp [orb], by simp [orb]; omega, ExtC.ext, Lib.hid fun i h => by omega, Lib.hid ((own_empty g0.fin g0.fin.heap.size (Nat.le_refl _)).mono (Nat.le_refl _) (by simp))⟩
      case round =>
        obtain ⟨j, cg, cc, hj, rfl, rfl, a0, a1, hx, HD, HW⟩ := hrel
        obtain ⟨g1, rfl⟩ := hx.grow; clear hx
        obtain ⟨c1, t, c2, c3⟩ := HC.out (orb L k j) a0 (by omega)
        obtain ⟨tp, tc, rfl, -, hx⟩ := c3.form
        have HX := Lib.hid hx; clear hx c3
        obtain ⟨s, hs'⟩ : ∃ s, (At L (orb L k j)).1 = s := ⟨_, rfl⟩
        rw [hs'] at c1
        obtain ⟨n, hn⟩ : ∃ n, (At L (orb L k j)).2.length = n := ⟨_, rfl⟩
        rw [hn] at c2
        have hnn := hs.at (orb L k j) a0 (by omega)
        rw [hn] at hnn
        have HS' := Lib.hid (And.intro hs' hn); clear hs' hn
        cases q1 : decide (orb L k j ∈ circ L k j)
        · cases s
          · by_cases n0 : n = 0
            · have HE := Lib.hid (show orb L k j ∈ circ L k j ∨ fst1 L (orb L k j) = -1 from .inr (by unfold fst1; rw [if_pos (.inr (by rw [HS'.out.2]; exact n0))]))
              subst n0
              have hst := stop_impl (L := L) (m := (k : Int)) (k := j) (by omega) HD.out HE.out a0
              have HS := Lib.hid hst; clear hst
              by_cases j0 : 0 < j
              · by_cases e2 : orb L k j = (k : Int)
                · have hb2 : (orb L k j == (k : Int)) = true := by simp [e2]
                  have HE2 := Lib.hid e2; clear e2
                  go_wp2_with (first | (go_at_call 61; (with_reducible refine (slices_Contains _ (circ L k j) _ _ (by assumption) _ (HW.out.ri.ext ExtC.ext) (by rw [circ_length]; omega)).mono ?_); rintro e w' ⟨rfl, hx⟩; obtain ⟨g2, rfl⟩ := hx.grow; clear hx))
                  refine Calls.mono (slices_Min _ (circ L k j) _ ((IS.of_own HW.out).ext ExtC.ext) (by rw [circ_length]; exact j0) (by rw [circ_length]; omega)) ?_
                  rintro e w' ⟨r, rfl, hr, hx⟩; obtain ⟨g3, rfl⟩ := hx.grow; clear hx
                  have HR := Lib.hid hr; clear hr
                  by_cases e3 : r = orb L k j
                  · have hb3 : (r == orb L k j) = true := by simp [e3]
                    have HY := Lib.hid (HS.out.1 ⟨j0, HE2.out, fun x hx => by have := HR.out.2 x hx; have := HE2.out; omega⟩)
                    have HE3 := Lib.hid e3; clear e3
                    go_wp2_with (at_builtin; refine app_row (w0 := w) (lo := w.heap.size) (mid := g0.fin.heap.size) (hi := g1.fin.heap.size) _ _ og oc C ⟨g3.fin.heap.size, 0, none⟩ 1 (.slice (some ⟨cg, 0, none⟩) j cc) (circ L k j) rfl rfl rfl (HO.out.ext ExtC.ext) rfl (cell_new _ _ _) rfl (HW.out.ext ExtC.ext) (ExtC.ext : Ext w g0.fin).size (ExtC.ext : Ext g1.fin _).size (ExtC.ext : Ext g0.fin _).size (by omega) ExtC.ext (Nat.le_refl _) ?_; intro g' c' w' ho hx)
                    have HO2 := Lib.hid ho; clear ho
                    go_roundw
                    case rel => exact ⟨k + 1, g', c', C ++ [circ L k j], by omega, by go_num, by simp, by simp; omega, hx, Lib.hid (by rw [circlesTo_succ, ← HCk.out, HY.out]), HO2.out⟩
                    case measure => simp [intOf]; omega
                  · have hb3 : (r == orb L k j) = false := by simp [e3]
                    have HNO := Lib.hid (HS.out.2 fun hc => e3 (by have h1 := HR.out.2 (orb L k 0) (mem_circ.2 ⟨0, j0, rfl⟩); have h2 := hc.2.2 r HR.out.1; have h3 := hc.2.1; have h4 : orb L k 0 = k := rfl; omega))
                    clear e3
                    go_wp2
                    go_roundw
                    case rel => exact ⟨k + 1, og, oc, C, by omega, by go_num, rfl, by omega, ExtC.ext, Lib.hid (by rw [circlesTo_succ, ← HCk.out, HNO.out, List.append_nil]), (HO.out.ext ExtC.ext).mono (Nat.le_refl _) (ExtC.ext : Ext g0.fin _).size⟩
                    case measure => simp [intOf]; omega
                · have hb2 : (orb L k j == (k : Int)) = false := by simp [e2]
                  have HNO := Lib.hid (HS.out.2 fun hc => e2 hc.2.1)
                  clear e2
                  go_wp2_with (first | (go_at_call 61; (with_reducible refine (slices_Contains _ (circ L k j) _ _ (by assumption) _ (HW.out.ri.ext ExtC.ext) (by rw [circ_length]; omega)).mono ?_); rintro e w' ⟨rfl, hx⟩; obtain ⟨g2, rfl⟩ := hx.grow; clear hx))
                  go_roundw
                  case rel => exact ⟨k + 1, og, oc, C, by omega, by go_num, rfl, by omega, ExtC.ext, Lib.hid (by rw [circlesTo_succ, ← HCk.out, HNO.out, List.append_nil]), (HO.out.ext ExtC.ext).mono (Nat.le_refl _) (ExtC.ext : Ext g0.fin _).size⟩
                  case measure => simp [intOf]; omega
              · have e0 : j = 0 := by omega
                have HNO := Lib.hid (HS.out.2 fun hc => j0 hc.1)
                have hj0 : ¬ (0 < j) := j0
                clear e0
                go_wp2_with (first | (go_at_call 61; (with_reducible refine (slices_Contains _ (circ L k j) _ _ (by assumption) _ (HW.out.ri.ext ExtC.ext) (by rw [circ_length]; omega)).mono ?_); rintro e w' ⟨rfl, hx⟩; obtain ⟨g2, rfl⟩ := hx.grow; clear hx))
                go_roundw
                case rel => exact ⟨k + 1, og, oc, C, by omega, by go_num, rfl, by omega, ExtC.ext, Lib.hid (by rw [circlesTo_succ, ← HCk.out, HNO.out, List.append_nil]), (HO.out.ext ExtC.ext).mono (Nat.le_refl _) (ExtC.ext : Ext g0.fin _).size⟩
                case measure => simp [intOf]; omega
            · have n1 : 0 < n := by omega
              have hnew := Lib.hid (show orb L k j ∉ circ L k j by simpa using q1)
              obtain ⟨tb, to, htp, itb, hcx⟩ := HX.out (by rw [HS'.out.2]; exact n1)
              subst htp
              have d := hcx 0 (by rw [HS'.out.2]; exact n1)
              have d2 := d; rw [Nat.add_zero] at d2
              have HF := Lib.hid (show orb L k (j + 1) = (At L (orb L k j)).2[0]'(by rw [HS'.out.2]; exact n1) by
                rw [orb, if_neg (by omega)]; unfold fst1; rw [if_neg (by rw [HS'.out.1, HS'.out.2]; simp; omega)]; simp [HS'.out.2, n1])
              have hfr := HOK.out.range (a := orb L k j) (k := 0) (by rw [HS'.out.2]; exact n1)
              have hfew := circ_few HOK.out (m := (k : Int)) (by omega) (by omega) (k := j + 1) fun i hi => by
                by_cases e : i = j
                · subst e; exact ⟨a0, hnew.out⟩
                · exact HD.out i (by omega)
              have HCX := Lib.hid hcx; clear hcx n0
              go_wp2_with (first | (go_at_call 61; (with_reducible refine (slices_Contains _ (circ L k j) _ _ (by assumption) _ (HW.out.ri.ext ExtC.ext) (by rw [circ_length]; omega)).mono ?_); rintro e w' ⟨rfl, hx⟩; obtain ⟨g2, rfl⟩ := hx.grow; clear hx) | (at_builtin; refine app_int (w0 := g0.fin) (lo := g0.fin.heap.size) (hi := g1.fin.heap.size) _ _ (.slice (some ⟨cg, 0, none⟩) j cc) (circ L k j) ⟨g2.fin.heap.size, 0, none⟩ 1 [orb L k j] rfl rfl rfl (HW.out.ext ExtC.ext) rfl (cells_one _ _ _) (by rw [circ_length]; simp; omega) ExtC.ext (Nat.le_refl _) (ExtC.ext : Ext g0.fin _).size (by simp) ?_; intro g' c' w' ho hx; obtain ⟨g3, rfl⟩ := hx.grow; clear hx; have HO2 := Lib.hid ho; clear ho))
              go_roundw
              case rel =>
                refine ⟨j + 1, g', c', by omega, by simp [circ_length], by rw [HF.out], by rw [HF.out]; exact hfr.1, by rw [HF.out]; exact hfr.2, ExtC.ext, Lib.hid fun i hi => ?_, Lib.hid ?_⟩
                · by_cases e : i = j
                  · subst e; exact ⟨a0, hnew.out⟩
                  · exact HD.out i (by omega)
                · have := HO2.out
                  rw [circ_succ]
                  have e : (circ L k j ++ [orb L k j]).length = j + 1 := by simp [circ_length]
                  rw [e] at this
                  exact this
              case measure => simp [circ_length]; omega
          · have HE := Lib.hid (show orb L k j ∈ circ L k j ∨ fst1 L (orb L k j) = -1 from .inr (by unfold fst1; rw [if_pos (.inl HS'.out.1)]))
            have hst := stop_impl (L := L) (m := (k : Int)) (k := j) (by omega) HD.out HE.out a0
            have HS := Lib.hid hst; clear hst
            by_cases j0 : 0 < j
            · by_cases e2 : orb L k j = (k : Int)
              · have hb2 : (orb L k j == (k : Int)) = true := by simp [e2]
                have HE2 := Lib.hid e2; clear e2
                go_wp2_with (first | (go_at_call 61; (with_reducible refine (slices_Contains _ (circ L k j) _ _ (by assumption) _ (HW.out.ri.ext ExtC.ext) (by rw [circ_length]; omega)).mono ?_); rintro e w' ⟨rfl, hx⟩; obtain ⟨g2, rfl⟩ := hx.grow; clear hx))
                refine Calls.mono (slices_Min _ (circ L k j) _ ((IS.of_own HW.out).ext ExtC.ext) (by rw [circ_length]; exact j0) (by rw [circ_length]; omega)) ?_
                rintro e w' ⟨r, rfl, hr, hx⟩; obtain ⟨g3, rfl⟩ := hx.grow; clear hx
                have HR := Lib.hid hr; clear hr
                by_cases e3 : r = orb L k j
                · have hb3 : (r == orb L k j) = true := by simp [e3]
                  have HY := Lib.hid (HS.out.1 ⟨j0, HE2.out, fun x hx => by have := HR.out.2 x hx; have := HE2.out; omega⟩)
                  have HE3 := Lib.hid e3; clear e3
                  go_wp2_with (at_builtin; refine app_row (w0 := w) (lo := w.heap.size) (mid := g0.fin.heap.size) (hi := g1.fin.heap.size) _ _ og oc C ⟨g3.fin.heap.size, 0, none⟩ 1 (.slice (some ⟨cg, 0, none⟩) j cc) (circ L k j) rfl rfl rfl (HO.out.ext ExtC.ext) rfl (cell_new _ _ _) rfl (HW.out.ext ExtC.ext) (ExtC.ext : Ext w g0.fin).size (ExtC.ext : Ext g1.fin _).size (ExtC.ext : Ext g0.fin _).size (by omega) ExtC.ext (Nat.le_refl _) ?_; intro g' c' w' ho hx)
                  have HO2 := Lib.hid ho; clear ho
                  go_roundw
                  case rel => exact ⟨k + 1, g', c', C ++ [circ L k j], by omega, by go_num, by simp, by simp; omega, hx, Lib.hid (by rw [circlesTo_succ, ← HCk.out, HY.out]), HO2.out⟩
                  case measure => simp [intOf]; omega
                · have hb3 : (r == orb L k j) = false := by simp [e3]
                  have HNO := Lib.hid (HS.out.2 fun hc => e3 (by have h1 := HR.out.2 (orb L k 0) (mem_circ.2 ⟨0, j0, rfl⟩); have h2 := hc.2.2 r HR.out.1; have h3 := hc.2.1; have h4 : orb L k 0 = k := rfl; omega))
                  clear e3
                  go_wp2
                  go_roundw
                  case rel => exact ⟨k + 1, og, oc, C, by omega, by go_num, rfl, by omega, ExtC.ext, Lib.hid (by rw [circlesTo_succ, ← HCk.out, HNO.out, List.append_nil]), (HO.out.ext ExtC.ext).mono (Nat.le_refl _) (ExtC.ext : Ext g0.fin _).size⟩
                  case measure => simp [intOf]; omega
              · have hb2 : (orb L k j == (k : Int)) = false := by simp [e2]
                have HNO := Lib.hid (HS.out.2 fun hc => e2 hc.2.1)
                clear e2
                go_wp2_with (first | (go_at_call 61; (with_reducible refine (slices_Contains _ (circ L k j) _ _ (by assumption) _ (HW.out.ri.ext ExtC.ext) (by rw [circ_length]; omega)).mono ?_); rintro e w' ⟨rfl, hx⟩; obtain ⟨g2, rfl⟩ := hx.grow; clear hx))
                go_roundw
                case rel => exact ⟨k + 1, og, oc, C, by omega, by go_num, rfl, by omega, ExtC.ext, Lib.hid (by rw [circlesTo_succ, ← HCk.out, HNO.out, List.append_nil]), (HO.out.ext ExtC.ext).mono (Nat.le_refl _) (ExtC.ext : Ext g0.fin _).size⟩
                case measure => simp [intOf]; omega
            · have e0 : j = 0 := by omega
              have HNO := Lib.hid (HS.out.2 fun hc => j0 hc.1)
              have hj0 : ¬ (0 < j) := j0
              clear e0
              go_wp2_with (first | (go_at_call 61; (with_reducible refine (slices_Contains _ (circ L k j) _ _ (by assumption) _ (HW.out.ri.ext ExtC.ext) (by rw [circ_length]; omega)).mono ?_); rintro e w' ⟨rfl, hx⟩; obtain ⟨g2, rfl⟩ := hx.grow; clear hx))
              go_roundw
              case rel => exact ⟨k + 1, og, oc, C, by omega, by go_num, rfl, by omega, ExtC.ext, Lib.hid (by rw [circlesTo_succ, ← HCk.out, HNO.out, List.append_nil]), (HO.out.ext ExtC.ext).mono (Nat.le_refl _) (ExtC.ext : Ext g0.fin _).size⟩
              case measure => simp [intOf]; omega
        · have HE := Lib.hid (show orb L k j ∈ circ L k j ∨ fst1 L (orb L k j) = -1 from .inl (by simpa using q1))
          have hst := stop_impl (L := L) (m := (k : Int)) (k := j) (by omega) HD.out HE.out a0
          have HS := Lib.hid hst; clear hst
          by_cases j0 : 0 < j
          · by_cases e2 : orb L k j = (k : Int)
            · have hb2 : (orb L k j == (k : Int)) = true := by simp [e2]
              have HE2 := Lib.hid e2; clear e2
              go_wp2_with (first | (go_at_call 61; (with_reducible refine (slices_Contains _ (circ L k j) _ _ (by assumption) _ (HW.out.ri.ext ExtC.ext) (by rw [circ_length]; omega)).mono ?_); rintro e w' ⟨rfl, hx⟩; obtain ⟨g2, rfl⟩ := hx.grow; clear hx))
              refine Calls.mono (slices_Min _ (circ L k j) _ ((IS.of_own HW.out).ext ExtC.ext) (by rw [circ_length]; exact j0) (by rw [circ_length]; omega)) ?_
              rintro e w' ⟨r, rfl, hr, hx⟩; obtain ⟨g3, rfl⟩ := hx.grow; clear hx
              have HR := Lib.hid hr; clear hr
              by_cases e3 : r = orb L k j
              · have hb3 : (r == orb L k j) = true := by simp [e3]
                have HY := Lib.hid (HS.out.1 ⟨j0, HE2.out, fun x hx => by have := HR.out.2 x hx; have := HE2.out; omega⟩)
                have HE3 := Lib.hid e3; clear e3
                go_wp2_with (at_builtin; refine app_row (w0 := w) (lo := w.heap.size) (mid := g0.fin.heap.size) (hi := g1.fin.heap.size) _ _ og oc C ⟨g3.fin.heap.size, 0, none⟩ 1 (.slice (some ⟨cg, 0, none⟩) j cc) (circ L k j) rfl rfl rfl (HO.out.ext ExtC.ext) rfl (cell_new _ _ _) rfl (HW.out.ext ExtC.ext) (ExtC.ext : Ext w g0.fin).size (ExtC.ext : Ext g1.fin _).size (ExtC.ext : Ext g0.fin _).size (by omega) ExtC.ext (Nat.le_refl _) ?_; intro g' c' w' ho hx)
                have HO2 := Lib.hid ho; clear ho
                go_roundw
                case rel => exact ⟨k + 1, g', c', C ++ [circ L k j], by omega, by go_num, by simp, by simp; omega, hx, Lib.hid (by rw [circlesTo_succ, ← HCk.out, HY.out]), HO2.out⟩
                case measure => simp [intOf]; omega
              · have hb3 : (r == orb L k j) = false := by simp [e3]
                have HNO := Lib.hid (HS.out.2 fun hc => e3 (by have h1 := HR.out.2 (orb L k 0) (mem_circ.2 ⟨0, j0, rfl⟩); have h2 := hc.2.2 r HR.out.1; have h3 := hc.2.1; have h4 : orb L k 0 = k := rfl; omega))
                clear e3
                go_wp2
                go_roundw
                case rel => exact ⟨k + 1, og, oc, C, by omega, by go_num, rfl, by omega, ExtC.ext, Lib.hid (by rw [circlesTo_succ, ← HCk.out, HNO.out, List.append_nil]), (HO.out.ext ExtC.ext).mono (Nat.le_refl _) (ExtC.ext : Ext g0.fin _).size⟩
                case measure => simp [intOf]; omega
            · have hb2 : (orb L k j == (k : Int)) = false := by simp [e2]
              have HNO := Lib.hid (HS.out.2 fun hc => e2 hc.2.1)
              clear e2
              go_wp2_with (first | (go_at_call 61; (with_reducible refine (slices_Contains _ (circ L k j) _ _ (by assumption) _ (HW.out.ri.ext ExtC.ext) (by rw [circ_length]; omega)).mono ?_); rintro e w' ⟨rfl, hx⟩; obtain ⟨g2, rfl⟩ := hx.grow; clear hx))
              go_roundw
              case rel => exact ⟨k + 1, og, oc, C, by omega, by go_num, rfl, by omega, ExtC.ext, Lib.hid (by rw [circlesTo_succ, ← HCk.out, HNO.out, List.append_nil]), (HO.out.ext ExtC.ext).mono (Nat.le_refl _) (ExtC.ext : Ext g0.fin _).size⟩
              case measure => simp [intOf]; omega
          · have e0 : j = 0 := by omega
            have HNO := Lib.hid (HS.out.2 fun hc => j0 hc.1)
            have hj0 : ¬ (0 < j) := j0
            clear e0
            go_wp2_with (first | (go_at_call 61; (with_reducible refine (slices_Contains _ (circ L k j) _ _ (by assumption) _ (HW.out.ri.ext ExtC.ext) (by rw [circ_length]; omega)).mono ?_); rintro e w' ⟨rfl, hx⟩; obtain ⟨g2, rfl⟩ := hx.grow; clear hx))
            go_roundw
            case rel => exact ⟨k + 1, og, oc, C, by omega, by go_num, rfl, by omega, ExtC.ext, Lib.hid (by rw [circlesTo_succ, ← HCk.out, HNO.out, List.append_nil]), (HO.out.ext ExtC.ext).mono (Nat.le_refl _) (ExtC.ext : Ext g0.fin _).size⟩
            case measure => simp [intOf]; omega
    · have e : k = L.length := by omega
      subst e
      obtain ⟨g0, rfl⟩ := hx.grow; clear hx
      go_wp2
      refine bodyPost_ret (v := .tuple #[.slice (some ⟨og, 0, none⟩) C.length oc, .bool true]) (by simp [results, Try.results35, go_sem]) rfl ?_
      refine ⟨_, rfl, ?_, ExtC.ext⟩
      rw [← HN.out, ← HCk.out]
      exact HO.out

theorem orb_next {L : List VD} {m : Int} {k : Nat} (h : 0 ≤ orb L m k) : orb L m (k + 1) = fst1 L (orb L m k) := by rw [orb, if_neg (by omega)]
theorem own_one (x : World) (n : Int) : OwnI x.heap.size (x.heap.size + 1) (x.alloc (.cells #[iv n] 2)) (.slice (some ⟨x.heap.size, 0, none⟩) 1 1) [n] :=
  .inr ⟨_, _, rfl, Nat.le_refl _, by omega, World.ownsRow_lit x #[iv n] 1 (Nat.le_refl _) (by unfold maxLen; omega) (by rfl)⟩

set_option maxHeartbeats 4000000 in
theorem spec_FirstCircles' (v : Value) (L : List VD) (w : World) (h : VS w v L) (hs : Short L) (b : Bool) (hb : okB L = b) (xs : List (List Int)) (hxs : circX L = xs) :
    Calls Try.prog 34 #[v] w fun e w' => ∃ v', e = .returned (.tuple #[v', .bool b]) ∧ OwnR intKind 29 w.heap.size w'.heap.size w' v' xs ∧ Ext w w' := by
  have H1 := fun x (hx : Ext w x) => (spec_l02Ok v L x (h.ext hx) hs).mono fun e w' (h : RetB (OkV L) e ∧ Ext x w') => (⟨h.1.told' (okB_iff hb), h.2⟩ : e = .returned (.bool b) ∧ Ext x w')
  cases b
  · have HN := Lib.hid (show xs = [] by rw [← hxs]; unfold circX; rw [if_neg (by rw [← okB_iff hb]; simp)])
    clear hb hxs
    go_enter Try.func34, Try.ntmps34
    go_wp2_with (first | (go_at_call 58; (with_reducible refine (H1 _ ExtC.ext).mono ?_); rintro e w' ⟨rfl, hx⟩; obtain ⟨g, rfl⟩ := hx.grow; clear hx))
    refine bodyPost_ret (v := .tuple #[.slice none 0 0, .bool false]) (by simp [results, Try.results34, go_sem]) rfl ?_
    exact ⟨_, rfl, .inl ⟨rfl, HN.out⟩, ExtC.ext⟩
  have hok := (okB_iff hb).1 rfl
  have HN := Lib.hid (show circlesTo L L.length = xs by rw [← hxs]; unfold circX; rw [if_pos hok])
  have hl := hok.2
  have HOK := Lib.hid hok
  have HF := fun (m : Int) (hm : 0 ≤ m ∧ m < L.length) x (hx : Ext w x) => spec_l02First v L m x (h.ext hx) hs hm.1 hm.2
  obtain ⟨vb, vo, vc, rfl, -⟩ := h
  clear hb hxs hok
  go_enter Try.func34, Try.ntmps34
  go_wp2_with (first | (go_at_call 58; (with_reducible refine (H1 _ ExtC.ext).mono ?_); rintro e w' ⟨rfl, hx⟩; obtain ⟨g, rfl⟩ := hx.grow; clear hx))
  clear H1
  go_loopw [4, 5] (fun o i wr => ∃ (k og oc : Nat) (C : List (List Int)), k ≤ L.length ∧ i = .int .i64 k ∧ o = .slice (some ⟨og, 0, none⟩) C.length oc ∧ C.length ≤ k ∧ Ext w wr ∧ Hid (C = circlesTo L k) ∧ OwnR intKind 29 w.heap.size wr.heap.size wr (.slice (some ⟨og, 0, none⟩) C.length oc) C) (fun _ i _ => L.length - (intOf i).toNat)
  case atStart => exact ⟨0, _, _, [], Nat.zero_le _, rfl, rfl, Nat.le_refl _, ExtC.ext, Lib.hid rfl, (own_rows_empty g.fin w.heap.size (ExtC.ext : Ext w g.fin).size).mono (Nat.le_refl _) (by simp)⟩
  case round =>
    obtain ⟨k, og, oc, C, hk, rfl, rfl, hCk, hx, HCk, how⟩ := hrel
    have HO := Lib.hid how; clear how
    by_cases hlt : k < L.length
    · obtain ⟨g0, rfl⟩ := hx.grow; clear hx
      go_wp2_with (first | (go_at_call 70; (with_reducible refine (HF _ (by omega) _ ExtC.ext).mono ?_); rintro e w' ⟨rfl, hx⟩; obtain ⟨gF, rfl⟩ := hx.grow; clear hx))
      go_loopw [6, 7, 8] (fun c a i wr => ∃ (q cg cc : Nat), q ≤ L.length ∧ i = .int .i64 q ∧ c = .slice (some ⟨cg, 0, none⟩) (q + 1) cc ∧ a = .int .i64 (orb L k (q + 1)) ∧ Ext g0.fin wr ∧ Hid (∀ i, 0 < i → i ≤ q → (k : Int) < orb L k i) ∧ Hid (OwnI g0.fin.heap.size wr.heap.size wr (.slice (some ⟨cg, 0, none⟩) (q + 1) cc) (circ L k (q + 1)))) (fun _ _ i _ => L.length - (intOf i).toNat)
      case atStart =>
        exact ⟨0, _, _, Nat.zero_le _, rfl, rfl, by rw [orb_next (L := L) (m := (k : Int)) (k := 0) (by simp [orb])]; rfl, ExtC.ext, Lib.hid fun i h1 h2 => by omega, Lib.hid (((own_one g0.fin k).ext gF.ext).mono (Nat.le_refl _) (by have := gF.ext.size; simpa using this))⟩
      case round =>
        obtain ⟨q, cg, cc, hq, rfl, rfl, rfl, hx, HD, HW⟩ := hrel
        obtain ⟨g1, rfl⟩ := hx.grow; clear hx
        have hrg := orb_range HOK.out (m := (k : Int)) (by omega) (by omega) (q + 1)
        by_cases h1 : q < L.length
        · by_cases h2 : (k : Int) < orb L k (q + 1)
          · have hd2 : decide ((k : Int) < orb L k (q + 1)) = true := by simp [h2]
            go_wp2_with (first | (go_at_call 70; (with_reducible refine (HF _ (by omega) _ ExtC.ext).mono ?_); rintro e w' ⟨rfl, hx⟩; obtain ⟨gF, rfl⟩ := hx.grow; clear hx) | (at_builtin; refine app_int (w0 := g0.fin) (lo := g0.fin.heap.size) (hi := g1.fin.heap.size) _ _ (.slice (some ⟨cg, 0, none⟩) (q + 1) cc) (circ L k (q + 1)) ⟨g1.fin.heap.size, 0, none⟩ 1 [orb L k (q + 1)] rfl rfl rfl (HW.out.ext ExtC.ext) rfl (cells_one _ _ _) (by rw [circ_length]; simp; omega) ExtC.ext (Nat.le_refl _) (by have := (ExtC.ext : Ext g0.fin g1.fin).size; simp; omega) (by simp) ?_; intro g' c' w' ho hx; obtain ⟨g3, rfl⟩ := hx.grow; clear hx; have HO2 := Lib.hid ho; clear ho))
            go_roundw
            case rel =>
              refine ⟨q + 1, g', c', by omega, by go_num, by simp [circ_length], by rw [orb_next (L := L) (m := (k : Int)) (k := q + 1) (by omega)], ExtC.ext, Lib.hid fun i hi hiq => ?_, Lib.hid ?_⟩
              · by_cases e : i = q + 1
                · subst e; exact h2
                · exact HD.out i hi (by omega)
              · have := (HO2.out.ext gF.ext).mono (Nat.le_refl _) gF.ext.size
                rw [circ_succ]
                have e : (circ L k (q + 1) ++ [orb L k (q + 1)]).length = q + 1 + 1 := by simp [circ_length]
                rw [e] at this
                exact this
            case measure => simp [intOf]; omega
          · have hd2 : decide ((k : Int) < orb L k (q + 1)) = false := by simp; omega
            have HE := Lib.hid (show L.length ≤ q ∨ orb L k (q + 1) ≤ (k : Int) from .inr (by omega))
            have HS := Lib.hid (stop_spec (L := L) (m := (k : Int)) (k := q) HOK.out (by omega) (by omega) HD.out HE.out)
            by_cases e2 : orb L k (q + 1) = (k : Int)
            · have hb2 : (orb L k (q + 1) == (k : Int)) = true := by simp [e2]
              have HY := Lib.hid (HS.out.1 e2); clear e2
              go_wp2_with (at_builtin; refine app_row (w0 := w) (lo := w.heap.size) (mid := g0.fin.heap.size) (hi := g1.fin.heap.size) _ _ og oc C ⟨g1.fin.heap.size, 0, none⟩ 1 (.slice (some ⟨cg, 0, none⟩) (q + 1) cc) (circ L k (q + 1)) rfl rfl rfl (HO.out.ext ExtC.ext) rfl (cell_new _ _ _) rfl (HW.out.ext ExtC.ext) (ExtC.ext : Ext w g0.fin).size (by simp) (by have := (ExtC.ext : Ext g0.fin g1.fin).size; simp; omega) (by omega) ExtC.ext (Nat.le_refl _) ?_; intro g' c' w' ho hx)
              have HO2 := Lib.hid ho; clear ho
              go_roundw
              case rel => exact ⟨k + 1, g', c', C ++ [circ L k (q + 1)], by omega, by go_num, by simp, by simp; omega, hx, Lib.hid (by rw [circlesTo_succ, ← HCk.out, HY.out]), HO2.out⟩
              case measure => simp [intOf]; omega
            · have hb2 : (orb L k (q + 1) == (k : Int)) = false := by simp [e2]
              have HNO := Lib.hid (HS.out.2 e2); clear e2
              go_wp2
              go_roundw
              case rel => exact ⟨k + 1, og, oc, C, by omega, by go_num, rfl, by omega, ExtC.ext, Lib.hid (by rw [circlesTo_succ, ← HCk.out, HNO.out, List.append_nil]), (HO.out.ext ExtC.ext).mono (Nat.le_refl _) (ExtC.ext : Ext g0.fin _).size⟩
              case measure => simp [intOf]; omega
        · have HE := Lib.hid (show L.length ≤ q ∨ orb L k (q + 1) ≤ (k : Int) from .inl (by omega))
          have HS := Lib.hid (stop_spec (L := L) (m := (k : Int)) (k := q) HOK.out (by omega) (by omega) HD.out HE.out)
          by_cases e2 : orb L k (q + 1) = (k : Int)
          · have hb2 : (orb L k (q + 1) == (k : Int)) = true := by simp [e2]
            have HY := Lib.hid (HS.out.1 e2); clear e2
            go_wp2_with (at_builtin; refine app_row (w0 := w) (lo := w.heap.size) (mid := g0.fin.heap.size) (hi := g1.fin.heap.size) _ _ og oc C ⟨g1.fin.heap.size, 0, none⟩ 1 (.slice (some ⟨cg, 0, none⟩) (q + 1) cc) (circ L k (q + 1)) rfl rfl rfl (HO.out.ext ExtC.ext) rfl (cell_new _ _ _) rfl (HW.out.ext ExtC.ext) (ExtC.ext : Ext w g0.fin).size (by simp) (by have := (ExtC.ext : Ext g0.fin g1.fin).size; simp; omega) (by omega) ExtC.ext (Nat.le_refl _) ?_; intro g' c' w' ho hx)
            have HO2 := Lib.hid ho; clear ho
            go_roundw
            case rel => exact ⟨k + 1, g', c', C ++ [circ L k (q + 1)], by omega, by go_num, by simp, by simp; omega, hx, Lib.hid (by rw [circlesTo_succ, ← HCk.out, HY.out]), HO2.out⟩
            case measure => simp [intOf]; omega
          · have hb2 : (orb L k (q + 1) == (k : Int)) = false := by simp [e2]
            have HNO := Lib.hid (HS.out.2 e2); clear e2
            go_wp2
            go_roundw
            case rel => exact ⟨k + 1, og, oc, C, by omega, by go_num, rfl, by omega, ExtC.ext, Lib.hid (by rw [circlesTo_succ, ← HCk.out, HNO.out, List.append_nil]), (HO.out.ext ExtC.ext).mono (Nat.le_refl _) (ExtC.ext : Ext g0.fin _).size⟩
            case measure => simp [intOf]; omega
    · have e : k = L.length := by omega
      subst e
      obtain ⟨g0, rfl⟩ := hx.grow; clear hx
      go_wp2
      refine bodyPost_ret (v := .tuple #[.slice (some ⟨og, 0, none⟩) C.length oc, .bool true]) (by simp [results, Try.results34, go_sem]) rfl ?_
      refine ⟨_, rfl, ?_, ExtC.ext⟩
      rw [← HN.out, ← HCk.out]
      exact HO.out

theorem circX_small {L : List VD} : (circX L).length ≤ 12 ∧ ∀ x ∈ circX L, x.length ≤ 12 := by
  unfold circX
  split
  · rename_i h
    have hl := h.2
    refine ⟨Nat.le_trans (circlesTo_length L _) hl.2, fun x hx => ?_⟩
    simp only [circlesTo, List.mem_flatMap, List.mem_range] at hx
    obtain ⟨m, hm, hx⟩ := hx
    by_cases hg : ∃ j, Good L (m : Int) j
    · obtain ⟨j, hj⟩ := hg
      rw [circAt_yes hj] at hx
      simp only [List.mem_singleton] at hx
      subst hx
      rw [circ_length]
      have := hj.le h (by omega) (by omega); omega
    · rw [circAt_no fun j hj => hg ⟨j, hj⟩] at hx; cases hx
  · simp
theorem cnt_few (xs : List (List Int)) (n : Nat) (h : ∀ x ∈ xs, x.length ≤ n) : cntRows intKind xs ≤ n * xs.length := by
  induction xs with
  | nil => simp [cntRows]
  | cons a l ih =>
    have h0 := h a (List.mem_cons_self ..)
    have h1 := ih fun x hx => h x (List.mem_cons_of_mem _ hx)
    have e : cntRows intKind (a :: l) = a.length + cntRows intKind l := by simp [cntRows, intKind]
    rw [e, List.length_cons, Nat.mul_add]; omega
end Go.Proofs.Ytgaooafdalhdpaa
