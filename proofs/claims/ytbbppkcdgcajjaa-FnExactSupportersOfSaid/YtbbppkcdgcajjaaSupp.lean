/- Who approves a project: SupportersOf on both sides; the laws' marks over elections. -/
import Derived.Test.YtbbppkcdgcajjaaElectOk
import Derived.Test.YtbbppkcdgcajjaaLib
import Derived.Test.YtbbppkcdgcajjaaEnds
namespace Go.Proofs.Ytbbppkcdgcajjaa
open Go.RowKit

def suppTo (ap : List (List Int)) (p : Int) (n : Nat) : List Int := ((List.range n).filter fun i => decide (p ∈ ap.getD i [])).map fun i : Nat => (i : Int)
theorem suppTo_yes {ap : List (List Int)} {p : Int} {n : Nat} (hn : n < ap.length) (h : p ∈ ap[n]) : suppTo ap p (n + 1) = suppTo ap p n ++ [(n : Int)] := by
  have e : ap.getD n [] = ap[n] := by simp [hn]
  simp only [suppTo, List.range_succ, List.filter_append, List.map_append]
  congr 1
  simp only [List.filter_cons, e, h, decide_true, if_true, List.filter_nil, List.map_cons, List.map_nil]
theorem suppTo_no {ap : List (List Int)} {p : Int} {n : Nat} (hn : n < ap.length) (h : p ∉ ap[n]) : suppTo ap p (n + 1) = suppTo ap p n := by
  have e : ap.getD n [] = ap[n] := by simp [hn]
  simp only [suppTo, List.range_succ, List.filter_append, List.map_append]
  simp only [List.filter_cons, e, h, decide_false, Bool.false_eq_true, if_false, List.filter_nil, List.map_nil, List.append_nil]
theorem suppTo_length (ap : List (List Int)) (p : Int) (n : Nat) : (suppTo ap p n).length ≤ n := by
  unfold suppTo
  rw [List.length_map]
  exact Nat.le_trans (List.length_filter_le _ _) (by simp)
/-- Whether an election is valid and a number is a project. -/
def PjP (m : Int) (cs : List Int) (ap : List (List Int)) (p : Int) : Prop := OkE m cs ap ∧ 0 ≤ p ∧ p ≤ (cs.length : Int) - 1
open Classical in
noncomputable def pjB (m : Int) (cs : List Int) (ap : List (List Int)) (p : Int) : Bool := decide (PjP m cs ap p)
theorem pjB_iff {m : Int} {cs : List Int} {ap : List (List Int)} {p : Int} {b : Bool} (h : pjB m cs ap p = b) : b = true ↔ PjP m cs ap p := by subst h; simp [pjB]
open Classical in
noncomputable def suppX (m : Int) (cs : List Int) (ap : List (List Int)) (p : Int) : List Int := if PjP m cs ap p then suppTo ap p ap.length else []
theorem suppX_small {m : Int} {cs : List Int} {ap : List (List Int)} {p : Int} : (suppX m cs ap p).length ≤ 6 := by
  unfold suppX
  split
  · rename_i h; exact Nat.le_trans (suppTo_length _ _ _) h.1.2.2.1.2
  · simp
theorem supp_no {m : Int} {cs : List Int} {ap : List (List Int)} {p : Int} {b : Bool} {xs : List Int} (hno : ¬ PjP m cs ap p) (hb : b = true ↔ PjP m cs ap p) (hxs : suppX m cs ap p = xs) : b = false ∧ xs = [] := by
  refine ⟨?_, by rw [← hxs]; unfold suppX; rw [if_neg hno]⟩
  cases b
  · rfl
  · exact absurd (hb.1 rfl) hno

set_option maxHeartbeats 1000000 in
theorem impl_isProject (m : Int) (cv av : Value) (cs : List Int) (ap : List (List Int)) (p : Int) (w : World) (hc : RI w cv cs) (ha : RowsR intKind w av ap) (hn : cs.length ≤ 1048576) (hal : ap.length ≤ 1048576) (ham : ∀ i (h : i < ap.length), ap[i].length ≤ 1048576) (b : Bool) (hb : b = true ↔ PjP m cs ap p) :
    Calls Try.prog 130 #[.agg #[.int .i64 m, cv, av], .int .i64 p] w fun e w' => e = .returned (.bool b) ∧ Ext w w' := by
  obtain ⟨cp, cc, rfl, -, -⟩ := hc.form
  obtain ⟨pp, pc, rfl, -, -⟩ := ha.form
  have HC := Lib.hid (And.intro hc (And.intro ha ham))
  have HB := Lib.hid hb
  have z1 : IntKind.i64.wrap ((cs.length : Int) - 1) = (cs.length : Int) - 1 := IntWalk.i64_in _ (by omega)
  clear hc ha ham hb
  cases q2 : inB p 0 ((cs.length : Int) - 1)
  · have hno : ¬ PjP m cs ap p := fun h => (inB_false.1 q2) h.2
    have hb0 : b = false := by
      cases b
      · rfl
      · exact absurd (HB.out.1 rfl) hno
    subst hb0
    clear hno
    go_enter Try.func130, Try.ntmps130
    go_wp2_with fail
    refine Calls.mono (impl_ValidElection m _ _ cs ap _ (HC.out.1.ext ExtC.ext) (HC.out.2.1.ext ExtC.ext) hn hal HC.out.2.2) ?_
    rintro e w' ⟨⟨q, rfl, hq⟩, hx⟩; obtain ⟨g, rfl⟩ := hx.grow; clear hx hq
    cases q
    · go_wp2_with fail
      go_ret
      exact ⟨rfl, ExtC.ext⟩
    · go_wp2_with (first | (go_at_call 105; (with_reducible refine (impl_within _ _ _ _ (by assumption) _).mono ?_); rintro e w' ⟨rfl, hx⟩; obtain ⟨g, rfl⟩ := hx.grow; clear hx))
      go_ret
      exact ⟨rfl, ExtC.ext⟩
  · have Q2 := Lib.hid (inB_true.1 q2)
    go_enter Try.func130, Try.ntmps130
    go_wp2_with fail
    refine Calls.mono (impl_ValidElection m _ _ cs ap _ (HC.out.1.ext ExtC.ext) (HC.out.2.1.ext ExtC.ext) hn hal HC.out.2.2) ?_
    rintro e w' ⟨⟨q, rfl, hq⟩, hx⟩; obtain ⟨g, rfl⟩ := hx.grow; clear hx
    have HQ : Hid (q = b) := Lib.hid (by rw [Bool.eq_iff_iff, hq, HB.out]; exact ⟨fun h => ⟨h, Q2.out⟩, fun h => h.1⟩)
    clear hq
    cases q
    · go_wp2_with fail
      go_ret
      have := HQ.out
      subst this
      exact ⟨rfl, ExtC.ext⟩
    · go_wp2_with (first | (go_at_call 105; (with_reducible refine (impl_within _ _ _ _ (by assumption) _).mono ?_); rintro e w' ⟨rfl, hx⟩; obtain ⟨g, rfl⟩ := hx.grow; clear hx))
      go_ret
      have := HQ.out
      subst this
      exact ⟨rfl, ExtC.ext⟩

set_option maxHeartbeats 2000000 in
theorem impl_supporters (m : Int) (cv av : Value) (cs : List Int) (ap : List (List Int)) (p : Int) (w : World) (hc : RI w cv cs) (ha : RowsR intKind w av ap) (hal : ap.length ≤ 6) (ham : ∀ i (h : i < ap.length), ap[i].length ≤ 1048576) (xs : List Int) (hxs : suppTo ap p ap.length = xs) :
    Calls Try.prog 131 #[.agg #[.int .i64 m, cv, av], .int .i64 p] w fun e w' => ∃ g c, e = .returned (.slice (some ⟨g, 0, none⟩) xs.length c) ∧ OwnI w.heap.size w'.heap.size w' (.slice (some ⟨g, 0, none⟩) xs.length c) xs ∧ Ext w w' := by
  obtain ⟨cp, cc, rfl, -, -⟩ := hc.form
  obtain ⟨pp, pc, rfl, -, haq⟩ := ha.form
  have HN := Lib.hid hxs.symm
  have HAQ := Lib.hid haq
  have HM := Lib.hid ham
  clear hc ha ham haq hxs
  go_enter Try.func131, Try.ntmps131
  go_wp2_with fail
  have h00 : OwnI w.heap.size ((w.alloc (.cells #[.int .i64 m, .slice cp cs.length cc, .slice pp ap.length pc] 41)).alloc (.cells #[] 2)).heap.size ((w.alloc (.cells #[.int .i64 m, .slice cp cs.length cc, .slice pp ap.length pc] 41)).alloc (.cells #[] 2)) (.slice (some ⟨w.heap.size + 1, 0, none⟩) 0 0) [] := by
    have := own_empty (w.alloc (.cells #[.int .i64 m, .slice cp cs.length cc, .slice pp ap.length pc] 41)) w.heap.size (by simp)
    simp only [World.size_alloc] at this ⊢
    exact this
  have H00 := Lib.hid h00
  clear h00
  go_loopw [5, 12] (fun o i wr => ∃ (k og oc n : Nat) (C : List Int), k ≤ ap.length ∧ i = .int .i64 k ∧ o = .slice (some ⟨og, 0, none⟩) n oc ∧ C.length ≤ k ∧ Ext w wr ∧ Hid (C = suppTo ap p k) ∧ Hid (OwnI w.heap.size wr.heap.size wr (.slice (some ⟨og, 0, none⟩) n oc) C)) (fun _ i _ => ap.length - (intOf i).toNat)
  case atStart => exact ⟨0, _, _, _, [], Nat.zero_le _, rfl, rfl, Nat.le_refl _, ExtC.ext, Lib.hid rfl, H00⟩
  case round =>
    obtain ⟨k, og, oc, n, C, hk, rfl, rfl, hC, hx, HCk, HO⟩ := hrel
    obtain ⟨g0, rfl⟩ := hx.grow; clear hx
    by_cases hlt : k < ap.length
    · obtain ⟨bb, off, hpp, ib2, hr⟩ := HAQ.out (by omega)
      subst hpp
      obtain ⟨t, d, ht⟩ := hr k hlt
      have HT : Hid (RI w t ap[k]) := Lib.hid ht
      obtain ⟨tp, tc, rfl, -, -⟩ := RI.form ht
      clear hr ht
      have hml := HM.out k hlt
      cases q : decide (p ∈ ap[k])
      · have HL := Lib.hid (suppTo_no hlt (by simpa using q))
        go_wp2_with (first | (go_at_call 86; (with_reducible refine (slices_Contains _ ap[k] _ _ (by assumption) _ (HT.out.ext ExtC.ext) (by omega)).mono ?_); rintro e w' ⟨rfl, hx⟩; obtain ⟨g2, rfl⟩ := hx.grow; clear hx))
        go_roundw
        case rel => exact ⟨k + 1, og, oc, n, C, by omega, by go_num, rfl, by omega, ExtC.ext, Lib.hid (by rw [HL.out, HCk.out]), Lib.hid ((HO.out.ext ExtC.ext).mono (Nat.le_refl _) (ExtC.ext : Ext g0.fin _).size)⟩
        case measure => simp [intOf]; omega
      · have HL := Lib.hid (suppTo_yes hlt (by simpa using q))
        go_wp2_with (first | (go_at_call 86; (with_reducible refine (slices_Contains _ ap[k] _ _ (by assumption) _ (HT.out.ext ExtC.ext) (by omega)).mono ?_); rintro e w' ⟨rfl, hx⟩; obtain ⟨g2, rfl⟩ := hx.grow; clear hx) | (at_builtin; refine app_int (w0 := w) (lo := w.heap.size) (hi := g0.fin.heap.size) _ _ (.slice (some ⟨og, 0, none⟩) n oc) C ⟨g2.fin.heap.size, 0, none⟩ 1 [(k : Int)] rfl rfl rfl (HO.out.ext ExtC.ext) rfl (cells_one _ _ _) (by simp; omega) ExtC.ext (Nat.le_refl _) (by have := (ExtC.ext : Ext w g2.fin).size; simp; omega) (by simp) ?_; intro g' c' w' ho hx; obtain ⟨g3, rfl⟩ := hx.grow; clear hx; have HO2 := Lib.hid ho; clear ho))
        go_roundw
        case rel => exact ⟨k + 1, g', c', _, C ++ [(k : Int)], by omega, by go_num, by simp; rfl, by simp; omega, ExtC.ext, Lib.hid (by rw [HL.out, HCk.out]), Lib.hid (by have := HO2.out; rw [List.length_append] at this; exact this)⟩
        case measure => simp [intOf]; omega
    · have e : k = ap.length := by omega
      subst e
      go_wp2
      go_ret
      have hn := HO.out.len.1
      have ho := HO.out
      rw [hn] at ho ⊢
      have e2 : C = xs := by rw [HN.out, HCk.out]
      subst e2
      exact ⟨_, _, rfl, ho, ExtC.ext⟩

set_option maxHeartbeats 2000000 in
theorem spec_l05Supporters (b : Nat) (m : Int) (cv av : Value) (ap : List (List Int)) (p : Int) (w : World) (hb : BxE b m cv av w) (ha : RowsR intKind w av ap) (hal : ap.length ≤ 6) (ham : ∀ i (h : i < ap.length), ap[i].length ≤ 1048576) (xs : List Int) (hxs : suppTo ap p ap.length = xs) :
    Calls Try.prog 129 #[.pointer (some ⟨b, 0, none⟩), .int .i64 p] w fun e w' => ∃ g c, e = .returned (.slice (some ⟨g, 0, none⟩) xs.length c) ∧ OwnI w.heap.size w'.heap.size w' (.slice (some ⟨g, 0, none⟩) xs.length c) xs ∧ Ext w w' := by
  obtain ⟨pp, pc, rfl, -, haq⟩ := ha.form
  have HN := Lib.hid hxs.symm
  have HAQ := Lib.hid haq
  have HM := Lib.hid ham
  obtain ⟨ib, b0, b1, b2⟩ := hb
  clear ha ham haq hxs
  go_enter Try.func129, Try.ntmps129
  go_wp2_with fail
  go_loopw [5, 6] (fun o i wr => ∃ (k og oc n : Nat) (C : List Int), k ≤ ap.length ∧ i = .int .i64 k ∧ o = .slice (some ⟨og, 0, none⟩) n oc ∧ C.length ≤ k ∧ Ext w wr ∧ Hid (C = suppTo ap p k) ∧ Hid (OwnI w.heap.size wr.heap.size wr (.slice (some ⟨og, 0, none⟩) n oc) C)) (fun _ i _ => ap.length - (intOf i).toNat)
  case atStart => exact ⟨0, _, _, _, [], Nat.zero_le _, rfl, rfl, Nat.le_refl _, ExtC.ext, Lib.hid rfl, Lib.hid ((own_empty w w.heap.size (Nat.le_refl _)).mono (Nat.le_refl _) (by simp))⟩
  case round =>
    obtain ⟨k, og, oc, n, C, hk, rfl, rfl, hC, hx, HCk, HO⟩ := hrel
    obtain ⟨g0, rfl⟩ := hx.grow; clear hx
    by_cases hlt : k < ap.length
    · obtain ⟨bb, off, hpp, ib2, hr⟩ := HAQ.out (by omega)
      subst hpp
      obtain ⟨t, d, ht⟩ := hr k hlt
      have HT : Hid (RI w t ap[k]) := Lib.hid ht
      obtain ⟨tp, tc, rfl, -, -⟩ := RI.form ht
      clear hr ht
      have hml := HM.out k hlt
      cases q : decide (p ∈ ap[k])
      · have HL := Lib.hid (suppTo_no hlt (by simpa using q))
        go_wp2_with (first | (go_at_call 85; (with_reducible refine (spec_l00Has _ ap[k] _ _ (by assumption) _ (HT.out.ext ExtC.ext) (by omega)).mono ?_); rintro e w' ⟨rfl, hx⟩; obtain ⟨g2, rfl⟩ := hx.grow; clear hx))
        go_roundw
        case rel => exact ⟨k + 1, og, oc, n, C, by omega, by go_num, rfl, by omega, ExtC.ext, Lib.hid (by rw [HL.out, HCk.out]), Lib.hid ((HO.out.ext ExtC.ext).mono (Nat.le_refl _) (ExtC.ext : Ext g0.fin _).size)⟩
        case measure => simp [intOf]; omega
      · have HL := Lib.hid (suppTo_yes hlt (by simpa using q))
        go_wp2_with (first | (go_at_call 85; (with_reducible refine (spec_l00Has _ ap[k] _ _ (by assumption) _ (HT.out.ext ExtC.ext) (by omega)).mono ?_); rintro e w' ⟨rfl, hx⟩; obtain ⟨g2, rfl⟩ := hx.grow; clear hx) | (at_builtin; refine app_int (w0 := w) (lo := w.heap.size) (hi := g0.fin.heap.size) _ _ (.slice (some ⟨og, 0, none⟩) n oc) C ⟨g2.fin.heap.size, 0, none⟩ 1 [(k : Int)] rfl rfl rfl (HO.out.ext ExtC.ext) rfl (cells_one _ _ _) (by simp; omega) ExtC.ext (Nat.le_refl _) (by have := (ExtC.ext : Ext w g2.fin).size; simp; omega) (by simp) ?_; intro g' c' w' ho hx; obtain ⟨g3, rfl⟩ := hx.grow; clear hx; have HO2 := Lib.hid ho; clear ho))
        go_roundw
        case rel => exact ⟨k + 1, g', c', _, C ++ [(k : Int)], by omega, by go_num, by simp; rfl, by simp; omega, ExtC.ext, Lib.hid (by rw [HL.out, HCk.out]), Lib.hid (by have := HO2.out; rw [List.length_append] at this; exact this)⟩
        case measure => simp [intOf]; omega
    · have e : k = ap.length := by omega
      subst e
      go_wp2
      go_ret
      have hn := HO.out.len.1
      have ho := HO.out
      rw [hn] at ho ⊢
      have e2 : C = xs := by rw [HN.out, HCk.out]
      subst e2
      exact ⟨_, _, rfl, ho, ExtC.ext⟩

set_option maxHeartbeats 1000000 in
theorem impl_SupportersOf' (m : Int) (cv av : Value) (cs : List Int) (ap : List (List Int)) (p : Int) (w : World) (hc : RI w cv cs) (ha : RowsR intKind w av ap) (hn : cs.length ≤ 1048576) (hal : ap.length ≤ 1048576) (ham : ∀ i (h : i < ap.length), ap[i].length ≤ 1048576) (b : Bool) (hb : pjB m cs ap p = b) (xs : List Int) (hxs : suppX m cs ap p = xs) :
    Calls Try.prog 60 #[.agg #[.int .i64 m, cv, av], .int .i64 p] w fun e w' => ∃ v', e = .returned (.tuple #[v', .bool b]) ∧ OwnI w.heap.size w'.heap.size w' v' xs ∧ Ext w w' := by
  have H1 := Lib.hid (fun x (hx' : Ext w x) => impl_isProject m cv av cs ap p x (hc.ext hx') (ha.ext hx') hn hal ham b (pjB_iff hb))
  obtain ⟨cp, cc, rfl, -, -⟩ := hc.form
  obtain ⟨pp, pc, rfl, -, -⟩ := ha.form
  by_cases hok : PjP m cs ap p
  · have hbt := (pjB_iff hb).2 hok
    subst hbt
    have hl := hok.1.2.2.1
    have H2 := Lib.hid (fun x (hx' : Ext w x) => impl_supporters m (.slice cp cs.length cc) (.slice pp ap.length pc) cs ap p x (hc.ext hx') (ha.ext hx') hl.2 ham xs (by rw [← hxs]; unfold suppX; rw [if_pos hok]))
    clear hc ha ham hb hxs hok
    go_enter Try.func60, Try.ntmps60
    go_wp2_with fail
    refine Calls.mono (H1.out _ ExtC.ext) ?_
    rintro e w' ⟨rfl, hx⟩; obtain ⟨g, rfl⟩ := hx.grow; clear hx
    go_wp2_with fail
    refine Calls.mono (H2.out _ ExtC.ext) ?_
    rintro e w' ⟨gp, cp2, rfl, ho, hx⟩; obtain ⟨g2, rfl⟩ := hx.grow; clear hx
    have HO := Lib.hid ho; clear ho
    go_wp2_with fail
    refine bodyPost_ret (v := .tuple #[.slice (some ⟨gp, 0, none⟩) xs.length cp2, .bool true]) (by simp [results, Try.results60, go_sem]) rfl ?_
    exact ⟨_, rfl, HO.out.mono (ExtC.ext : Ext w _).size (Nat.le_refl _), ExtC.ext⟩
  · obtain ⟨rfl, rfl⟩ := supp_no hok (pjB_iff hb) hxs
    clear hc ha ham hb hxs hok
    go_enter Try.func60, Try.ntmps60
    go_wp2_with fail
    refine Calls.mono (H1.out _ ExtC.ext) ?_
    rintro e w' ⟨rfl, hx⟩; obtain ⟨g, rfl⟩ := hx.grow; clear hx
    go_wp2_with fail
    refine bodyPost_ret (v := .tuple #[.slice none 0 0, .bool false]) (by simp [results, Try.results60, go_sem]) rfl ?_
    exact ⟨_, rfl, .inl ⟨rfl, rfl⟩, ExtC.ext⟩

theorem spec_l05Project (b : Nat) (m : Int) (cv av : Value) (cs : List Int) (p : Int) (w : World) (hb : BxE b m cv av w) (hc : RI w cv cs) (hn : cs.length ≤ 1048576) (q : Bool) (hq : inB p 0 ((cs.length : Int) - 1) = q) :
    Calls Try.prog 128 #[.pointer (some ⟨b, 0, none⟩), .int .i64 p] w fun e w' => e = .returned (.bool q) ∧ Ext w w' := by
  obtain ⟨cp, cc, rfl, -, -⟩ := hc.form
  obtain ⟨ib, b0, b1, b2⟩ := hb
  have z1 : IntKind.i64.wrap ((cs.length : Int) - 1) = (cs.length : Int) - 1 := IntWalk.i64_in _ (by omega)
  clear hc
  go_enter Try.func128, Try.ntmps128
  go_wp2_with (first | (go_at_call 133; (with_reducible refine (spec_l00In _ _ _ _ hq _).mono ?_); rintro e w' ⟨rfl, hx⟩; obtain ⟨g, rfl⟩ := hx.grow; clear hx))
  go_ret
  exact ⟨rfl, ExtC.ext⟩

set_option maxHeartbeats 1000000 in
theorem spec_SupportersOf' (m : Int) (cv av : Value) (cs : List Int) (ap : List (List Int)) (p : Int) (w : World) (hc : RI w cv cs) (ha : RowsR intKind w av ap) (hn : cs.length ≤ 1048576) (hal : ap.length ≤ 1048576) (ham : ∀ i (h : i < ap.length), ap[i].length ≤ 1048576) (b : Bool) (hb : pjB m cs ap p = b) (xs : List Int) (hxs : suppX m cs ap p = xs) :
    Calls Try.prog 59 #[.agg #[.int .i64 m, cv, av], .int .i64 p] w fun e w' => ∃ v', e = .returned (.tuple #[v', .bool b]) ∧ OwnI w.heap.size w'.heap.size w' v' xs ∧ Ext w w' := by
  obtain ⟨cp, cc, rfl, -, -⟩ := hc.form
  obtain ⟨pp, pc, rfl, -, -⟩ := ha.form
  have HBX := Lib.hid (box_elect w m (.slice cp cs.length cc) (.slice pp ap.length pc) 41)
  have HC := Lib.hid (And.intro hc (And.intro ha ham))
  have HB := Lib.hid (And.intro (pjB_iff hb) hxs)
  clear hc ha ham hb hxs
  go_enter Try.func59, Try.ntmps59
  go_wp2_with fail
  refine Calls.mono (spec_l05Ok w.heap.size m _ _ cs ap _ (HBX.out.ext ExtC.ext) (HC.out.1.ext ExtC.ext) (HC.out.2.1.ext ExtC.ext) hn hal HC.out.2.2) ?_
  rintro e w' ⟨⟨q, rfl, hq⟩, hx⟩; obtain ⟨g, rfl⟩ := hx.grow; clear hx
  have HQ := Lib.hid hq; clear hq
  cases q
  · obtain ⟨rfl, rfl⟩ := supp_no (fun h => by have := HQ.out.2 h.1; cases this) HB.out.1 HB.out.2
    go_wp2_with fail
    refine bodyPost_ret (v := .tuple #[.slice none 0 0, .bool false]) (by simp [results, Try.results59, go_sem]) rfl ?_
    exact ⟨_, rfl, .inl ⟨rfl, rfl⟩, ExtC.ext⟩
  cases q2 : inB p 0 ((cs.length : Int) - 1)
  · obtain ⟨rfl, rfl⟩ := supp_no (fun h => (inB_false.1 q2) h.2) HB.out.1 HB.out.2
    go_wp2_with fail
    refine Calls.mono (spec_l05Project w.heap.size m _ _ cs p _ (HBX.out.ext ExtC.ext) (HC.out.1.ext ExtC.ext) hn _ q2) ?_
    rintro e w' ⟨rfl, hx⟩; obtain ⟨g2, rfl⟩ := hx.grow; clear hx
    go_wp2_with fail
    refine bodyPost_ret (v := .tuple #[.slice none 0 0, .bool false]) (by simp [results, Try.results59, go_sem]) rfl ?_
    exact ⟨_, rfl, .inl ⟨rfl, rfl⟩, ExtC.ext⟩
  · have hok : PjP m cs ap p := ⟨HQ.out.1 (by trivial), inB_true.1 q2⟩
    have hbt := HB.out.1.2 hok
    subst hbt
    have hl := hok.1.2.2.1
    have hxx := Lib.hid (show suppTo ap p ap.length = xs by rw [← HB.out.2]; unfold suppX; rw [if_pos hok])
    clear hok
    go_wp2_with fail
    refine Calls.mono (spec_l05Project w.heap.size m _ _ cs p _ (HBX.out.ext ExtC.ext) (HC.out.1.ext ExtC.ext) hn _ q2) ?_
    rintro e w' ⟨rfl, hx⟩; obtain ⟨g2, rfl⟩ := hx.grow; clear hx
    go_wp2_with fail
    refine Calls.mono (spec_l05Supporters w.heap.size m _ _ ap p _ (HBX.out.ext ExtC.ext) (HC.out.2.1.ext ExtC.ext) hl.2 HC.out.2.2 xs hxx.out) ?_
    rintro e w' ⟨gp, cp2, rfl, ho, hx⟩; obtain ⟨g3, rfl⟩ := hx.grow; clear hx
    have HO := Lib.hid ho; clear ho
    go_wp2_with fail
    refine bodyPost_ret (v := .tuple #[.slice (some ⟨gp, 0, none⟩) xs.length cp2, .bool true]) (by simp [results, Try.results59, go_sem]) rfl ?_
    exact ⟨_, rfl, HO.out.mono (ExtC.ext : Ext w _).size (Nat.le_refl _), ExtC.ext⟩
end Go.Proofs.Ytbbppkcdgcajjaa
