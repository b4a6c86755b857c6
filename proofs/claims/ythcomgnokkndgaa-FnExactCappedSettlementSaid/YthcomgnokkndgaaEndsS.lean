/- Whom a path leads to and the ends of all members, on the reference's side. -/
import Derived.Test.YthcomgnokkndgaaFnd
import Derived.Test.YthcomgnokkndgaaCells
import Derived.Test.YthcomgnokkndgaaLib
import Derived.Test.YthcomgnokkndgaaQueue
import Derived.Test.YthcomgnokkndgaaCircles2
namespace Go.Proofs.Ythcomgnokkndgaa
open Go.RowKit

theorem OwnI.cell0 {lo hi g n c : Nat} {w : World} {xs : List Int} (h : OwnI lo hi w (.slice (some ⟨g, 0, none⟩) n c) xs) : InW g w ∧ ∀ i (h : i < xs.length), w.cell? ⟨g, i, none⟩ = some (iv xs[i]) := by
  obtain ⟨b, off, cap, e, -, ib, hc⟩ := IS.of_own h
  simp only [Value.slice.injEq, Option.some.injEq, Addr.mk.injEq, and_true] at e
  obtain ⟨⟨rfl, rfl⟩, -, -⟩ := e
  exact ⟨ib, fun i hi => by have := hc i hi; rwa [Nat.zero_add] at this⟩

section
variable {L : List VD} {a x : Int} {F T : List Int} {i j : Nat}
theorem Fnd.speaks' (h : Fnd L a F i 0) (hi : i < F.length) (hx : F[i] = x) (hs : (At L x).1 = true) : Fnd L a F (i + 1) 0 := by subst hx; exact h.speaks hi hs
theorem Fnd.next' (h : Fnd L a F i j) (hi : i < F.length) (hx : F[i]? = some x) (hT : (At L x).2 = T) (hj : T.length ≤ j) : Fnd L a F (i + 1) 0 := by
  rw [List.getElem?_eq_getElem hi] at hx
  cases hx; subst hT; exact h.next hi hj
theorem Fnd.had' (h : Fnd L a F i j) (hi : i < F.length) (hx : F[i]? = some x) (hT : (At L x).2 = T) (hj : j < T.length) (hm : T[j] ∈ F) : Fnd L a F i (j + 1) := by
  rw [List.getElem?_eq_getElem hi] at hx
  cases hx; subst hT; exact h.had hi hj hm
theorem Fnd.add' (hok : OkV L) (h : Fnd L a F i j) (hi : i < F.length) (hx : F[i]? = some x) (hs : (At L x).1 = false) (hT : (At L x).2 = T) (hj : j < T.length) (hm : T[j] ∉ F) : Fnd L a (F ++ [T[j]]) i (j + 1) ∧ (F ++ [T[j]])[i]? = some x := by
  refine ⟨?_, by rw [List.getElem?_append_left hi]; exact hx⟩
  rw [List.getElem?_eq_getElem hi] at hx
  cases hx; subst hT; exact h.add hok hi hs hj hm
end

set_option maxHeartbeats 4000000 in
set_option maxRecDepth 100000 in
theorem spec_l02Reach (v : Value) (m : Int) (L : List VD) (w : World) (h : VS w v L) (hok : OkV L) (h0 : 0 ≤ m) (h1 : m < L.length) :
    Calls Try.prog 38 #[v, .int .i64 m] w fun e w' => ∃ (g c : Nat) (F : List Int), e = .returned (.slice (some ⟨g, 0, none⟩) F.length c) ∧ OwnI w.heap.size w'.heap.size w' (.slice (some ⟨g, 0, none⟩) F.length c) F ∧ (∀ x, x ∈ F ↔ Rt L [] m x) ∧ F.length ≤ 12 ∧ Ext w w' := by
  have hln := hok.2
  have HK := Lib.hid hok
  have HM := Lib.hid (And.intro h0 h1)
  obtain ⟨vb, vo, vc, rfl, hvb, hc⟩ := h.at
  have HC := Lib.hid hc
  clear hc h hok h0 h1
  go_enter Try.func38, Try.ntmps38
  go_wp2_with fail
  have H00 := Lib.hid (own_one w m)
  go_loopw [5, 6] (fun f i wr => ∃ (k fg fc : Nat) (F : List Int), k ≤ F.length ∧ F.length ≤ 12 ∧ i = .int .i64 k ∧ f = .slice (some ⟨fg, 0, none⟩) F.length fc ∧ Ext w wr ∧ Hid (Fnd L m F k 0) ∧ Hid (OwnI w.heap.size wr.heap.size wr (.slice (some ⟨fg, 0, none⟩) F.length fc) F)) (fun _ i _ => 12 - (intOf i).toNat)
  case atStart => exact ⟨0, w.heap.size, 1, [m], by simp, by simp, rfl, rfl, ExtC.ext, Lib.hid (Fnd.first HM.out.1 HM.out.2), Lib.hid (by have := H00.out; simp only [World.size_alloc]; exact this)⟩
  case round =>
    clear H00
    obtain ⟨k, fg, fc, F, hk, hF, rfl, rfl, hx, HB, HO⟩ := hrel
    obtain ⟨g0, rfl⟩ := hx.grow; clear hx
    by_cases hlt : k < F.length
    · obtain ⟨x0, x1, -⟩ := HB.out.nd k hlt
      obtain ⟨ifg, hfc⟩ := HO.out.cell0
      have d0 := hfc k hlt
      obtain ⟨x, hx⟩ : ∃ x, F[k] = x := ⟨_, rfl⟩
      rw [hx] at d0 x0 x1
      have HX := Lib.hid hx
      clear hfc hx
      obtain ⟨c1, t, c2, c3⟩ := HC.out x x0 (by omega)
      obtain ⟨tp, tc, rfl, -, hct⟩ := c3.form
      have hT4 := HK.out.few x
      obtain ⟨T, hT⟩ : ∃ T, (At L x).2 = T := ⟨_, rfl⟩
      rw [hT] at c2 hct hT4
      obtain ⟨s, hs⟩ : ∃ s, (At L x).1 = s := ⟨_, rfl⟩
      rw [hs] at c1
      have HCT := Lib.hid hct
      have HST := Lib.hid (And.intro hs hT)
      clear c3 hct hs hT
      cases s
      · go_wp2_with fail
        go_loopw [5, 8] (fun f q wr => ∃ (j fg' fc' : Nat) (G : List Int), j ≤ T.length ∧ k < G.length ∧ G.length ≤ 12 ∧ q = .int .i64 j ∧ f = .slice (some ⟨fg', 0, none⟩) G.length fc' ∧ Ext w wr ∧ Hid (G[k]? = some x) ∧ Hid (Fnd L m G k j) ∧ Hid (OwnI w.heap.size wr.heap.size wr (.slice (some ⟨fg', 0, none⟩) G.length fc') G)) (fun _ q _ => T.length - (intOf q).toNat)
        case atStart => exact ⟨0, fg, fc, F, Nat.zero_le _, hlt, hF, rfl, rfl, ExtC.ext, Lib.hid (by rw [List.getElem?_eq_getElem hlt, HX.out]), HB, HO⟩
        case round =>
          clear HX HB HO d0 ifg
          obtain ⟨j, fg', fc', G, hj, hkG, hG, rfl, rfl, hx, HGX, HB, HO⟩ := hrel
          obtain ⟨g1, rfl⟩ := hx.grow; clear hx
          by_cases hjl : j < T.length
          · obtain ⟨tb, to, hp, itb, hcc⟩ := HCT.out (by omega)
            subst hp
            have d := hcc j hjl
            obtain ⟨y, hy⟩ : ∃ y, T[j] = y := ⟨_, rfl⟩
            rw [hy] at d
            have HY := Lib.hid hy
            clear hcc hy
            cases q : decide (y ∈ G)
            · have HQ := Lib.hid (show y ∉ G by simpa using q)
              have HA := Lib.hid (HB.out.add' HK.out hkG HGX.out HST.out.1 HST.out.2 hjl (by rw [HY.out]; exact HQ.out))
              have hfew := HA.out.1.few
              rw [List.length_append, List.length_singleton] at hfew
              go_wp2_with (first | (go_at_call 24; (with_reducible refine (spec_l00Has _ G _ _ (by assumption) _ (HO.out.ri.ext ExtC.ext) (by omega)).mono ?_); rintro e w' ⟨rfl, hx⟩; obtain ⟨g2, rfl⟩ := hx.grow; clear hx) | (at_builtin; refine app_int (w0 := w) (lo := w.heap.size) (hi := g1.fin.heap.size) _ _ (.slice (some ⟨fg', 0, none⟩) G.length fc') G ⟨g2.fin.heap.size, 0, none⟩ 1 [y] rfl rfl rfl (HO.out.ext ExtC.ext) rfl (cells_one _ _ _) (by simp; omega) ExtC.ext (Nat.le_refl _) (by have := (ExtC.ext : Ext w g2.fin).size; simp only [World.size_alloc]; omega) (by simp) ?_; intro g' c' w' ho hx; obtain ⟨g3, rfl⟩ := hx.grow; clear hx; have HO2 := Lib.hid ho; clear ho))
              have ha := HA.out
              simp only [HY.out] at ha
              exact ⟨⟨j + 1, g', c', G ++ [y], by omega, by simp; omega, by simp; omega, by go_num, by simp, ExtC.ext, Lib.hid ha.2, Lib.hid ha.1, HO2⟩, by simp [intOf]; omega⟩
            · have HQ := Lib.hid (show y ∈ G by simpa using q)
              go_wp2_with (first | (go_at_call 24; (with_reducible refine (spec_l00Has _ G _ _ (by assumption) _ (HO.out.ri.ext ExtC.ext) (by omega)).mono ?_); rintro e w' ⟨rfl, hx⟩; obtain ⟨g2, rfl⟩ := hx.grow; clear hx))
              exact ⟨⟨j + 1, fg', fc', G, by omega, hkG, hG, by go_num, rfl, ExtC.ext, HGX, Lib.hid (HB.out.had' hkG HGX.out HST.out.2 hjl (by rw [HY.out]; exact HQ.out)), Lib.hid ((HO.out.ext ExtC.ext).mono (Nat.le_refl _) (ExtC.ext : Ext g1.fin _).size)⟩, by simp [intOf]; omega⟩
          · go_wp2_with fail
            exact ⟨⟨k + 1, fg', fc', G, by omega, hG, by go_num, rfl, ExtC.ext, Lib.hid (HB.out.next' hkG HGX.out HST.out.2 (by omega)), HO⟩, by simp [intOf]; omega⟩
      · go_wp2_with fail
        exact ⟨⟨k + 1, fg, fc, F, by omega, hF, by go_num, rfl, ExtC.ext, Lib.hid (HB.out.speaks' hlt HX.out HST.out.1), HO⟩, by simp [intOf]; omega⟩
    · go_wp2_with fail
      refine bodyPost_ret (v := .slice (some ⟨fg, 0, none⟩) F.length fc) (by simp [results, Try.results38, go_sem]) rfl ?_
      exact ⟨fg, fc, F, rfl, HO.out, HB.out.all (by omega), hF, ExtC.ext⟩

set_option maxHeartbeats 4000000 in
set_option maxRecDepth 100000 in
theorem spec_l02Ends (v : Value) (m : Int) (L : List VD) (w : World) (h : VS w v L) (hok : OkV L) (h0 : 0 ≤ m) (h1 : m < L.length) (xs : List Int) (hxs : endsL L [] m = xs) :
    Calls Try.prog 32 #[v, .int .i64 m] w fun e w' => ∃ g c, e = .returned (.slice (some ⟨g, 0, none⟩) xs.length c) ∧ OwnI w.heap.size w'.heap.size w' (.slice (some ⟨g, 0, none⟩) xs.length c) xs ∧ Ext w w' := by
  have hln := hok.2
  have HR := fun x (hx : Ext w x) => spec_l02Reach v m L x (h.ext hx) hok h0 h1
  have HN := Lib.hid (show endsTo L m L.length = xs from hxs)
  obtain ⟨vb, vo, vc, rfl, hvb, hc⟩ := h.at
  have HC := Lib.hid hc
  clear hc h hok h0 h1 hxs
  go_enter Try.func32, Try.ntmps32
  go_wp2_with fail
  refine Calls.mono (HR _ ExtC.ext) ?_
  rintro e w' ⟨rg, rc, F, rfl, ho, hall, hF, hx⟩; obtain ⟨g1, rfl⟩ := hx.grow; clear hx HR
  have HRF := Lib.hid ho
  have HALL := Lib.hid hall
  clear ho hall
  go_wp2_with fail
  go_loopw [5, 7] (fun o i wr => ∃ (k og oc oa ob : Nat) (C : List Int), k ≤ L.length ∧ i = .int .i64 k ∧ o = .slice (some ⟨og, 0, none⟩) C.length oc ∧ C.length ≤ k ∧ Ext w wr ∧ Hid (C = endsTo L m k) ∧ Hid (OwnI oa ob wr (.slice (some ⟨og, 0, none⟩) C.length oc) C) ∧ Hid (OwnI (w.heap.size + 1) g1.fin.heap.size wr (.slice (some ⟨rg, 0, none⟩) F.length rc) F) ∧ Hid (w.heap.size ≤ oa ∧ ob ≤ wr.heap.size ∧ (ob ≤ w.heap.size + 1 ∨ g1.fin.heap.size ≤ oa) ∧ g1.fin.heap.size ≤ wr.heap.size)) (fun _ i _ => L.length - (intOf i).toNat)
  case atStart => exact ⟨0, w.heap.size, 0, w.heap.size, w.heap.size + 1, [], Nat.zero_le _, rfl, rfl, Nat.le_refl _, ExtC.ext, Lib.hid rfl, Lib.hid ((own_empty w w.heap.size (Nat.le_refl _)).ext ExtC.ext), Lib.hid (by have := HRF.out; simp only [World.size_alloc] at this; exact this), Lib.hid ⟨Nat.le_refl _, (by have := (ExtC.ext : Ext (w.alloc (.cells #[] 2)) g1.fin).size; simpa using this), .inl (Nat.le_refl _), Nat.le_refl _⟩⟩
  case round =>
    clear HRF
    obtain ⟨k, og, oc, oa, ob, C, hk, rfl, rfl, hC, hx, HCk, HO, HRF, HD⟩ := hrel
    obtain ⟨g0, rfl⟩ := hx.grow; clear hx
    by_cases hlt : k < L.length
    · obtain ⟨c1, -⟩ := HC.out (k : Int) (by omega) (by omega)
      rw [Int.toNat_natCast] at c1
      obtain ⟨s, hs⟩ : ∃ s, (At L (k : Int)).1 = s := ⟨_, rfl⟩
      rw [hs] at c1
      cases s
      · have HL := Lib.hid (endsTo_no (L := L) (a := m) (n := k) (by rw [hs]; simp))
        clear hs
        go_wp2_with fail
        exact ⟨⟨k + 1, og, oc, oa, ob, C, by omega, by go_num, rfl, by omega, ExtC.ext, Lib.hid (by rw [HL.out, HCk.out]), HO, HRF, HD⟩, by simp [intOf]; omega⟩
      · cases q : decide ((k : Int) ∈ F)
        · have HL := Lib.hid (endsTo_no (L := L) (a := m) (n := k) (fun h => by have := (HALL.out _).2 h.2; simp [this] at q))
          clear hs
          go_wp2_with (first | (go_at_call 24; (with_reducible refine (spec_l00Has _ F _ _ (by assumption) _ (HRF.out.ri.ext ExtC.ext) (by omega)).mono ?_); rintro e w' ⟨rfl, hx⟩; obtain ⟨g2, rfl⟩ := hx.grow; clear hx))
          have z := (ExtC.ext : Ext g0.fin g2.fin).size
          have hd := HD.out
          exact ⟨⟨k + 1, og, oc, oa, ob, C, by omega, by go_num, rfl, by omega, ExtC.ext, Lib.hid (by rw [HL.out, HCk.out]), Lib.hid (HO.out.ext ExtC.ext), Lib.hid (HRF.out.ext ExtC.ext), Lib.hid ⟨hd.1, Nat.le_trans hd.2.1 z, hd.2.2.1, Nat.le_trans hd.2.2.2 z⟩⟩, by simp [intOf]; omega⟩
        · have HL := Lib.hid (endsTo_yes (L := L) (a := m) (n := k) ⟨hs, (HALL.out _).1 (by simpa using q)⟩)
          clear hs
          go_wp2_with (first | (go_at_call 24; (with_reducible refine (spec_l00Has _ F _ _ (by assumption) _ (HRF.out.ri.ext ExtC.ext) (by omega)).mono ?_); rintro e w' ⟨rfl, hx⟩; obtain ⟨g2, rfl⟩ := hx.grow; clear hx) | (at_builtin; refine app_o (lo := oa) (hi := ob) _ _ (.slice (some ⟨og, 0, none⟩) C.length oc) (.slice (some ⟨g2.fin.heap.size, 0, none⟩) 1 1) C [(k : Int)] rfl rfl rfl (HO.out.ext ExtC.ext) (by simp) rfl (IS.of_own (own_one g2.fin (k : Int))).ri (by simp) (by simp; omega) ?_; intro g' c' oa' ob' w1 ho hn; obtain ⟨g3, rfl⟩ := (Ext.rng (a := w) ExtC.ext hn.2 HD.out.1).grow; have HO2 := Lib.hid (And.intro ho hn); clear ho hn))
          obtain ⟨ho, hn, hr⟩ := HO2.out
          obtain ⟨d1, d2, d3, d4⟩ := HD.out
          have z := (ExtC.ext : Ext g0.fin g2.fin).size
          have zr := hr.size
          have zw := (ExtC.ext : Ext w g1.fin).size
          simp only [World.size_alloc] at hn zr
          exact ⟨⟨k + 1, g', c', oa', ob', C ++ [(k : Int)], by omega, by go_num, by simp, by simp; omega, ExtC.ext, Lib.hid (by rw [HL.out, HCk.out]), Lib.hid (by simpa using ho), Lib.hid ((HRF.out.ext ExtC.ext).rng hr (by omega)), Lib.hid ⟨by omega, by omega, by omega, by omega⟩⟩, by simp [intOf]; omega⟩
    · have e : k = L.length := by omega
      have e2 : C = xs := by rw [HCk.out, e]; exact HN.out
      subst e2
      go_wp2_with fail
      refine bodyPost_ret (v := .slice (some ⟨og, 0, none⟩) C.length oc) (by simp [results, Try.results32, go_sem]) rfl ?_
      exact ⟨_, _, rfl, HO.out.mono HD.out.1 HD.out.2.1, ExtC.ext⟩

set_option maxHeartbeats 4000000 in
set_option maxRecDepth 100000 in
theorem spec_l02AllEnds (v : Value) (L : List VD) (w : World) (h : VS w v L) (hok : OkV L) (X : List (List Int)) (hX : allE L L.length = X) :
    Calls Try.prog 25 #[v] w fun e w' => ∃ g c, e = .returned (.slice (some ⟨g, 0, none⟩) X.length c) ∧ OwnR intKind 24 w.heap.size w'.heap.size w' (.slice (some ⟨g, 0, none⟩) X.length c) X ∧ Ext w w' := by
  have hln := hok.2
  have HN := Lib.hid hX
  have HE := fun (k : Nat) (hk : k < L.length) x (hx : Ext w x) => spec_l02Ends v (k : Int) L x (h.ext hx) hok (by omega) (by omega) _ rfl
  have HEN := Lib.hid (fun k : Nat => endsL_length L (k : Int))
  obtain ⟨vb, vo, vc, rfl, -⟩ := h
  clear hX hok
  go_enter Try.func25, Try.ntmps25
  go_wp2_with fail
  go_loopw [3, 4] (fun o i wr => ∃ (k og oc : Nat) (C : List (List Int)), k ≤ L.length ∧ i = .int .i64 k ∧ o = .slice (some ⟨og, 0, none⟩) C.length oc ∧ C.length ≤ k ∧ Ext w wr ∧ Hid (C = allE L k) ∧ Hid (OwnR intKind 24 w.heap.size wr.heap.size wr (.slice (some ⟨og, 0, none⟩) C.length oc) C)) (fun _ i _ => L.length - (intOf i).toNat)
  case atStart => exact ⟨0, _, _, [], Nat.zero_le _, rfl, rfl, Nat.le_refl _, ExtC.ext, Lib.hid rfl, Lib.hid ((own_rows_empty w w.heap.size (Nat.le_refl _)).mono (Nat.le_refl _) (by simp))⟩
  case round =>
    obtain ⟨k, og, oc, C, hk, rfl, rfl, hC, hx, HCk, HO⟩ := hrel
    obtain ⟨g0, rfl⟩ := hx.grow; clear hx
    by_cases hlt : k < L.length
    · have R := HE k hlt
      have HL := Lib.hid (allE_succ L k)
      obtain ⟨E, hE⟩ : ∃ E, endsL L [] (k : Int) = E := ⟨_, rfl⟩
      have hen := HEN.out k
      have HLE := Lib.hid hE
      rw [hE] at hen
      simp only [hE] at R
      clear hE
      go_wp2_with (first | (go_at_call 32; (with_reducible refine (R _ ExtC.ext).mono ?_); rintro e w' ⟨eg, ec, rfl, ho, hx⟩; obtain ⟨g1, rfl⟩ := hx.grow; clear hx; have HS := Lib.hid ho; clear ho R) | (at_builtin; refine app_row (w0 := w) (lo := w.heap.size) (mid := g0.fin.heap.size) (hi := g1.fin.heap.size) _ _ og oc C ⟨g1.fin.heap.size, 0, none⟩ 1 (.slice (some ⟨eg, 0, none⟩) E.length ec) E rfl rfl rfl (HO.out.ext ExtC.ext) rfl (cell_new _ _ _) rfl (HS.out.ext ExtC.ext) (ExtC.ext : Ext w g0.fin).size (by simp) (by have := (ExtC.ext : Ext g0.fin g1.fin).size; simp; omega) (by omega) ExtC.ext (by simp) ?_; intro g' c' w' ho hx; obtain ⟨g3, rfl⟩ := hx.grow; clear hx; have HO2 := Lib.hid ho; clear ho))
      exact ⟨⟨k + 1, g', c', C ++ [E], by omega, by go_num, by simp, by simp; omega, ExtC.ext, Lib.hid (by rw [HL.out, HCk.out, HLE.out]), HO2⟩, by simp [intOf]; omega⟩
    · have e : k = L.length := by omega
      have e2 : C = X := by rw [HCk.out, e]; exact HN.out
      subst e2
      go_wp2_with fail
      refine bodyPost_ret (v := .slice (some ⟨og, 0, none⟩) C.length oc) (by simp [results, Try.results25, go_sem]) rfl ?_
      exact ⟨_, _, rfl, HO.out, ExtC.ext⟩
end Go.Proofs.Ythcomgnokkndgaa
