/- A pool read from its text: the reference's side. -/
import Derived.Test.YthcomgnokkndgaaDoorReadPQ
import Derived.Deep.AppendLies
import Derived.Deep.RegionLaw
namespace Go.Proofs.YthcomgnokkndgaaDoor
open Go.RowKit

theorem drop_headP {s : ByteArray} {k : Nat} (h : k < s.size) : (s.data.toList.drop k).head? = some s[k] := by
  rw [List.head?_drop, List.getElem?_eq_getElem (by rw [size_list]; exact h), get_list s k h]
/-- A box of three cells that may be written. -/
structure Bx3 (b : Nat) (u0 u1 u2 : Value) (x : World) : Prop where
  inw : InW b x
  c0 : x.cell? ⟨b, 0, none⟩ = some u0
  c1 : x.cell? ⟨b, 1, none⟩ = some u1
  c2 : x.cell? ⟨b, 2, none⟩ = some u2
  f0 : x.frozen? ⟨b, 0, none⟩ = false
  f1 : x.frozen? ⟨b, 1, none⟩ = false
  f2 : x.frozen? ⟨b, 2, none⟩ = false
theorem Bx3.ext {b : Nat} {u0 u1 u2 : Value} {x y : World} (h : Bx3 b u0 u1 u2 x) (hx : Ext x y) : Bx3 b u0 u1 u2 y :=
  ⟨⟨Nat.lt_of_lt_of_le h.inw.lt hx.size⟩, by rw [Below.cell hx h.inw.lt]; exact h.c0, by rw [Below.cell hx h.inw.lt]; exact h.c1, by rw [Below.cell hx h.inw.lt]; exact h.c2, by rw [Below.frozen hx h.inw.lt]; exact h.f0, by rw [Below.frozen hx h.inw.lt]; exact h.f1, by rw [Below.frozen hx h.inw.lt]; exact h.f2⟩
theorem Bx3.store {b : Nat} {u0 u1 u2 : Value} {x : World} (h : Bx3 b u0 u1 u2 x) (v : Value) : Bx3 b v u1 u2 (x.setCell ⟨b, 0, none⟩ v) :=
  ⟨⟨by rw [World.size_setCell]; exact h.inw.lt⟩, World.cell?_setCell_same _ _ _ h.c0, by rw [World.cell?_setCell_other _ _ _ _ (by simp)]; exact h.c1, by rw [World.cell?_setCell_other _ _ _ _ (by simp)]; exact h.c2, by rw [World.frozen?_setCell]; exact h.f0, by rw [World.frozen?_setCell]; exact h.f1, by rw [World.frozen?_setCell]; exact h.f2⟩
theorem Rng.bx3 {b lo hi : Nat} {u0 u1 u2 : Value} {x y : World} (hr : Rng lo hi x y) (h : Bx3 b u0 u1 u2 x) (hd : b < lo ∨ hi ≤ b) : Bx3 b u0 u1 u2 y :=
  ⟨⟨Nat.lt_of_lt_of_le h.inw.lt hr.size⟩, rng_cell hr h.c0 h.inw.lt hd, rng_cell hr h.c1 h.inw.lt hd, rng_cell hr h.c2 h.inw.lt hd, by rw [rng_frozen hr h.inw.lt hd]; exact h.f0, by rw [rng_frozen hr h.inw.lt hd]; exact h.f1, by rw [rng_frozen hr h.inw.lt hd]; exact h.f2⟩
theorem OwnI.narrow {lo hi g n c : Nat} {w : World} {xs : List Int} (h : OwnI lo hi w (.slice (some ⟨g, 0, none⟩) n c) xs) : OwnI g (g + 1) w (.slice (some ⟨g, 0, none⟩) n c) xs ∧ lo ≤ g ∧ g < hi ∧ g < w.heap.size := by
  rcases h with ⟨e, _⟩ | ⟨g0, cap, e, h1, h2, how⟩
  · cases e
  · have e1 := e
    simp only [Value.slice.injEq, Option.some.injEq, Addr.mk.injEq, and_true] at e
    obtain ⟨rfl, rfl, rfl⟩ := e
    refine ⟨.inr ⟨g, c, rfl, Nat.le_refl _, Nat.lt_succ_self _, ?_⟩, h1, h2, (how.lt g rfl).2⟩
    obtain ⟨k1, k2⟩ := how
    refine ⟨k1, ?_⟩
    rcases k2 with k2 | ⟨g', cap', cur, e1, e2, e3, r⟩
    · exact .inl k2
    · have e1' := e1
      simp only [Value.slice.injEq, Option.some.injEq, Addr.mk.injEq, and_true, true_and] at e1
      obtain ⟨rfl, rfl⟩ := e1
      exact .inr ⟨_, _, cur, e1', Nat.le_refl _, e3, r⟩

theorem cell_laidQ (w : World) (n : Int) (T : TypeId) {j : Nat} {u : Value} (hu : [Value.int .i64 n][j]? = some u) : (w.alloc (.cells #[.int .i64 n] T)).cell? ((⟨w.heap.size, 0, none⟩ : Addr).add j) = some u := by
  have : j = 0 := by have := (List.getElem?_eq_some_iff.1 hu).1; simpa using this
  subst this
  simp at hu
  subst hu
  rw [add_plain', World.cell?_alloc_at _ _ _ _ rfl]; rfl
theorem mem_row {lo g n c : Nat} {w : World} {D : List Int} {x : Int} (h : w.ownsRow lo 2 1 (.slice (some ⟨g, 0, none⟩) (n + 1) c) (n + 1) (D.map iv ++ [.int .i64 x])) (hl : D.length = n) : OwnI g (g + 1) w (.slice (some ⟨g, 0, none⟩) (n + 1) c) (D ++ [x]) := by
  subst hl
  have e : (D ++ [x]).length = D.length + 1 := by simp
  have h2 : OwnI lo w.heap.size w (.slice (some ⟨g, 0, none⟩) (D.length + 1) c) (D ++ [x]) := OwnI.of_row (by rw [e, List.map_append]; exact h)
  exact h2.narrow.1

set_option maxHeartbeats 16000000 in
set_option maxRecDepth 100000 in
theorem spec_ReadPool' (s : ByteArray) (w : World) (hs : s.size ≤ 1048576) (pe sz : Int) (L : List QD) (b : Bool) (hv : PoolIs s pe sz L b) :
    Calls Tryd.prog 11 #[.string s] w fun e w' => ∃ qv, e = .returned (.tuple #[.agg #[.int .i64 pe, .int .i64 sz, qv], .bool b]) ∧ OwnQt w.heap.size w'.heap.size w' qv L ∧ Ext w w' := by
  have HRET := Lib.hid (fun (P : b = true → False) => (by
    rcases hv with ⟨k0, -, -⟩ | ⟨k0, k1, -⟩
    · exact absurd k0 P
    · exact ⟨k0, k1⟩ : b = false ∧ pe = 0 ∧ sz = 0 ∧ L = []))
  have HV := Lib.hid hv
  have RG := fun (a : Nat) (ha : a ≤ 1048700) x (hx : dgL s.data.toList a = x) y => spec_l04Digit s a y hs ha x hx
  obtain ⟨pe0, hpe0⟩ : ∃ x, dgL s.data.toList 0 = x := ⟨_, rfl⟩
  obtain ⟨sz0, hsz0⟩ : ∃ x, dgL s.data.toList 2 = x := ⟨_, rfl⟩
  have HPS := Lib.hid (And.intro hpe0 hsz0)
  have q1 := dgL_range s.data.toList 0
  have q2 := dgL_range s.data.toList 2
  rw [hpe0] at q1
  rw [hsz0] at q2
  have R1 : ∀ y, Calls Tryd.prog 31 #[.string s, .int .i64 0] y fun e w' => e = .returned (.int .i64 pe0) ∧ Ext y w' := RG 0 (by omega) _ hpe0
  have R2 : ∀ y, Calls Tryd.prog 31 #[.string s, .int .i64 2] y fun e w' => e = .returned (.int .i64 sz0) ∧ Ext y w' := RG 2 (by omega) _ hsz0
  clear hv hpe0 hsz0
  go_enter Tryd.func11, Tryd.ntmps11
  go_wp2_with (first | (go_at_call 31; (with_reducible refine (R1 _).mono ?_); rintro e w' ⟨rfl, hx⟩; obtain ⟨g1, rfl⟩ := hx.grow; clear hx R1) | (go_at_call 31; (with_reducible refine (R2 _).mono ?_); rintro e w' ⟨rfl, hx⟩; obtain ⟨g2, rfl⟩ := hx.grow; clear hx))
  have HZ2 := Lib.hid (ExtC.ext : Ext w g2.fin).size
  have HZ3 := Lib.hid (show w.heap.size + 1 ≤ g2.fin.heap.size from by have := (ExtC.ext : Ext (w.alloc (.cells #[.int .i64 0, .int .i64 0, .slice none 0 0] 30)) g2.fin).size; simpa only [World.size_alloc] using this)
  have npb : NewB w (g2.fin.heap.size + 1) := ⟨Nat.le_trans (ExtC.ext : Ext w g2.fin).size (Nat.le_succ _)⟩
  go_loopw [5] (fun i wr => ∃ (k qg n qc : Nat) (C : List QD), k ≤ s.size + 8 ∧ i = .int .i64 k ∧ n ≤ 7 ∧ Ext w wr ∧ BxF (g2.fin.heap.size + 1) pe0 sz0 (.slice (some ⟨qg, 0, none⟩) n qc) wr ∧ BxF w.heap.size 0 0 (.slice none 0 0) wr ∧ Hid (OwnQh (g2.fin.heap.size + 1) (w.heap.size + 1) wr.heap.size wr qg n qc C) ∧ Hid (∀ p z M, OkP p z M → ptexts p z M = s.data.toList → Po s.data.toList M C k) ∧ Hid (∀ q ∈ C, q.1.length ≤ s.size)) (fun i _ => s.size + 8 - (intOf i).toNat)
  case atStart =>
    refine ⟨3, g2.fin.heap.size, 0, 0, [], by omega, rfl, by omega, ExtC.ext, ?_, ?_, Lib.hid ?_, Lib.hid (fun p z M hok ht => (Po.start hok ht).2.2), Lib.hid (by simp)⟩
    · exact ⟨inferInstance, by simp [go_sem], by simp [go_sem], by simp [go_sem], by simp [go_sem], by simp [go_sem], by simp [go_sem]⟩
    · exact ⟨inferInstance, by simp [go_sem], by simp [go_sem], by simp [go_sem], by simp [go_sem], by simp [go_sem], by simp [go_sem]⟩
    · refine ⟨rfl, HZ3.out, by simp only [World.size_alloc]; omega, by omega, [], fun _ => undef, fun _ => 0, fun _ => 0, ?_, fun i hi => absurd hi (by simp), fun i j _ hj => absurd hj (by simp)⟩
      exact ownsRow_ext (World.ownsRow_made (e := 60) (size := 3) (base := w.heap.size + 1) g2.fin #[] 0 HZ3.out (by unfold maxLen; omega) (by rfl)) ExtC.ext
  case round =>
    obtain ⟨k, qg, n, qc, C, hk, rfl, hn7, hx, hB1, hB2, HO, HTD, HFW⟩ := hrel
    obtain ⟨g0, rfl⟩ := hx.grow; clear hx
    have HB := Lib.hid (And.intro hB1 hB2)
    obtain ⟨ib, c0, c1, c2, f0, f1, f2⟩ := hB1
    obtain ⟨jb, x0, x1, x2, h0, h1, h2⟩ := hB2
    have HCL := Lib.hid HO.out.1
    by_cases hks : k < s.size
    · obtain ⟨c, hc⟩ : ∃ c, s[k].toNat = c := ⟨_, rfl⟩
      have HDH := Lib.hid (drop_headP hks)
      have HC := Lib.hid hc
      by_cases h59 : c = 59
      · have hb59 : ((c : Int) == 59) = true := by simp [h59]
        have HS59 := Lib.hid (show s[k] = 59 from UInt8.toNat_inj.1 (hc.trans h59))
        clear h59
        by_cases hn6 : n ≤ 6
        · have hn6i : (n : Int) ≤ 6 := by omega
          go_wp2_with fail
          go_loopw [5] (fun i wr => ∃ (j mg mn mc : Nat) (D : List Int), k ≤ j ∧ j ≤ s.size + 1 ∧ i = .int .i64 j ∧ Ext g0.fin wr ∧ Bx3 (g0.fin.heap.size + 1) (.slice (some ⟨mg, 0, none⟩) mn mc) (.int .i64 0) (.int .i64 0) wr ∧ Hid (mg ≠ g0.fin.heap.size + 1 ∧ g0.fin.heap.size ≤ mg ∧ mg < wr.heap.size) ∧ Hid (OwnI mg (mg + 1) wr (.slice (some ⟨mg, 0, none⟩) mn mc) D) ∧ Hid (D.length = mn ∧ D.length ≤ j ∧ D.length ≤ s.size) ∧ Hid (∀ p z M, OkP p z M → ptexts p z M = s.data.toList → Pi s.data.toList M C D j)) (fun i _ => s.size + 8 - (intOf i).toNat)
          case atStart =>
            refine ⟨k, g0.fin.heap.size, 0, 0, [], Nat.le_refl _, by omega, rfl, ExtC.ext, ?_, Lib.hid ⟨by omega, Nat.le_refl _, by simp only [World.size_alloc]; omega⟩, Lib.hid ?_, Lib.hid ⟨rfl, by simp, by simp⟩, Lib.hid (fun p z M hok ht => (HTD.out p z M hok ht).quota hok.niceQ (by rw [HDH.out, HS59.out]))⟩
            · exact ⟨inferInstance, by simp [go_sem], by simp [go_sem], by simp [go_sem], by simp [go_sem], by simp [go_sem], by simp [go_sem]⟩
            · exact .inr ⟨_, _, rfl, Nat.le_refl _, Nat.lt_succ_self _, ownsRow_ext (World.ownsRow_made (e := 2) (size := 1) (base := g0.fin.heap.size) g0.fin #[] 0 (Nat.le_refl _) (by unfold maxLen; omega) (by rfl)) ExtC.ext⟩
          case round =>
            obtain ⟨j, mg, mn, mc, D, hkj, hj, rfl, hx, hB3, HMG, HMO, HDL, HPI⟩ := hrel
            obtain ⟨g3, rfl⟩ := hx.grow; clear hx
            have HB3 := Lib.hid hB3
            obtain ⟨iq, y0, y1, y2, z0, z1, z2⟩ := hB3
            have hne1 : ¬ g0.fin.heap.size = g2.fin.heap.size := by have := ib.lt; omega
            have hne2 : ¬ g2.fin.heap.size = g0.fin.heap.size := by have := ib.lt; omega
            have nq : NewB g0.fin (g0.fin.heap.size + 1) := ⟨Nat.le_succ _⟩
            have nw : NewB w (g0.fin.heap.size + 1) := ⟨Nat.le_trans (ExtC.ext : Ext w g0.fin).size (Nat.le_succ _)⟩
            by_cases hjs : j < s.size
            · obtain ⟨c3, hc3⟩ : ∃ c, s[j].toNat = c := ⟨_, rfl⟩
              have HDJ := Lib.hid (drop_headP hjs)
              have HC3 := Lib.hid hc3
              by_cases h61 : c3 = 61
              · have hb61 : ((c3 : Int) == 61) = true := by simp [h61]
                have HNO := Lib.hid (show ¬ (j < s.data.toList.length ∧ (s.data.toList.drop j).head? ≠ some 61) from fun q => q.2 (by rw [HDJ.out, show s[j] = 61 from UInt8.toNat_inj.1 (hc3.trans h61)]))
                clear h61
                obtain ⟨vl, hvl⟩ : ∃ x, dgL s.data.toList (j + 1) = x := ⟨_, rfl⟩
                obtain ⟨vh, hvh⟩ : ∃ x, dgL s.data.toList (j + 4) = x := ⟨_, rfl⟩
                have ql := dgL_range s.data.toList (j + 1)
                have qh := dgL_range s.data.toList (j + 4)
                have S1 : ∀ y, Calls Tryd.prog 31 #[.string s, .int .i64 ((j : Int) + 1)] y fun e w' => e = .returned (.int .i64 vl) ∧ Ext y w' := RG (j + 1) (by omega) _ hvl
                have S2 : ∀ y, Calls Tryd.prog 31 #[.string s, .int .i64 ((j : Int) + 4)] y fun e w' => e = .returned (.int .i64 vh) ∧ Ext y w' := RG (j + 4) (by omega) _ hvh
                have HPD := Lib.hid (fun p z M (hok : OkP p z M) (ht : ptexts p z M = s.data.toList) => (by
                  have := (HPI.out p z M hok ht).done hok.niceQ HNO.out
                  rwa [hvl, hvh] at this : Po s.data.toList M (C ++ [(D, vl, vh)]) (j + 5)))
                rw [hvl] at ql
                rw [hvh] at qh
                clear RG R2 hvl hvh
                go_wp2_with (first | (go_at_call 31; (with_reducible refine (S1 _).mono ?_); rintro e w' ⟨rfl, hx⟩; obtain ⟨g4, rfl⟩ := hx.grow; clear hx S1) | (go_at_call 31; (with_reducible refine (S2 _).mono ?_); rintro e w' ⟨rfl, hx⟩; obtain ⟨g5, rfl⟩ := hx.grow; clear hx S2; have HSZ := Lib.hid (And.intro (ExtC.ext : Ext g3.fin g4.fin).size (And.intro (ExtC.ext : Ext (g4.fin.setCell ⟨g0.fin.heap.size + 1, 1, none⟩ (.int .i64 vl)) g5.fin).size (ExtC.ext : Ext g0.fin g3.fin).size)); simp only [World.size_setCell] at HSZ) | (at_builtin; refine app_quotaH (w0 := w) (pb := g2.fin.heap.size + 1) (lo := w.heap.size + 1) (mid0 := g0.fin.heap.size) (mid := mg) (hi := mg + 1) _ _ qg qc n C ⟨g5.fin.heap.size, 0, none⟩ 1 (.slice (some ⟨mg, 0, none⟩) mn mc) D vl vh rfl rfl rfl (HO.out.ext ExtC.ext) rfl (by rw [add_plain', World.cell?_alloc_at _ _ _ _ (by simp)]; rfl) (by rw [add_plain', World.cell?_alloc_at _ _ _ _ (by simp)]; rfl) (by rw [add_plain', World.cell?_alloc_at _ _ _ _ (by simp)]; rfl) (OwnI.ext (OwnI.setCell (n := g0.fin.heap.size + 1) (o := 2) (s := none) (u := .int .i64 vh) (OwnI.ext (OwnI.setCell (n := g0.fin.heap.size + 1) (o := 1) (s := none) (u := .int .i64 vl) (HMO.out.ext (ExtC.ext : Ext g3.fin g4.fin)) (by have := HMG.out.1; omega)) (ExtC.ext : Ext (g4.fin.setCell ⟨g0.fin.heap.size + 1, 1, none⟩ (.int .i64 vl)) g5.fin)) (by have := HMG.out.1; omega)) ExtC.ext) HMG.out.2.1 (Nat.lt_of_lt_of_le ib.lt HMG.out.2.1) (by have h := HSZ.out; have h2 := HMG.out; simp only [World.size_alloc, World.size_setCell]; omega) (by have h := HSZ.out; have h2 := HMG.out; simp only [World.size_alloc, World.size_setCell]; omega) (by have h := HSZ.out; have h2 := ib.lt; simp only [World.size_alloc, World.size_setCell]; omega) (by omega) ExtC.ext (Nat.le_succ _) ?_; intro g' c' w1 ho hr hx; obtain ⟨g9, rfl⟩ := hx.grow; clear hx; have HO2 := Lib.hid ho; clear ho; have HB9 := Lib.hid (And.intro (Rng.bxf hr (HB.out.1.ext ExtC.ext) (by have := HO.out.2.2.2.1; omega)) (Rng.bxf hr (HB.out.2.ext ExtC.ext) (.inl HO.out.2.1))); clear hr; obtain ⟨ib9, a0, a1, a2, b0, b1, b2⟩ := HB9.out.1))
                go_roundw
                case rel =>
                  obtain ⟨hB1, hB2⟩ := HB9.out
                  exact ⟨j + 5, g', n + 1, c', C ++ [(D, vl, vh)], by omega, by go_num, by omega, ExtC.ext, hB1.store _, hB2.far (by have := HZ2.out; omega) _, Lib.hid (by rw [World.size_setCell]; exact HO2.out.setBox _), HPD, Lib.hid (fun q hq => by
                    rcases List.mem_append.1 hq with e | e
                    · exact HFW.out q e
                    · rw [List.mem_singleton.1 e]; exact HDL.out.2.2)⟩
                case measure => simp [intOf]; omega
              · have hb61 : ((c3 : Int) == 61) = false := by simp; omega
                have HN61 := Lib.hid (show (s.data.toList.drop j).head? ≠ some 61 from fun q => by
                  rw [HDJ.out] at q
                  have q := Option.some.inj q
                  exact h61 (by rw [← hc3, q]; rfl))
                clear h61
                obtain ⟨x, hxv⟩ : ∃ x, dgL s.data.toList (j + 1) = x := ⟨_, rfl⟩
                have qx := dgL_range s.data.toList (j + 1)
                have S1 : ∀ y, Calls Tryd.prog 31 #[.string s, .int .i64 ((j : Int) + 1)] y fun e w' => e = .returned (.int .i64 x) ∧ Ext y w' := RG (j + 1) (by omega) _ hxv
                have HPM := Lib.hid (fun p z M (hok : OkP p z M) (ht : ptexts p z M = s.data.toList) => (by
                  have := (HPI.out p z M hok ht).member hok.niceQ HN61.out
                  rwa [hxv] at this : Pi s.data.toList M C (D ++ [x]) (j + 2)))
                rw [hxv] at qx
                clear hxv
                have hwr : IntKind.i64.wrap ((j : Int) + 1) = (j : Int) + 1 := wrap_small _ (by omega) (by omega)
                go_wp2_with fail
                obtain ⟨i0, hi0, hz0, hz1', hz2⟩ := info_parts Tryd.info_i64
                have HRW := Lib.hid (fun y (hy : Ext g3.fin y) => (by
                  have h := (HMO.out.ext hy).row
                  rw [HDL.out.1] at h
                  exact h : y.ownsRow mg 2 1 (.slice (some ⟨mg, 0, none⟩) mn mc) mn (D.map iv)))
                have hmn : mn ≤ 1048576 := by have := HDL.out; omega
                go_region_law (first | (go_simp; go_at_call 31; (with_reducible refine (S1 _).mono ?_); rintro e w1 ⟨rfl, hx⟩; obtain ⟨g4, rfl⟩ := hx.grow; clear hx) | (refine step_append_lies _ rfl (.tmp 42) (.tmp 47) 58 rfl mg 2 i0 (.int .i64 0) 1 8 Tryd.underlying58 hi0 hz0 hz1' hz2 rfl (by decide) (.slice (some ⟨mg, 0, none⟩) mn mc) mn (D.map iv) (by simp [Act.eval]) (HRW.out _ ExtC.ext) ⟨g4.fin.heap.size, 0, none⟩ 1 1 [.int .i64 x] (by simp [Act.eval]) rfl (fun j u hu => cell_laidQ g4.fin x 2 hu) (fun u hu => by simp at hu; subst hu; rfl) (by omega) (by unfold maxLen; omega) (by omega) (by have h1 := HMG.out.2.2; have h2 := (ExtC.ext : Ext g3.fin g4.fin).size; simp only [World.size_alloc]; omega) (g4.fin.heap.size + 1) (by simp only [World.size_alloc]) (fun g' c' w2 hown hgrow hat hlt => ?_); have hr : Rng mg (mg + 1) _ w2 := rng_of_grown hgrow; have hx : Ext g0.fin w2 := Ext.grown ExtC.ext hgrow (fun k hk => by simp [Value.ownBlock] at hk; have := HMG.out.2.1; omega); obtain ⟨g5, rfl⟩ := hx.grow; clear hx hgrow; have HO2 := Lib.hid (And.intro hown (And.intro hat hlt)); clear hown hat hlt; have HB5 := Lib.hid (Rng.bx3 hr (HB3.out.ext ExtC.ext) (by have := HMG.out.1; omega)); clear hr; obtain ⟨ib5, a0, a1, a2, b0, b1, b2⟩ := HB5.out))
                all_goals (go_wp2_with fail)
                all_goals go_roundw
                all_goals
                  first
                  | (obtain ⟨ho, hat, hlt⟩ := HO2.out
                     have hD := HDL.out
                     have hz := mem_row ho hD.1
                     have h4 := (ExtC.ext : Ext g3.fin g4.fin).size
                     have h5 := HMG.out
                     have h6 := iq.lt
                     have hne : g' ≠ g0.fin.heap.size + 1 ∧ g0.fin.heap.size ≤ g' := by
                       rcases hat with q | q
                       · simp [Value.ownBlock] at q; omega
                       · omega
                     exact ⟨j + 2, g', mn + 1, c', D ++ [x], by omega, by omega, by go_num, ExtC.ext, HB5.out.store _, Lib.hid ⟨hne.1, hne.2, by rw [World.size_setCell]; exact hlt⟩, Lib.hid (OwnI.setCell hz (by omega)), Lib.hid ⟨by rw [List.length_append, hD.1]; rfl, by rw [List.length_append]; simp; omega, by rw [List.length_append]; simp; omega⟩, HPM⟩)
                  | (clear hwr; simp [intOf]; omega)
            · have HNO := Lib.hid (show ¬ (j < s.data.toList.length ∧ (s.data.toList.drop j).head? ≠ some 61) from fun q => hjs (by have := q.1; rwa [size_list] at this))
              obtain ⟨vl, hvl⟩ : ∃ x, dgL s.data.toList (j + 1) = x := ⟨_, rfl⟩
              obtain ⟨vh, hvh⟩ : ∃ x, dgL s.data.toList (j + 4) = x := ⟨_, rfl⟩
              have ql := dgL_range s.data.toList (j + 1)
              have qh := dgL_range s.data.toList (j + 4)
              have S1 : ∀ y, Calls Tryd.prog 31 #[.string s, .int .i64 ((j : Int) + 1)] y fun e w' => e = .returned (.int .i64 vl) ∧ Ext y w' := RG (j + 1) (by omega) _ hvl
              have S2 : ∀ y, Calls Tryd.prog 31 #[.string s, .int .i64 ((j : Int) + 4)] y fun e w' => e = .returned (.int .i64 vh) ∧ Ext y w' := RG (j + 4) (by omega) _ hvh
              have HPD := Lib.hid (fun p z M (hok : OkP p z M) (ht : ptexts p z M = s.data.toList) => (by
                have := (HPI.out p z M hok ht).done hok.niceQ HNO.out
                rwa [hvl, hvh] at this : Po s.data.toList M (C ++ [(D, vl, vh)]) (j + 5)))
              rw [hvl] at ql
              rw [hvh] at qh
              clear RG R2 hvl hvh
              go_wp2_with (first | (go_at_call 31; (with_reducible refine (S1 _).mono ?_); rintro e w' ⟨rfl, hx⟩; obtain ⟨g4, rfl⟩ := hx.grow; clear hx S1) | (go_at_call 31; (with_reducible refine (S2 _).mono ?_); rintro e w' ⟨rfl, hx⟩; obtain ⟨g5, rfl⟩ := hx.grow; clear hx S2; have HSZ := Lib.hid (And.intro (ExtC.ext : Ext g3.fin g4.fin).size (And.intro (ExtC.ext : Ext (g4.fin.setCell ⟨g0.fin.heap.size + 1, 1, none⟩ (.int .i64 vl)) g5.fin).size (ExtC.ext : Ext g0.fin g3.fin).size)); simp only [World.size_setCell] at HSZ) | (at_builtin; refine app_quotaH (w0 := w) (pb := g2.fin.heap.size + 1) (lo := w.heap.size + 1) (mid0 := g0.fin.heap.size) (mid := mg) (hi := mg + 1) _ _ qg qc n C ⟨g5.fin.heap.size, 0, none⟩ 1 (.slice (some ⟨mg, 0, none⟩) mn mc) D vl vh rfl rfl rfl (HO.out.ext ExtC.ext) rfl (by rw [add_plain', World.cell?_alloc_at _ _ _ _ (by simp)]; rfl) (by rw [add_plain', World.cell?_alloc_at _ _ _ _ (by simp)]; rfl) (by rw [add_plain', World.cell?_alloc_at _ _ _ _ (by simp)]; rfl) (OwnI.ext (OwnI.setCell (n := g0.fin.heap.size + 1) (o := 2) (s := none) (u := .int .i64 vh) (OwnI.ext (OwnI.setCell (n := g0.fin.heap.size + 1) (o := 1) (s := none) (u := .int .i64 vl) (HMO.out.ext (ExtC.ext : Ext g3.fin g4.fin)) (by have := HMG.out.1; omega)) (ExtC.ext : Ext (g4.fin.setCell ⟨g0.fin.heap.size + 1, 1, none⟩ (.int .i64 vl)) g5.fin)) (by have := HMG.out.1; omega)) ExtC.ext) HMG.out.2.1 (Nat.lt_of_lt_of_le ib.lt HMG.out.2.1) (by have h := HSZ.out; have h2 := HMG.out; simp only [World.size_alloc, World.size_setCell]; omega) (by have h := HSZ.out; have h2 := HMG.out; simp only [World.size_alloc, World.size_setCell]; omega) (by have h := HSZ.out; have h2 := ib.lt; simp only [World.size_alloc, World.size_setCell]; omega) (by omega) ExtC.ext (Nat.le_succ _) ?_; intro g' c' w1 ho hr hx; obtain ⟨g9, rfl⟩ := hx.grow; clear hx; have HO2 := Lib.hid ho; clear ho; have HB9 := Lib.hid (And.intro (Rng.bxf hr (HB.out.1.ext ExtC.ext) (by have := HO.out.2.2.2.1; omega)) (Rng.bxf hr (HB.out.2.ext ExtC.ext) (.inl HO.out.2.1))); clear hr; obtain ⟨ib9, a0, a1, a2, b0, b1, b2⟩ := HB9.out.1))
              go_roundw
              case rel =>
                obtain ⟨hB1, hB2⟩ := HB9.out
                exact ⟨j + 5, g', n + 1, c', C ++ [(D, vl, vh)], by omega, by go_num, by omega, ExtC.ext, hB1.store _, hB2.far (by have := HZ2.out; omega) _, Lib.hid (by rw [World.size_setCell]; exact HO2.out.setBox _), HPD, Lib.hid (fun q hq => by
                  rcases List.mem_append.1 hq with e | e
                  · exact HFW.out q e
                  · rw [List.mem_singleton.1 e]; exact HDL.out.2.2)⟩
              case measure => simp [intOf]; omega
        · have HFT := Lib.hid (fun p z M (hok : OkP p z M) (ht : ptexts p z M = s.data.toList) => (by
            have h1 := (HTD.out p z M hok ht).le
            have h2 := hok.2.2.1
            have h3 := HCL.out
            omega : pe0 = p ∧ sz0 = z ∧ M = C))
          have hsh : ShortQ C := ⟨by have := HCL.out; omega, fun i hi => by have := HFW.out C[i] (List.getElem_mem hi); omega⟩
          have HBP := Lib.hid (show BxP (g2.fin.heap.size + 1) pe0 sz0 (.slice (some ⟨qg, 0, none⟩) n qc) g0.fin from ⟨HB.out.1.inw, HB.out.1.c0, HB.out.1.c1, HB.out.1.c2⟩)
          have HQT := Lib.hid (HO.out.qt (Nat.le_trans (Nat.succ_le_succ HZ2.out) (Nat.le_succ _)))
          obtain ⟨b', hb'⟩ : ∃ x, okPB pe0 sz0 C = x := ⟨_, rfl⟩
          have T1 := fun y (hy : Ext g0.fin y) => (spec_l04Is (g2.fin.heap.size + 1) pe0 sz0 _ C y (HBP.out.ext hy) (HQT.out.ext hy).rq hsh).mono fun e w' (h : RetB (OkP pe0 sz0 C) e ∧ Ext y w') => (⟨h.1.toldP (okPB_iff hb'), h.2⟩ : e = .returned (.bool b') ∧ Ext y w')
          clear RG R2
          cases b'
          · have HF := Lib.hid (HRET.out fun e => by
              rcases HV.out with ⟨-, k1, k2⟩ | ⟨k0, -, -⟩
              · obtain ⟨e1, e2, e3⟩ := HFT.out pe sz L k1 k2
                subst e1 e2 e3
                have := (okPB_iff hb').2 k1
                cases this
              · rw [e] at k0; cases k0)
            clear hb' hsh
            go_wp2_with (first | (go_at_call 32; (with_reducible refine (T1 _ ExtC.ext).mono ?_); rintro e w' ⟨rfl, hx⟩; obtain ⟨g, rfl⟩ := hx.grow; clear hx))
            refine bodyPost_ret (v := .tuple #[.agg #[.int .i64 0, .int .i64 0, .slice none 0 0], .bool false]) (by simp [results, Tryd.results11, go_sem, x0, x1, x2]) rfl ?_
            obtain ⟨e0, e1, e2, e3⟩ := HF.out
            exact ⟨_, by rw [e0, e1, e2], .inl ⟨rfl, e3⟩, ExtC.ext⟩
          · have hok := (okPB_iff hb').1 rfl
            obtain ⟨t, ht⟩ : ∃ t : ByteArray, ⟨(ptexts pe0 sz0 C).toArray⟩ = t := ⟨_, rfl⟩
            have htl : ptexts pe0 sz0 C = t.data.toList := by rw [← ht]
            have T2 := fun y (hy : Ext g0.fin y) => spec_l04Text (g2.fin.heap.size + 1) pe0 sz0 _ C y (HBP.out.ext hy) (HQT.out.ext hy).rq hok
            rw [ht] at T2
            by_cases hss : t = s
            · have HF := Lib.hid (show b = true ∧ pe0 = pe ∧ sz0 = sz ∧ L = C by
                rcases HV.out with ⟨k0, k1, k2⟩ | ⟨-, -, k3⟩
                · obtain ⟨e1, e2, e3⟩ := HFT.out pe sz L k1 k2
                  exact ⟨k0, e1, e2, e3⟩
                · exact absurd (by rw [← hss, ← htl]) (k3 pe0 sz0 C hok))
              clear hb' hsh hok ht htl
              subst hss
              go_wp2_with (first | (go_at_call 32; (with_reducible refine (T1 _ ExtC.ext).mono ?_); rintro e w' ⟨rfl, hx⟩; obtain ⟨g, rfl⟩ := hx.grow; clear hx) | (go_at_call 33; (with_reducible refine (T2 _ ExtC.ext).mono ?_); rintro e w' ⟨rfl, hx⟩; obtain ⟨g8, rfl⟩ := hx.grow; clear hx))
              refine bodyPost_ret (v := .tuple #[.agg #[.int .i64 pe0, .int .i64 sz0, .slice (some ⟨qg, 0, none⟩) n qc], .bool true]) (by simp [results, Tryd.results11, go_sem, x0, x1, x2]) rfl ?_
              obtain ⟨e0, e1, e2, e3⟩ := HF.out
              refine ⟨_, by rw [e0, e1, e2], ?_, ExtC.ext⟩
              rw [e3]
              have key : ∀ {x : World} {o : Nat} {u : Value}, OwnQt (w.heap.size + 1) g8.fin.heap.size x (.slice (some ⟨qg, 0, none⟩) n qc) C → OwnQt (w.heap.size + 1) g8.fin.heap.size (x.setCell ⟨w.heap.size, o, none⟩ u) (.slice (some ⟨qg, 0, none⟩) n qc) C := fun {x o u} h => h.setBox (by show w.heap.size < _; omega) u
              have fin : OwnQt (w.heap.size + 1) g8.fin.heap.size g8.fin (.slice (some ⟨qg, 0, none⟩) n qc) C := (HQT.out.ext ExtC.ext).mono (Nat.le_refl _) (ExtC.ext : Ext g0.fin g8.fin).size
              simp only [World.size_setCell]
              refine OwnQt.mono (lo := w.heap.size + 1) (hi := g8.fin.heap.size) ?_ (by omega) (Nat.le_refl _)
              repeat (first | with_reducible exact fin | with_reducible refine key ?_)
            · have d1 := ne_list hss
              have d2 : (t.toList == s.toList) = false := by simp [d1]
              have HF := Lib.hid (HRET.out fun e => by
                rcases HV.out with ⟨-, k1, k2⟩ | ⟨k0, -, -⟩
                · obtain ⟨e1, e2, e3⟩ := HFT.out pe sz L k1 k2
                  subst e1 e2 e3
                  exact hss (bytes_eq (by rw [← htl, ← k2]))
                · rw [e] at k0; cases k0)
              clear hb' hsh hok ht htl hss
              go_wp2_with (first | (go_at_call 32; (with_reducible refine (T1 _ ExtC.ext).mono ?_); rintro e w' ⟨rfl, hx⟩; obtain ⟨g, rfl⟩ := hx.grow; clear hx) | (go_at_call 33; (with_reducible refine (T2 _ ExtC.ext).mono ?_); rintro e w' ⟨rfl, hx⟩; obtain ⟨g8, rfl⟩ := hx.grow; clear hx))
              refine bodyPost_ret (v := .tuple #[.agg #[.int .i64 0, .int .i64 0, .slice none 0 0], .bool false]) (by simp [results, Tryd.results11, go_sem, x0, x1, x2]) rfl ?_
              obtain ⟨e0, e1, e2, e3⟩ := HF.out
              exact ⟨_, by rw [e0, e1, e2], .inl ⟨rfl, e3⟩, ExtC.ext⟩
      · have hb59 : ((c : Int) == 59) = false := by simp; omega
        have HFT := Lib.hid (fun p z M (hok : OkP p z M) (ht : ptexts p z M = s.data.toList) => (by
          obtain ⟨a1, a2, -⟩ := Po.start hok ht
          refine ⟨by rw [← HPS.out.1]; exact a1, by rw [← HPS.out.2]; exact a2, (HTD.out p z M hok ht).done hok.niceQ ?_⟩
          rintro ⟨-, q⟩
          rw [HDH.out] at q
          have q := Option.some.inj q
          exact h59 (by rw [← hc, q]; rfl) : pe0 = p ∧ sz0 = z ∧ M = C))
        clear h59
        have hsh : ShortQ C := ⟨by have := HCL.out; omega, fun i hi => by have := HFW.out C[i] (List.getElem_mem hi); omega⟩
        have HBP := Lib.hid (show BxP (g2.fin.heap.size + 1) pe0 sz0 (.slice (some ⟨qg, 0, none⟩) n qc) g0.fin from ⟨HB.out.1.inw, HB.out.1.c0, HB.out.1.c1, HB.out.1.c2⟩)
        have HQT := Lib.hid (HO.out.qt (Nat.le_trans (Nat.succ_le_succ HZ2.out) (Nat.le_succ _)))
        obtain ⟨b', hb'⟩ : ∃ x, okPB pe0 sz0 C = x := ⟨_, rfl⟩
        have T1 := fun y (hy : Ext g0.fin y) => (spec_l04Is (g2.fin.heap.size + 1) pe0 sz0 _ C y (HBP.out.ext hy) (HQT.out.ext hy).rq hsh).mono fun e w' (h : RetB (OkP pe0 sz0 C) e ∧ Ext y w') => (⟨h.1.toldP (okPB_iff hb'), h.2⟩ : e = .returned (.bool b') ∧ Ext y w')
        clear RG R2
        cases b'
        · have HF := Lib.hid (HRET.out fun e => by
            rcases HV.out with ⟨-, k1, k2⟩ | ⟨k0, -, -⟩
            · obtain ⟨e1, e2, e3⟩ := HFT.out pe sz L k1 k2
              subst e1 e2 e3
              have := (okPB_iff hb').2 k1
              cases this
            · rw [e] at k0; cases k0)
          clear hb' hsh
          go_wp2_with (first | (go_at_call 32; (with_reducible refine (T1 _ ExtC.ext).mono ?_); rintro e w' ⟨rfl, hx⟩; obtain ⟨g, rfl⟩ := hx.grow; clear hx))
          refine bodyPost_ret (v := .tuple #[.agg #[.int .i64 0, .int .i64 0, .slice none 0 0], .bool false]) (by simp [results, Tryd.results11, go_sem, x0, x1, x2]) rfl ?_
          obtain ⟨e0, e1, e2, e3⟩ := HF.out
          exact ⟨_, by rw [e0, e1, e2], .inl ⟨rfl, e3⟩, ExtC.ext⟩
        · have hok := (okPB_iff hb').1 rfl
          obtain ⟨t, ht⟩ : ∃ t : ByteArray, ⟨(ptexts pe0 sz0 C).toArray⟩ = t := ⟨_, rfl⟩
          have htl : ptexts pe0 sz0 C = t.data.toList := by rw [← ht]
          have T2 := fun y (hy : Ext g0.fin y) => spec_l04Text (g2.fin.heap.size + 1) pe0 sz0 _ C y (HBP.out.ext hy) (HQT.out.ext hy).rq hok
          rw [ht] at T2
          by_cases hss : t = s
          · have HF := Lib.hid (show b = true ∧ pe0 = pe ∧ sz0 = sz ∧ L = C by
              rcases HV.out with ⟨k0, k1, k2⟩ | ⟨-, -, k3⟩
              · obtain ⟨e1, e2, e3⟩ := HFT.out pe sz L k1 k2
                exact ⟨k0, e1, e2, e3⟩
              · exact absurd (by rw [← hss, ← htl]) (k3 pe0 sz0 C hok))
            clear hb' hsh hok ht htl
            subst hss
            go_wp2_with (first | (go_at_call 32; (with_reducible refine (T1 _ ExtC.ext).mono ?_); rintro e w' ⟨rfl, hx⟩; obtain ⟨g, rfl⟩ := hx.grow; clear hx) | (go_at_call 33; (with_reducible refine (T2 _ ExtC.ext).mono ?_); rintro e w' ⟨rfl, hx⟩; obtain ⟨g8, rfl⟩ := hx.grow; clear hx))
            refine bodyPost_ret (v := .tuple #[.agg #[.int .i64 pe0, .int .i64 sz0, .slice (some ⟨qg, 0, none⟩) n qc], .bool true]) (by simp [results, Tryd.results11, go_sem, x0, x1, x2]) rfl ?_
            obtain ⟨e0, e1, e2, e3⟩ := HF.out
            refine ⟨_, by rw [e0, e1, e2], ?_, ExtC.ext⟩
            rw [e3]
            have key : ∀ {x : World} {o : Nat} {u : Value}, OwnQt (w.heap.size + 1) g8.fin.heap.size x (.slice (some ⟨qg, 0, none⟩) n qc) C → OwnQt (w.heap.size + 1) g8.fin.heap.size (x.setCell ⟨w.heap.size, o, none⟩ u) (.slice (some ⟨qg, 0, none⟩) n qc) C := fun {x o u} h => h.setBox (by show w.heap.size < _; omega) u
            have fin : OwnQt (w.heap.size + 1) g8.fin.heap.size g8.fin (.slice (some ⟨qg, 0, none⟩) n qc) C := (HQT.out.ext ExtC.ext).mono (Nat.le_refl _) (ExtC.ext : Ext g0.fin g8.fin).size
            simp only [World.size_setCell]
            refine OwnQt.mono (lo := w.heap.size + 1) (hi := g8.fin.heap.size) ?_ (by omega) (Nat.le_refl _)
            repeat (first | with_reducible exact fin | with_reducible refine key ?_)
          · have d1 := ne_list hss
            have d2 : (t.toList == s.toList) = false := by simp [d1]
            have HF := Lib.hid (HRET.out fun e => by
              rcases HV.out with ⟨-, k1, k2⟩ | ⟨k0, -, -⟩
              · obtain ⟨e1, e2, e3⟩ := HFT.out pe sz L k1 k2
                subst e1 e2 e3
                exact hss (bytes_eq (by rw [← htl, ← k2]))
              · rw [e] at k0; cases k0)
            clear hb' hsh hok ht htl hss
            go_wp2_with (first | (go_at_call 32; (with_reducible refine (T1 _ ExtC.ext).mono ?_); rintro e w' ⟨rfl, hx⟩; obtain ⟨g, rfl⟩ := hx.grow; clear hx) | (go_at_call 33; (with_reducible refine (T2 _ ExtC.ext).mono ?_); rintro e w' ⟨rfl, hx⟩; obtain ⟨g8, rfl⟩ := hx.grow; clear hx))
            refine bodyPost_ret (v := .tuple #[.agg #[.int .i64 0, .int .i64 0, .slice none 0 0], .bool false]) (by simp [results, Tryd.results11, go_sem, x0, x1, x2]) rfl ?_
            obtain ⟨e0, e1, e2, e3⟩ := HF.out
            exact ⟨_, by rw [e0, e1, e2], .inl ⟨rfl, e3⟩, ExtC.ext⟩
    · have HFT := Lib.hid (fun p z M (hok : OkP p z M) (ht : ptexts p z M = s.data.toList) => (by
        obtain ⟨a1, a2, -⟩ := Po.start hok ht
        refine ⟨by rw [← HPS.out.1]; exact a1, by rw [← HPS.out.2]; exact a2, (HTD.out p z M hok ht).done hok.niceQ ?_⟩
        rintro ⟨q, -⟩
        rw [size_list] at q
        exact hks q : pe0 = p ∧ sz0 = z ∧ M = C))
      have hsh : ShortQ C := ⟨by have := HCL.out; omega, fun i hi => by have := HFW.out C[i] (List.getElem_mem hi); omega⟩
      have HBP := Lib.hid (show BxP (g2.fin.heap.size + 1) pe0 sz0 (.slice (some ⟨qg, 0, none⟩) n qc) g0.fin from ⟨HB.out.1.inw, HB.out.1.c0, HB.out.1.c1, HB.out.1.c2⟩)
      have HQT := Lib.hid (HO.out.qt (Nat.le_trans (Nat.succ_le_succ HZ2.out) (Nat.le_succ _)))
      obtain ⟨b', hb'⟩ : ∃ x, okPB pe0 sz0 C = x := ⟨_, rfl⟩
      have T1 := fun y (hy : Ext g0.fin y) => (spec_l04Is (g2.fin.heap.size + 1) pe0 sz0 _ C y (HBP.out.ext hy) (HQT.out.ext hy).rq hsh).mono fun e w' (h : RetB (OkP pe0 sz0 C) e ∧ Ext y w') => (⟨h.1.toldP (okPB_iff hb'), h.2⟩ : e = .returned (.bool b') ∧ Ext y w')
      clear RG R2
      cases b'
      · have HF := Lib.hid (HRET.out fun e => by
          rcases HV.out with ⟨-, k1, k2⟩ | ⟨k0, -, -⟩
          · obtain ⟨e1, e2, e3⟩ := HFT.out pe sz L k1 k2
            subst e1 e2 e3
            have := (okPB_iff hb').2 k1
            cases this
          · rw [e] at k0; cases k0)
        clear hb' hsh
        go_wp2_with (first | (go_at_call 32; (with_reducible refine (T1 _ ExtC.ext).mono ?_); rintro e w' ⟨rfl, hx⟩; obtain ⟨g, rfl⟩ := hx.grow; clear hx))
        refine bodyPost_ret (v := .tuple #[.agg #[.int .i64 0, .int .i64 0, .slice none 0 0], .bool false]) (by simp [results, Tryd.results11, go_sem, x0, x1, x2]) rfl ?_
        obtain ⟨e0, e1, e2, e3⟩ := HF.out
        exact ⟨_, by rw [e0, e1, e2], .inl ⟨rfl, e3⟩, ExtC.ext⟩
      · have hok := (okPB_iff hb').1 rfl
        obtain ⟨t, ht⟩ : ∃ t : ByteArray, ⟨(ptexts pe0 sz0 C).toArray⟩ = t := ⟨_, rfl⟩
        have htl : ptexts pe0 sz0 C = t.data.toList := by rw [← ht]
        have T2 := fun y (hy : Ext g0.fin y) => spec_l04Text (g2.fin.heap.size + 1) pe0 sz0 _ C y (HBP.out.ext hy) (HQT.out.ext hy).rq hok
        rw [ht] at T2
        by_cases hss : t = s
        · have HF := Lib.hid (show b = true ∧ pe0 = pe ∧ sz0 = sz ∧ L = C by
            rcases HV.out with ⟨k0, k1, k2⟩ | ⟨-, -, k3⟩
            · obtain ⟨e1, e2, e3⟩ := HFT.out pe sz L k1 k2
              exact ⟨k0, e1, e2, e3⟩
            · exact absurd (by rw [← hss, ← htl]) (k3 pe0 sz0 C hok))
          clear hb' hsh hok ht htl
          subst hss
          go_wp2_with (first | (go_at_call 32; (with_reducible refine (T1 _ ExtC.ext).mono ?_); rintro e w' ⟨rfl, hx⟩; obtain ⟨g, rfl⟩ := hx.grow; clear hx) | (go_at_call 33; (with_reducible refine (T2 _ ExtC.ext).mono ?_); rintro e w' ⟨rfl, hx⟩; obtain ⟨g8, rfl⟩ := hx.grow; clear hx))
          refine bodyPost_ret (v := .tuple #[.agg #[.int .i64 pe0, .int .i64 sz0, .slice (some ⟨qg, 0, none⟩) n qc], .bool true]) (by simp [results, Tryd.results11, go_sem, x0, x1, x2]) rfl ?_
          obtain ⟨e0, e1, e2, e3⟩ := HF.out
          refine ⟨_, by rw [e0, e1, e2], ?_, ExtC.ext⟩
          rw [e3]
          have key : ∀ {x : World} {o : Nat} {u : Value}, OwnQt (w.heap.size + 1) g8.fin.heap.size x (.slice (some ⟨qg, 0, none⟩) n qc) C → OwnQt (w.heap.size + 1) g8.fin.heap.size (x.setCell ⟨w.heap.size, o, none⟩ u) (.slice (some ⟨qg, 0, none⟩) n qc) C := fun {x o u} h => h.setBox (by show w.heap.size < _; omega) u
          have fin : OwnQt (w.heap.size + 1) g8.fin.heap.size g8.fin (.slice (some ⟨qg, 0, none⟩) n qc) C := (HQT.out.ext ExtC.ext).mono (Nat.le_refl _) (ExtC.ext : Ext g0.fin g8.fin).size
          simp only [World.size_setCell]
          refine OwnQt.mono (lo := w.heap.size + 1) (hi := g8.fin.heap.size) ?_ (by omega) (Nat.le_refl _)
          repeat (first | with_reducible exact fin | with_reducible refine key ?_)
        · have d1 := ne_list hss
          have d2 : (t.toList == s.toList) = false := by simp [d1]
          have HF := Lib.hid (HRET.out fun e => by
            rcases HV.out with ⟨-, k1, k2⟩ | ⟨k0, -, -⟩
            · obtain ⟨e1, e2, e3⟩ := HFT.out pe sz L k1 k2
              subst e1 e2 e3
              exact hss (bytes_eq (by rw [← htl, ← k2]))
            · rw [e] at k0; cases k0)
          clear hb' hsh hok ht htl hss
          go_wp2_with (first | (go_at_call 32; (with_reducible refine (T1 _ ExtC.ext).mono ?_); rintro e w' ⟨rfl, hx⟩; obtain ⟨g, rfl⟩ := hx.grow; clear hx) | (go_at_call 33; (with_reducible refine (T2 _ ExtC.ext).mono ?_); rintro e w' ⟨rfl, hx⟩; obtain ⟨g8, rfl⟩ := hx.grow; clear hx))
          refine bodyPost_ret (v := .tuple #[.agg #[.int .i64 0, .int .i64 0, .slice none 0 0], .bool false]) (by simp [results, Tryd.results11, go_sem, x0, x1, x2]) rfl ?_
          obtain ⟨e0, e1, e2, e3⟩ := HF.out
          exact ⟨_, by rw [e0, e1, e2], .inl ⟨rfl, e3⟩, ExtC.ext⟩
end Go.Proofs.YthcomgnokkndgaaDoor
