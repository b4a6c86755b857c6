/- The greatest number of ballots that can be settled, the reference's side: spec.l02Most. -/
import Derived.Test.YthcomgnokkndgaaMostP
import Derived.Test.YthcomgnokkndgaaFrac
import Derived.Test.YthcomgnokkndgaaAppR
namespace Go.Proofs.Ythcomgnokkndgaa
open Go.RowKit

theorem app_bool {ops : Array Oper} {rest : List Oper} {o : Oper} {a : Act} {Q : Exit → Act → World → Prop} {w0 w : World} {lo : Nat} (s x : Operand) (g cap n : Nat) (bs : List Bool) (ad : Addr) (c : Nat) (y : Bool)
    (hgd : o.guard = none) (ho : o.op = .call { callee := .builtin .append, args := #[s, x], argTypes := #[57, 57] }) (hn : bs.length = n)
    (hs : a.eval s = .slice (some ⟨g, 0, none⟩) n cap) (hown : RowB 4 lo w (.slice (some ⟨g, 0, none⟩) n cap) bs) (hx : a.eval x = .slice (some ad) 1 c)
    (hy : w.cell? (ad.add 0) = some (.bool y)) (hb : bs.length ≤ 1048576) (h0 : Ext w0 w) (hlo : w0.heap.size ≤ lo)
    (h : ∀ g' c' w', RowB 4 lo w' (.slice (some ⟨g', 0, none⟩) (n + 1) c') (bs ++ [y]) → Rng g (g + 1) w w' → (g' = w.heap.size ∨ g' = g) → Ext w0 w' → wpList Try.prog ops Q rest (a.put o.dst (.slice (some ⟨g', 0, none⟩) (n + 1) c')) w') : wpList Try.prog ops Q (o :: rest) a w := by
  subst hn
  obtain ⟨i0, hi0, hz0, hz1, hz2⟩ := info_parts Try.info_bool
  have hgl := hown.len
  refine wpList_append_own2 w hgd s x _ ho lo 4 i0 (.bool false) 1 1 Try.underlying57 hi0 hz0 hz1 hz2 rfl (by decide) _ bs.length (bs.map Value.bool) hs hown ad 1 c [.bool y] hx (by simp) (fun j u hj => ?_) (fun u hu => ?_) (by unfold maxLen; omega) (by omega) (by omega) (fun v' w' h2 h3 h4 h5 => ?_)
  · have : j = 0 := by have := (List.getElem?_eq_some_iff.1 hj).1; simpa using this
    subst this
    simp at hj; subst hj; exact hy
  · simp at hu; subst hu; rfl
  · obtain ⟨g', c', rfl, hg'⟩ := h5 (by omega)
    refine h g' c' w' ?_ (rng_of_grown h3) ?_ (h0.grown h3 fun k hk => by simp [Value.ownBlock] at hk; omega)
    · unfold RowB
      rw [List.length_append, List.map_append]
      exact h2
    · rcases hg' with e | e
      · exact .inl e
      · simp [Value.ownBlock] at e; exact .inr e.symm
theorem app_num {ops : Array Oper} {rest : List Oper} {o : Oper} {a : Act} {Q : Exit → Act → World → Prop} {w0 w : World} {lo : Nat} (s x : Operand) (g cap n : Nat) (bs : List Int) (ad : Addr) (c : Nat) (y : Int)
    (hgd : o.guard = none) (ho : o.op = .call { callee := .builtin .append, args := #[s, x], argTypes := #[24, 24] }) (hn : bs.length = n)
    (hs : a.eval s = .slice (some ⟨g, 0, none⟩) n cap) (hown : RowI 2 lo w (.slice (some ⟨g, 0, none⟩) n cap) bs) (hx : a.eval x = .slice (some ad) 1 c)
    (hy : w.cell? (ad.add 0) = some (.int .i64 y)) (hb : bs.length ≤ 1048576) (h0 : Ext w0 w) (hlo : w0.heap.size ≤ lo)
    (h : ∀ g' c' w', RowI 2 lo w' (.slice (some ⟨g', 0, none⟩) (n + 1) c') (bs ++ [y]) → Rng g (g + 1) w w' → (g' = w.heap.size ∨ g' = g) → Ext w0 w' → wpList Try.prog ops Q rest (a.put o.dst (.slice (some ⟨g', 0, none⟩) (n + 1) c')) w') : wpList Try.prog ops Q (o :: rest) a w := by
  subst hn
  obtain ⟨i0, hi0, hz0, hz1, hz2⟩ := info_parts Try.info_i64
  have hgl := hown.len
  refine wpList_append_own2 w hgd s x _ ho lo 2 i0 (.int .i64 0) 1 8 Try.underlying24 hi0 hz0 hz1 hz2 rfl (by decide) _ bs.length (bs.map iv) hs hown ad 1 c [.int .i64 y] hx (by simp) (fun j u hj => ?_) (fun u hu => ?_) (by unfold maxLen; omega) (by omega) (by omega) (fun v' w' h2 h3 h4 h5 => ?_)
  · have : j = 0 := by have := (List.getElem?_eq_some_iff.1 hj).1; simpa using this
    subst this
    simp at hj; subst hj; exact hy
  · simp at hu; subst hu; rfl
  · obtain ⟨g', c', rfl, hg'⟩ := h5 (by omega)
    refine h g' c' w' ?_ (rng_of_grown h3) ?_ (h0.grown h3 fun k hk => by simp [Value.ownBlock] at hk; omega)
    · unfold RowI
      rw [List.length_append, List.map_append]
      exact h2
    · rcases hg' with e | e
      · exact .inl e
      · simp [Value.ownBlock] at e; exact .inr e.symm
/-- An operation that is wanted goes as one without a guard. -/
theorem wpList_wanted {P : Program} {ops : Array Oper} {rest : List Oper} {o : Oper} {a : Act} {w : World} {Q : Exit → Act → World → Prop} (hw : Region.wanted o (yielded ops a.tmps) = true) (h : wpList P ops Q ({ o with guard := none } :: rest) a w) : wpList P ops Q (o :: rest) a w := by
  unfold wpList at h ⊢
  rw [if_pos hw]
  simp only [Region.wanted, if_true] at h
  exact h
theorem RowB.rng' {T : TypeId} {lo g n c lo' hi' : Nat} {bs : List Bool} {w w' : World} (h : RowB T lo w (.slice (some ⟨g, 0, none⟩) n c) bs) (hx : Rng lo' hi' w w') (hr : g < lo' ∨ hi' ≤ g) : RowB T lo w' (.slice (some ⟨g, 0, none⟩) n c) bs := by
  obtain rfl := h.eq
  exact ownsRow_rng h hx hr
theorem RowI.rng' {T : TypeId} {lo g n c lo' hi' : Nat} {bs : List Int} {w w' : World} (h : RowI T lo w (.slice (some ⟨g, 0, none⟩) n c) bs) (hx : Rng lo' hi' w w') (hr : g < lo' ∨ hi' ≤ g) : RowI T lo w' (.slice (some ⟨g, 0, none⟩) n c) bs := by
  obtain rfl := h.eq
  exact ownsRow_rng h hx hr

set_option maxHeartbeats 16000000 in
set_option maxRecDepth 100000 in
theorem spec_l02Most {n eg ec tg tc : Nat} {E : List (List Int)} {Td : List Int} {lim : Int} (w : World) (K : TdOk n E Td) (h1 : 1 ≤ lim) (h2 : lim ≤ 12) (he : RowsR intKind w (.slice (some ⟨eg, 0, none⟩) n ec) E)
    (it : InW tg w) (ht : ∀ i (h : i < Td.length), w.cell? ⟨tg, i, none⟩ = some (.int .i64 Td[i])) (r : Int) (hr : mostX n E Td lim = r) :
    Calls Try.prog 26 #[.slice (some ⟨eg, 0, none⟩) n ec, .slice (some ⟨tg, 0, none⟩) n tc, .int .i64 lim] w fun e w' => e = .returned (.int .i64 r) ∧ Ext w w' := by
  have HK := Lib.hid K
  have HE := Lib.hid he
  have HT := Lib.hid ht
  have HR := Lib.hid hr
  have hn12 := K.n12
  have htl : Td.length = n := K.tl
  obtain ⟨i0, hi0, hz0, hz1, hz2⟩ := info_parts Try.info_bool
  clear K he ht hr
  go_enter Try.func26, Try.ntmps26
  go_wp2_with fail
  go_loopw [7, 8, 9, 10] (fun wv fv nv iv wr => ∃ (j wb wc fb fc N : Nat) (F : List Int) (B : List Bool), j ≤ n ∧ iv = .int .i64 j ∧ wv = .slice (some ⟨wb, 0, none⟩) j wc ∧ fv = .slice (some ⟨fb, 0, none⟩) j fc ∧ nv = .int .i64 N ∧ N ≤ j ∧ Ext w wr ∧ Hid (RowI 2 w.heap.size wr (.slice (some ⟨wb, 0, none⟩) j wc) F) ∧ Hid (RowB 4 w.heap.size wr (.slice (some ⟨fb, 0, none⟩) j fc) B) ∧ Hid (wb ≠ fb) ∧ Hid (F = (woL Td).take j) ∧ Hid (B = (frL Td).take j) ∧ Hid (N = ct j (fun i => decide (0 ≤ FnF Td i))) ∧ Hid (∀ i, i < j → 0 ≤ FnF Td i → (cnt n (FnF Td) (FnF Td i) : Int) ≤ lim)) (fun _ _ _ i _ => n - (intOf i).toNat)
  case atStart =>
    refine ⟨0, w.heap.size, 0, w.heap.size + 1, 0, 0, [], [], Nat.zero_le _, rfl, rfl, rfl, rfl, Nat.le_refl _, ExtC.ext, Lib.hid ?_, Lib.hid ?_, Lib.hid (by omega), Lib.hid (by simp), Lib.hid (by simp), Lib.hid rfl, Lib.hid (fun i hi => absurd hi (by omega))⟩
    · exact RowI.ext (World.ownsRow_made (e := 2) (size := 1) (base := w.heap.size) w #[] 0 (Nat.le_refl _) (by unfold maxLen; omega) (by rfl)) ExtC.ext
    · have := World.ownsRow_made (e := 4) (size := 1) (base := w.heap.size) (w.alloc (.cells #[] 2)) #[] 0 (by simp) (by unfold maxLen; omega) (by rfl)
      simp only [World.size_alloc] at this
      exact this
  case round =>
    obtain ⟨j, wb, wc, fb, fc, N, F, B, hj, rfl, rfl, rfl, rfl, hN, hx, HF, HB, HNE, HFT, HBT, HNT, HOV⟩ := hrel
    obtain ⟨g0, rfl⟩ := hx.grow; clear hx
    by_cases hjn : j < n
    · have d1 := HT.out j (by omega)
      obtain ⟨t, hte⟩ : ∃ t, Td[j]'(by omega) = t := ⟨_, rfl⟩
      have HTJ := Lib.hid (show FnF Td j = t by rw [FnF_at (by omega)]; exact hte)
      have htr := HK.out.at hjn
      rw [hte] at d1
      rw [HTJ.out] at htr
      clear hte
      have hFl : F.length = j := by rw [HFT.out]; simp [woL]; omega
      have hBl : B.length = j := by rw [HBT.out]; simp [frL]; omega
      obtain ⟨t2, ht2⟩ : ∃ b, (t == -2) = b := ⟨_, rfl⟩
      obtain ⟨tm, htm⟩ : ∃ m, max t (-1) = m := ⟨_, rfl⟩
      have HFN := Lib.hid (show F ++ [tm] = (woL Td).take (j + 1) by
        rw [List.take_succ_eq_append_getElem (by simp [woL]; omega), ← HFT.out, ← htm, ← HTJ.out]
        simp [woL, FnF, show j < Td.length by omega])
      have HBN := Lib.hid (show B ++ [t2] = (frL Td).take (j + 1) by
        rw [List.take_succ_eq_append_getElem (by simp [frL]; omega), ← HBT.out, ← ht2, ← HTJ.out]
        simp [frL, FnF, show j < Td.length by omega])
      have HNN := Lib.hid (show ct (j + 1) (fun i => decide (0 ≤ FnF Td i)) = N + if 0 ≤ t then 1 else 0 by rw [ct_succ, HTJ.out, ← HNT.out]; simp)
      have hmx := fun x => spec_l00Max t (-1) x
      rw [htm] at hmx
      clear htm
      by_cases hneg : t < 0
      · go_wp2_with (first | (at_builtin; refine app_bool (w0 := w) (lo := w.heap.size) _ _ fb fc j B ⟨g0.fin.heap.size, 0, none⟩ 1 t2 rfl rfl hBl rfl (HB.out.ext ExtC.ext) rfl (by rw [add_plain', World.cell?_alloc_at _ _ _ _ rfl]; rfl) (by omega) ExtC.ext (Nat.le_refl _) ?_; intro fb' fc' w1 hb' hrb hfb' hx; obtain ⟨g1, rfl⟩ := hx.grow; clear hx; have HB1 := Lib.hid (And.intro hb' (And.intro hrb hfb')); clear hb' hrb hfb') | (go_at_call 33; (with_reducible refine (hmx _).mono ?_); rintro e w' ⟨rfl, hx⟩; obtain ⟨g, rfl⟩ := hx.grow; clear hx) | (at_builtin; refine app_num (w0 := w) (lo := w.heap.size) _ _ wb wc j F ⟨g.fin.heap.size, 0, none⟩ 1 tm rfl rfl hFl rfl (((HF.out.ext ExtC.ext).rng' HB1.out.2.1 (by have := HNE.out; omega)).ext ExtC.ext) rfl (by rw [add_plain', World.cell?_alloc_at _ _ _ _ rfl]; rfl) (by omega) ExtC.ext (Nat.le_refl _) ?_; intro wb' wc' w2 hw' hrw hwb' hx; obtain ⟨g2, rfl⟩ := hx.grow; clear hx; have HW1 := Lib.hid (And.intro hw' (And.intro hrw hwb')); clear hw' hrw hwb'))
        go_roundw
        case rel =>
          obtain ⟨hb', hrb, hfb'⟩ := HB1.out
          obtain ⟨hw', hrw, hwb'⟩ := HW1.out
          have z1 := HF.out.len
          have z2 := HB.out.len
          have z3 := hrb.size
          have z6 := (ExtC.ext : Ext g1.fin g.fin).size
          have z5 := hb'.len
          have hne := HNE.out
          simp only [World.size_alloc] at hfb' hwb' z3
          have hwf : wb' ≠ fb' := by omega
          refine ⟨j + 1, wb', wc', fb', fc', N, F ++ [tm], B ++ [t2], by omega, by go_num, rfl, rfl, rfl, by omega, ExtC.ext, Lib.hid hw', Lib.hid ((hb'.ext ExtC.ext).rng' hrw (by omega)), Lib.hid hwf, HFN, HBN, Lib.hid (by rw [HNN.out, if_neg (by omega)]; rfl), Lib.hid fun i hi h0 => ?_⟩
          by_cases hij : i = j
          · subst hij; rw [HTJ.out] at h0; omega
          · exact HOV.out i (by omega) h0
        case measure => simp [intOf]; omega
      · go_wp2_with (first | (at_builtin; refine app_bool (w0 := w) (lo := w.heap.size) _ _ fb fc j B ⟨g0.fin.heap.size, 0, none⟩ 1 t2 rfl rfl hBl rfl (HB.out.ext ExtC.ext) rfl (by rw [add_plain', World.cell?_alloc_at _ _ _ _ rfl]; rfl) (by omega) ExtC.ext (Nat.le_refl _) ?_; intro fb' fc' w1 hb' hrb hfb' hx; obtain ⟨g1, rfl⟩ := hx.grow; clear hx; have HB1 := Lib.hid (And.intro hb' (And.intro hrb hfb')); clear hb' hrb hfb') | (go_at_call 33; (with_reducible refine (hmx _).mono ?_); rintro e w' ⟨rfl, hx⟩; obtain ⟨g, rfl⟩ := hx.grow; clear hx) | (at_builtin; refine app_num (w0 := w) (lo := w.heap.size) _ _ wb wc j F ⟨g.fin.heap.size, 0, none⟩ 1 tm rfl rfl hFl rfl (((HF.out.ext ExtC.ext).rng' HB1.out.2.1 (by have := HNE.out; omega)).ext ExtC.ext) rfl (by rw [add_plain', World.cell?_alloc_at _ _ _ _ rfl]; rfl) (by omega) ExtC.ext (Nat.le_refl _) ?_; intro wb' wc' w2 hw' hrw hwb' hx; obtain ⟨g2, rfl⟩ := hx.grow; clear hx; have HW1 := Lib.hid (And.intro hw' (And.intro hrw hwb')); clear hw' hrw hwb'))
        have h0t : 0 ≤ t := by omega
        go_loopw [11, 12] (fun mv kv wr => ∃ q : Nat, q ≤ n ∧ kv = .int .i64 q ∧ mv = .int .i64 (cnt q (FnF Td) t : Nat) ∧ Ext g2.fin wr) (fun _ i _ => n - (intOf i).toNat)
        case atStart => exact ⟨0, Nat.zero_le _, rfl, rfl, ExtC.ext⟩
        case round =>
          obtain ⟨q, hq, rfl, rfl, hx⟩ := hrel
          obtain ⟨g3, rfl⟩ := hx.grow; clear hx
          have hcl : cnt q (FnF Td) t ≤ q := ct_lt_or _ _
          by_cases hqn : q < n
          · have d3 := HT.out q (by omega)
            have HS := Lib.hid (show cnt (q + 1) (FnF Td) t = cnt q (FnF Td) t + if Td[q]'(by omega) = t then 1 else 0 by unfold cnt; rw [ct_succ, FnF_at (by omega)]; simp)
            obtain ⟨y, hy⟩ : ∃ y, Td[q]'(by omega) = y := ⟨_, rfl⟩
            rw [hy] at d3 HS
            clear hy
            obtain ⟨cj, hcj⟩ : ∃ c, cnt q (FnF Td) t = c := ⟨_, rfl⟩
            rw [hcj] at HS hcl ⊢
            clear hcj
            by_cases hye : y = t
            · have hb : (y == t) = true := by simp [hye]
              have HYE := Lib.hid hye
              clear hye
              go_wp2_with fail
              refine wp_region_grow (by kernel_rfl) (by kernel_rfl) ?_
              repeat (go_big_quiet_step (fail))
              refine wpQuiet_nil ?_
              intro _ hw'
              obtain ⟨g, hw''⟩ := hw'
              subst hw''
              go_wp2_with fail
              go_roundw
              case rel => exact ⟨q + 1, by omega, by go_num, by rw [HS.out, if_pos HYE.out]; go_num, ExtC.ext⟩
              case measure => simp [intOf]; omega
            · have hb : (y == t) = false := by simp [hye]
              have HYE := Lib.hid hye
              clear hye
              go_wp2_with fail
              refine wp_region_grow (by kernel_rfl) (by kernel_rfl) ?_
              repeat (go_big_quiet_step (fail))
              refine wpQuiet_nil ?_
              intro _ hw'
              obtain ⟨g, hw''⟩ := hw'
              subst hw''
              go_wp2_with fail
              go_roundw
              case rel => exact ⟨q + 1, by omega, by go_num, by rw [HS.out, if_neg HYE.out]; rfl, ExtC.ext⟩
              case measure => simp [intOf]; omega
          · obtain rfl : q = n := by omega
            obtain ⟨cj, hcj⟩ : ∃ c, cnt q (FnF Td) t = c := ⟨_, rfl⟩
            have HCJ := Lib.hid hcj
            rw [hcj] at hcl ⊢
            clear hcj
            by_cases hov : lim < (cj : Int)
            · have HO := Lib.hid (show r = -1 by rw [← HR.out]; exact mostX_over ⟨t, h0t, by rw [HCJ.out]; exact hov⟩)
              go_wp2_with fail
              go_ret
              exact ⟨ret_int HO.out.symm, ExtC.ext⟩
            · have HOK := Lib.hid hov
              go_wp2_with fail
              go_roundw
              case rel =>
                obtain ⟨hb', hrb, hfb'⟩ := HB1.out
                obtain ⟨hw', hrw, hwb'⟩ := HW1.out
                have z1 := HF.out.len
                have z2 := HB.out.len
                have z3 := hrb.size
                have z6 := (ExtC.ext : Ext g1.fin g.fin).size
                have z5 := hb'.len
                have hne := HNE.out
                simp only [World.size_alloc] at hfb' hwb' z3
                have hwf : wb' ≠ fb' := by omega
                refine ⟨j + 1, wb', wc', fb', fc', N + 1, F ++ [tm], B ++ [t2], by omega, by go_num, rfl, rfl, by go_num, by omega, ExtC.ext, Lib.hid (hw'.ext ExtC.ext), Lib.hid (((hb'.ext ExtC.ext).rng' hrw (by omega)).ext ExtC.ext), Lib.hid hwf, HFN, HBN, Lib.hid (by rw [HNN.out, if_pos h0t]), Lib.hid fun i hi h0 => ?_⟩
                by_cases hij : i = j
                · subst hij; rw [HTJ.out, HCJ.out]; have := HOK.out; omega
                · exact HOV.out i (by omega) h0
              case measure => simp [intOf]; omega
    · obtain rfl : j = n := by omega
      have HNO := Lib.hid (fun (h : Over j Td lim) => (by
        obtain ⟨e, he0, hle⟩ := h
        have hpos : 0 < cnt j (FnF Td) e := by omega
        obtain ⟨i, hi, hie⟩ := ct_pos hpos
        have hie' : FnF Td i = e := by simpa using hie
        have := HOV.out i hi (by rw [hie']; exact he0)
        rw [hie'] at this; omega : False))
      have HF0 := Lib.hid (show F = woL Td by rw [HFT.out, List.take_of_length_le (by simp [woL]; omega)])
      have HB0 := Lib.hid (show B = frL Td by rw [HBT.out, List.take_of_length_le (by simp [frL]; omega)])
      go_wp2_with fail
      go_loopw [9, 13] (fun nv iv wr => ∃ (i N : Nat) (F : List Int) (R : Int → Bool), i ≤ j ∧ iv = .int .i64 i ∧ nv = .int .i64 N ∧ N ≤ j ∧ Ext w wr ∧ Hid (RowI 2 w.heap.size wr (.slice (some ⟨wb, 0, none⟩) j wc) F) ∧ Hid (RowB 4 w.heap.size wr (.slice (some ⟨fb, 0, none⟩) j fc) (frL Td)) ∧ Hid (N = sz j (FnF F)) ∧ Hid (Run j (toE E Td) (fun _ => lim) (FnF F) i R) ∧ Hid (RmP j (frL Td) (fun i => max (FnF Td i) (-1)) F) ∧ Hid (∀ z, i ≤ z → z < j → (frL Td).getD z false = true → FnF F z = -1)) (fun _ i _ => j - (intOf i).toNat)
      case atStart =>
        refine ⟨0, N, F, noS, Nat.zero_le _, rfl, rfl, hN, ExtC.ext, HF, by rw [← HB0.out]; exact HB, Lib.hid (by rw [HF0.out, sz_wo HK.out]; exact HNT.out), Lib.hid (by rw [HF0.out]; exact HK.out.run0 HNO.out), Lib.hid (by rw [HF0.out]; exact HK.out.p0), Lib.hid fun z _ hz hfz => ?_⟩
        rw [frL_at (by omega)] at hfz
        rw [HF0.out, woL_at (by omega), show FnF Td z = -2 by simpa using hfz]; rfl
      case round =>
        clear HF HB HFT HBT HNT HOV HF0 HB0
        obtain ⟨i, N, F, R, hi, rfl, rfl, hN, hx, HF, HB, HNT, HRU, HP, HFU⟩ := hrel
        obtain ⟨g1, rfl⟩ := hx.grow; clear hx
        by_cases hij : i < j
        · have hfl := HK.out.tl
          have hBl : (frL Td).length = j := by simp [frL]; omega
          have d4 := HB.out.cell i (by omega)
          have HFR := Lib.hid (show (frL Td).getD i false = (frL Td)[i]'(by omega) by simp [show i < (frL Td).length by omega])
          cases hfz : (frL Td)[i]'(by omega)
          · rw [hfz] at d4 HFR
            clear hfz
            have HNX := Lib.hid (HRU.out.skip (by
              rw [frL_at (by omega)] at HFR
              have h2 : ¬ FnF Td i = -2 := by simpa using HFR.out
              have h3 := HP.out.fix i hij (by rw [frL_at (by omega)]; exact HFR.out)
              have h4 := HK.out.at hij
              by_cases h0 : 0 ≤ FnF Td i
              · left; rw [h3]; show ¬ max (FnF Td i) (-1) = -1; omega
              · right; unfold toE; rw [if_neg h2, if_neg h0]))
            go_wp2_with fail
            go_roundw
            case rel => exact ⟨i + 1, N, F, R, by omega, by go_num, rfl, hN, ExtC.ext, HF, HB, HNT, HNX, HP, Lib.hid fun z hz => HFU.out z (by omega)⟩
            case measure => simp [intOf]; omega
          · rw [hfz] at d4 HFR
            clear hfz
            have HFI := Lib.hid (HFU.out i (Nat.le_refl _) hij HFR.out)
            go_wp2_with (first | (at_make; refine wpList_wanted (by simp [Region.wanted, yielded, go_sem]) ?_; refine wpList_make_full _ rfl _ _ 57 rfl w.heap.size 4 i0 (.bool false) 1 Try.underlying57 hi0 hz0 hz1 _ _ _ _ j rfl rfl rfl rfl (by rw [hz2]; omega) (by unfold maxLen; omega) (ExtC.ext : Ext w g1.fin).size ?_; intro w1 hown hgrow; have hx1 := grownBy_ext hgrow (fun k h => by cases h); have hr0 := row_falses hown; obtain ⟨g2, rfl⟩ := hx1.grow; clear hx1 hgrow hown; have HR0 := Lib.hid hr0; clear hr0))
            have HW := Lib.hid (show RmW j wb wc fb fc g1.fin.heap.size j (frL Td) w F (List.replicate j false) g2.fin from
              ⟨ExtC.ext, HF.out.ext ExtC.ext, HB.out.ext ExtC.ext, HR0.out, HNE.out, by have := HF.out.len; omega, by have := HB.out.len; omega⟩)
            have HS0 := Lib.hid (show FnT (List.replicate j false) = noS by
              funext e
              unfold FnT noS
              simp [List.getElem?_replicate]
              intro _
              split <;> rfl)
            refine Calls.mono (spec_l02Room (HK.out.g h1 h2) HE.out (left j (List.replicate j false)) i F (List.replicate j false) _ (Nat.le_refl _) hij HFR.out HW.out HP.out (.inl HFI.out)) ?_
            rintro e w4 ⟨b, F', T4, rfl, hw4, hp4, q0, q1⟩
            have HW4 := Lib.hid hw4
            have HP4 := Lib.hid hp4
            obtain ⟨g4, rfl⟩ := hw4.ext.grow
            clear hp4 hw4
            cases b
            · obtain ⟨rfl, hff⟩ := q0 rfl
              rw [HS0.out] at hff
              have HNX := Lib.hid (HRU.out.fail hff)
              clear q0 q1 hff
              go_wp2_with fail
              go_roundw
              case rel => exact ⟨i + 1, N, F', uni R (FnT T4), by omega, by go_num, rfl, hN, ExtC.ext, Lib.hid HW4.out.wi, Lib.hid HW4.out.fi, HNT, HNX, HP4, Lib.hid fun z hz => HFU.out z (by omega)⟩
              case measure => simp [intOf]; omega
            · have ha := q1 rfl
              rw [HS0.out] at ha
              have HEOK := (HK.out.g h1 h2).eok
              have HNX := Lib.hid (HRU.out.aug HEOK hij HFI.out ha)
              have HSZ := Lib.hid (show N + 1 = sz j (FnF F') by rw [ha.sz HEOK hij HFI.out, HNT.out])
              have hle : N + 1 ≤ j := by rw [HSZ.out]; exact ct_lt_or _ _
              have HFN := Lib.hid (fun z (hz : i + 1 ≤ z) (hzj : z < j) (hfz : (frL Td).getD z false = true) => (by
                have hf := HFU.out z (by omega) hzj hfz
                rcases ha.ok z hzj (by omega) with e | ⟨e, -⟩
                · rw [e]; exact hf
                · exact absurd hf e : FnF F' z = -1))
              clear q0 q1 ha HEOK
              go_wp2_with fail
              go_roundw
              case rel => exact ⟨i + 1, N + 1, F', R, by omega, by go_num, by go_num, hle, ExtC.ext, Lib.hid HW4.out.wi, Lib.hid HW4.out.fi, HSZ, HNX, HP4, HFN⟩
              case measure => simp [intOf]; omega
        · obtain rfl : i = j := by omega
          have HO := Lib.hid (show r = N by rw [← HR.out, mostX_max HNO.out (run_maxT HK.out h1 h2 HRU.out HP.out), HNT.out])
          go_wp2_with fail
          go_ret
          exact ⟨ret_int HO.out.symm, ExtC.ext⟩
end Go.Proofs.Ythcomgnokkndgaa
