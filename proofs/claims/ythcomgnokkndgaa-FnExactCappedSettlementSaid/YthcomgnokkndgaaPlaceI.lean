/- Room for a ballot, the program's side: the closure of impl.mostSettled. -/
import Derived.Test.YthcomgnokkndgaaPlaceW
import Derived.Deep.AppendLies
import Derived.Deep.RegionLaw
namespace Go.Proofs.Ythcomgnokkndgaa
open Go.RowKit

theorem Try.info_intR : (Try.prog.info? 3).map (fun i => (i.zero, i.size, i.bytes)) = some (some (.int .i64 0), 1, 8) := by kernel_rfl
theorem zero_rows (w : World) : (zeroValue 56).run Try.prog w = .ok (.slice none 0 0) w := by kernel_rfl
theorem zero_b (w : World) : (zeroValue 4).run Try.prog w = .ok (.bool false) w := by kernel_rfl
theorem zero_64 (w : World) : (zeroValue 2).run Try.prog w = .ok (.int .i64 0) w := by kernel_rfl
/-- How many ends are not yet seen. -/
def leftS (n : Nat) (S : Int → Bool) : Nat := ct n fun e => !S (e : Int)
theorem leftS_lt {n : Nat} {S S' : Int → Bool} {e : Nat} (he : e < n) (hm : ∀ x, S x = true → S' x = true) (h1 : S (e : Int) = false) (h2 : S' (e : Int) = true) : leftS n S' < leftS n S :=
  ct_strict he (fun j _ h => by
    cases hh : S (j : Int)
    · rfl
    · rw [hm _ hh] at h; cases h) (by simp [h2]) (by simp [h1])

theorem cell_laid1 (w : World) (n : Int) (T : TypeId) {j : Nat} {u : Value} (hu : [Value.int .i64 n][j]? = some u) : (((w.alloc (.cells #[.int .i64 n] T)).drew).cell? ((⟨w.heap.size, 0, none⟩ : Addr).add j)) = some u := by
  have : j = 0 := by have := (List.getElem?_eq_some_iff.1 hu).1; simpa using this
  subst this
  simp at hu
  subst hu
  rw [add_plain']
  show (w.alloc (.cells #[.int .i64 n] T)).cell? ⟨w.heap.size, 0 + 0, none⟩ = _
  rw [World.cell?_alloc_at _ _ _ _ rfl]; rfl
theorem ImW.grown {n eg ec b2 b3 b5 b7 wm rm sb B1 : Nat} {w0 w w2 : World} {room : Int → Int} {S : Int → Bool} {W : Int → List Int} {V : Int → Value} (h : ImW n eg ec b2 b3 b5 b7 wm rm sb B1 w0 room S W V w) {x vl vc g : Nat} {vp : Option Addr} {o : Obj} (hx : x < n) (hv : V x = .slice vp vl vc)
    (hg : ((w.alloc o).drew).grownBy w2 (Value.slice vp vl vc).ownBlock) (hat : (Value.slice vp vl vc).ownBlock = some g ∨ g = w.heap.size + 1) :
    ∃ gb, Rng gb (gb + 1) w w2 ∧ B1 ≤ gb ∧ ((∃ l' c', V x = .slice (some ⟨gb, 0, none⟩) l' c') ∨ w.heap.size ≤ gb) ∧ (g = gb ∨ w.heap.size ≤ g) ∧ MapV w2 wm (.slice none 0 0) V ∧ w2.cell? ⟨b5, 0, none⟩ = some (.map (some wm)) := by
  have hle := h.le
  have hl := h.lt
  have hsz : ((w.alloc o).drew).heap.size = w.heap.size + 1 := by simp [World.drew]
  have hx0 : Ext w ((w.alloc o).drew) := ExtC.ext
  have key : ∀ gb, (∀ k, k < w.heap.size → (Value.slice vp vl vc).ownBlock = some k → k = gb) → Rng gb (gb + 1) w w2 := fun gb hk =>
    ⟨hg.os.trans hx0.os, hg.tape.trans hx0.tape, hg.output.trans hx0.output, Nat.le_trans hx0.size hg.size, fun k h1 h2 => by
      rw [hg.block k (by omega) (fun e => by have := hk k h1 e.symm; omega)]
      exact hx0.block k h1⟩
  rcases h.rows x (by omega) (by omega) with ⟨a, b⟩ | ⟨g0, c, a, b⟩
  · rw [hv] at a
    simp only [Value.slice.injEq] at a
    obtain ⟨rfl, -, -⟩ := a
    have hr := key w.heap.size (fun k _ e => by simp [Value.ownBlock] at e)
    refine ⟨w.heap.size, hr, hle, .inr (Nat.le_refl _), .inr ?_, h.mw.turn hr (by have := h.mw.lt; omega), rng_cel hr h.c5 (by omega) (by omega)⟩
    rcases hat with e | e
    · simp [Value.ownBlock] at e
    · omega
  · have a' := a
    rw [hv] at a
    simp only [Value.slice.injEq] at a
    obtain ⟨rfl, -, -⟩ := a
    have hr := key g0 (fun k _ e => by simp [Value.ownBlock] at e; omega)
    refine ⟨g0, hr, b.len.1, .inl ⟨_, _, a'⟩, ?_, h.mw.turn hr (fun e => b.nomap h.mw e.symm), rng_cel hr h.c5 (by omega) (by have := b.len.1; omega)⟩
    rcases hat with e | e
    · simp [Value.ownBlock] at e; exact .inl e.symm
    · right; omega

set_option maxHeartbeats 16000000 in
set_option maxRecDepth 100000 in
theorem impl_place {n eg ec b2 b3 b5 b7 wm rm sb B1 : Nat} {E : List (List Int)} {w0 : World} {room : Int → Int} (hn12 : n ≤ 12) (hel : E.length = n) (hel12 : ∀ i (h : i < E.length), E[i].length ≤ 12) (heok : EOk n n (fun i => E.getD i [])) (hroom : ∀ e : Int, 0 ≤ room e ∧ room e ≤ 12) (he : RowsR intKind w0 (.slice (some ⟨eg, 0, none⟩) n ec) E) :
    ∀ (k i : Nat) (f : Nat → Int) (S : Int → Bool) (W : Int → List Int) (V : Int → Value) (w : World), leftS n S ≤ k → i < n → ImW n eg ec b2 b3 b5 b7 wm rm sb B1 w0 room S W V w → Rep n f S W → (f i = -1 ∨ S (f i) = true) →
    Calls Try.prog 31 #[.int .i64 i, .map (some sb), ptr b2, ptr b5, ptr b3, ptr b7] w fun e w' =>
      ∃ b S' W' V', e = .returned (.bool b) ∧ ImW n eg ec b2 b3 b5 b7 wm rm sb B1 w0 room S' W' V' w' ∧
        (b = false → W' = W ∧ V' = V ∧ Fail n (fun i => E.getD i []) room f S i S') ∧ (b = true → ∃ f', Aug n (fun i => E.getD i []) room f S i f' ∧ Rep n f' S W' ∧ ∀ e, S e = true → W' e = W e ∧ V' e = V e) := by
  intro k
  induction k using Nat.strongRecOn with
  | ind k ih =>
  intro i f S W V w hk hi hW hP hfi
  have HE := Lib.hid he
  have IH := Lib.hid ih
  have HP := Lib.hid hP
  have HW := Lib.hid hW
  have HFI := Lib.hid hfi
  have HK := Lib.hid hk
  have HEOK := Lib.hid heok
  have HROOM := Lib.hid hroom
  obtain ⟨R, hR⟩ : ∃ R, E[i]'(by omega) = R := ⟨_, rfl⟩
  have HRE := Lib.hid (show E.getD i [] = R by rw [← hR]; simp [show i < E.length by omega])
  have hRl : R.length ≤ 12 := by rw [← hR]; exact hel12 i (by omega)
  have c2 := hW.c2
  obtain ⟨ieg, hce⟩ := rows_at he (by omega)
  obtain ⟨t, d2, d3⟩ := hce i (by omega)
  rw [hR] at d3
  obtain ⟨tp, tcp, rfl, -, hct⟩ := d3.form
  have d1 : w.cell? ⟨eg, i, none⟩ = some (.slice tp R.length tcp) := by rw [Below.cell hW.ext ieg.lt]; exact d2
  have HCT := Lib.hid (fun x (hx : Ext w0 x) (h0 : 0 < R.length) => (by
    obtain ⟨b, off, e, ib, hc⟩ := hct h0
    exact ⟨b, off, e, fun j hj => by rw [Below.cell hx ib.lt]; exact hc j hj⟩ : ∃ b off, tp = some ⟨b, off, none⟩ ∧ ∀ j (h : j < R.length), x.cell? ⟨b, off + j, none⟩ = some (iv R[j])))
  clear hct d2 d3 hce ieg
  clear he ih hP hfi hk hR hW hel12 heok hroom hel
  go_enter Try.func31, Try.ntmps31
  go_wp2_with fail
  go_loopw [18] (fun qv wr => ∃ (q : Nat) (S1 : Int → Bool), q ≤ R.length ∧ qv = .int .i64 q ∧ Hid (ImW n eg ec b2 b3 b5 b7 wm rm sb B1 w0 room S1 W V wr) ∧ Hid (Part n (fun i => E.getD i []) room f S (R.take q) S1)) (fun q _ => R.length - (intOf q).toNat)
  case atStart => exact ⟨0, S, Nat.zero_le _, rfl, HW, Lib.hid Part.start⟩
  case round =>
    clear HW c2 d1
    obtain ⟨q, S1, hq, rfl, HW, HPT⟩ := hrel
    by_cases hlt : q < R.length
    · obtain ⟨rb, ro, htp, hcc⟩ := HCT.out wr HW.out.ext (by omega)
      subst htp
      have d2 := hcc q hlt
      clear hcc
      have hen := HEOK.out i hi R[q] (by show R[q] ∈ E.getD i []; rw [HRE.out]; exact List.getElem_mem hlt)
      obtain ⟨e, he⟩ : ∃ e, R[q] = e := ⟨_, rfl⟩
      have HTK := Lib.hid (show R.take (q + 1) = R.take q ++ [e] by rw [List.take_succ_eq_append_getElem hlt, he])
      have HEM := Lib.hid (show e ∈ E.getD i [] by rw [HRE.out, ← he]; exact List.getElem_mem hlt)
      rw [he] at d2 hen
      obtain ⟨en, hen'⟩ := Int.eq_ofNat_of_zero_le hen.1
      subst hen'
      clear he
      have henn : en < n := by omega
      have l1 := HW.out.ms.look (t := 55) (e := 4) Try.underlying55 (zero_b _) (en : Int) (by omega)
      cases hTe : S1 (en : Int)
      · rw [hTe] at l1
        have HTE := Lib.hid hTe
        clear hTe
        have HLEFT := Lib.hid (fun S2 (hm : ∀ x, S x = true → S2 x = true) (h2 : S2 (en : Int) = true) => (leftS_lt henn hm (by
          cases hh : S (en : Int)
          · rfl
          · have := HPT.out.mono _ hh; rw [HTE.out] at this; cases this) h2 : leftS n S2 < leftS n S))
        obtain ⟨vp, vl, vc, hv⟩ : ∃ p l c, V en = .slice p l c := by
          rcases HW.out.rows en (by omega) (by omega) with ⟨a, -⟩ | ⟨g, c, a, -⟩
          · exact ⟨_, _, _, a⟩
          · exact ⟨_, _, _, a⟩
        have HVL := Lib.hid (show vl = cnt n f en by
          rw [← HP.out.len en (by omega) (by omega) (by
            cases hh : S (en : Int)
            · rfl
            · have := HPT.out.mono _ hh; rw [HTE.out] at this; cases this)]
          rcases HW.out.rows en (by omega) (by omega) with ⟨a, b⟩ | ⟨g, c, a, -⟩
          · rw [a] at hv; cases hv; rw [b]; rfl
          · rw [a] at hv; cases hv; rfl)
        have hvl : vl ≤ 12 := by rw [HVL.out]; exact Nat.le_trans (ct_lt_or _ _) hn12
        have hrm := HROOM.out en
        obtain ⟨rm0, hrm0⟩ : ∃ r, room en = r := ⟨_, rfl⟩
        have HRM := Lib.hid hrm0
        rw [hrm0] at hrm
        have HV := Lib.hid hv
        clear hv hrm0
        by_cases hfull : (vl : Int) < rm0
        · have hfull' := Lib.hid hfull
          go_wp2_with (first | (at_mapUpdate; refine wpList_mput HW.out.ms rfl _ _ _ 55 4 rfl Try.underlying55 rfl en (by omega) (.bool true) rfl rfl ?_; intro w1 hm1 hr1 hz1; have HI1 := Lib.hid (HW.out.seen hr1 hm1); clear hm1 hr1 hz1; have c3 := HI1.out.c3; have c5 := HI1.out.c5; have l2 := HI1.out.mw.look (t := 53) (e := 56) Try.underlying53 (zero_rows _) (en : Int) (by omega); have l3 := HI1.out.mr.look (t := 45) (e := 2) Try.underlying45 (zero_64 _) (en : Int) (by omega); rw [HV.out] at l2; rw [HRM.out] at l3))
          have HSE := Lib.hid (show S (en : Int) = false by
            cases hh : S (en : Int)
            · rfl
            · have := HPT.out.mono _ hh; rw [HTE.out] at this; cases this)
          have HWL := Lib.hid (show (W en).length = vl by rw [HP.out.len en (by omega) (by omega) HSE.out, HVL.out])
          have HOW := Lib.hid (fun x (hx : Ext w1 x) => (by
            rcases HI1.out.rows en (by omega) (by omega) with ⟨a, b⟩ | ⟨g, c, a, b⟩
            · rw [HV.out] at a; cases a
              rw [b]; exact World.ownsRow_nil x B1 _ _
            · rw [HV.out] at a; cases a
              have := b.ext hx
              rw [← HWL.out]; exact this : x.ownsRow B1 3 1 (.slice vp vl vc) vl ((W en).map iv)))
          have l4 : ∀ (x : World) [ExtC w1 x], (Instr.lookup 53 (.map (some wm)) (.int .i64 (en : Int)) false).run Try.prog x = .ok (.slice vp vl vc) x := fun x hx => by
            have := (HI1.out.mw.ext hx.ext).look (t := 53) (e := 56) Try.underlying53 (zero_rows _) (en : Int) (by omega)
            rwa [HV.out] at this
          have i5 : InW b5 w1 := InW.of_cell c5
          obtain ⟨i0, hi0, hz0, hz1', hz2⟩ := info_parts Try.info_intR
          go_region_law (refine step_append_lies _ rfl (.tmp 39) (.tmp 41) 56 rfl B1 3 i0 (.int .i64 0) 1 8 Try.underlying56 hi0 hz0 hz1' hz2 rfl (by decide) (.slice vp vl vc) vl ((W en).map iv) (by simp [Act.eval]) (HOW.out _ ExtC.ext) ⟨w1.heap.size, 0, none⟩ 1 1 [.int .i64 i] (by simp [Act.eval]) rfl (fun j u hu => cell_laid1 w1 i 3 hu) (fun u hu => by simp at hu; subst hu; rfl) (by omega) (by unfold maxLen; omega) (by omega) (by have := HI1.out.le; simp [World.drew]; omega) (w1.heap.size + 1) (by simp [World.drew]) (fun g cap w2 hown hgrow hat hlt => ?_); obtain ⟨gb, hr1, hB, hgv, hgb, hmw2, c5b⟩ := HI1.out.grown henn HV.out hgrow hat; obtain ⟨w3, hput, hm3, hr3, hz3⟩ := hmw2.put (t := 53) (e := 56) Try.underlying53 en (by omega) (.slice (some ⟨g, 0, none⟩) (vl + 1) cap); have HQ := Lib.hid (And.intro hown (And.intro hr1 (And.intro hB (And.intro hgv (And.intro hgb (And.intro hm3 hr3)))))); clear hown hgrow hat hlt hr1 hB hgv hgb hmw2 hm3 hr3 hz3)
          all_goals (go_wp2_with fail)
          all_goals go_ret
          all_goals
            obtain ⟨hown, hr1, hB, hgv, hgb, hm3, hr3⟩ := HQ.out
            have hll : (W en ++ [(i : Int)]).length = vl + 1 := by rw [List.length_append, HWL.out]; rfl
            have hrow : RowI 3 B1 w2 (.slice (some ⟨g, 0, none⟩) (W en ++ [(i : Int)]).length cap) (W en ++ [(i : Int)]) := by
              unfold RowI
              rw [hll, List.map_append]; exact hown
            have hput2 := HI1.out.put henn hr1 hB (by rcases hgv with ⟨a1, a2, a3⟩ | a; exact .inl ⟨a1, a2, a3⟩; exact .inr a) (hgb.symm.symm) hrow hr3 (by rw [hll]; exact hm3)
            have hrmc : (cnt n f (en : Int) : Int) < room (en : Int) := by rw [← HVL.out, HRM.out]; exact hfull'.out
            exact ⟨true, _, _, _, rfl, hput2, fun h => (by cases h), fun _ => ⟨upd f i en, Aug.base hi HEM.out (by omega) HSE.out hrmc, HP.out.base hi (by omega) (by omega) HSE.out HFI.out, fun e he => (by
              have hne : e ≠ (en : Int) := fun q => by rw [q, HSE.out] at he; cases he
              rw [updW_other _ hne, updW_other _ hne]
              exact ⟨rfl, rfl⟩)⟩⟩
        · go_wp2_with (first | (at_mapUpdate; refine wpList_mput HW.out.ms rfl _ _ _ 55 4 rfl Try.underlying55 rfl en (by omega) (.bool true) rfl rfl ?_; intro w1 hm1 hr1 hz1; have HI1 := Lib.hid (HW.out.seen hr1 hm1); clear hm1 hr1 hz1; have c3 := HI1.out.c3; have c5 := HI1.out.c5; have l2 := HI1.out.mw.look (t := 53) (e := 56) Try.underlying53 (zero_rows _) (en : Int) (by omega); have l3 := HI1.out.mr.look (t := 45) (e := 2) Try.underlying45 (zero_64 _) (en : Int) (by omega); rw [HV.out] at l2; rw [HRM.out] at l3))
          have HSE := Lib.hid (show S (en : Int) = false by
            cases hh : S (en : Int)
            · rfl
            · have := HPT.out.mono _ hh; rw [HTE.out] at this; cases this)
          have HWL := Lib.hid (show (W en).length = vl by rw [HP.out.len en (by omega) (by omega) HSE.out, HVL.out])
          have HINN := Lib.hid (HPT.out.inn HTE.out (by rw [HRM.out, ← HVL.out]; omega))
          go_loopw [47] (fun zv wr => ∃ (z : Nat) (S2 : Int → Bool), z ≤ vl ∧ zv = .int .i64 z ∧ Hid (ImW n eg ec b2 b3 b5 b7 wm rm sb B1 w0 room S2 W V wr) ∧ Hid (Inn n (fun i => E.getD i []) room f S (R.take q) en (fun o => ∃ (a : Nat) (h : a < (W en).length), a < z ∧ (W en)[a] = (o : Int)) S2)) (fun z _ => vl - (intOf z).toNat)
          case atStart => exact ⟨0, ins S1 en, Nat.zero_le _, rfl, HI1, Lib.hid (HINN.out.mono_set fun o ho => by obtain ⟨a, -, h, -⟩ := ho; omega)⟩
          case round =>
            clear HINN HI1 c3 c5 l2 l3
            obtain ⟨z, S2, hz, rfl, HI2, HIN⟩ := hrel
            by_cases hzl : z < vl
            · obtain ⟨g, hvp, hrow⟩ : ∃ g, vp = some ⟨g, 0, none⟩ ∧ RowI 3 B1 wr (.slice (some ⟨g, 0, none⟩) vl vc) (W en) := by
                rcases HI2.out.rows en (by omega) (by omega) with ⟨a, b⟩ | ⟨g, c, a, b⟩
                · have := HWL.out; rw [b] at this; simp at this; omega
                · rw [HV.out] at a
                  simp only [Value.slice.injEq] at a
                  obtain ⟨a1, a2, a3⟩ := a
                  subst a1 a3
                  exact ⟨g, rfl, by rw [HWL.out] at b; exact b⟩
              subst hvp
              have hzW : z < (W en).length := by rw [HWL.out]; exact hzl
              have d5 := hrow.cell z hzW
              obtain ⟨o, ho, hzo, hfo⟩ := (HP.out.mem en (by omega) (by omega) HSE.out _).1 (List.getElem_mem hzW)
              rw [hzo] at d5
              have HZO := Lib.hid hzo
              have HFO := Lib.hid hfo
              have HZW := Lib.hid hzW
              clear hrow hzo hfo
              have c7 := HI2.out.c7
              go_wp2_with fail
              refine Calls.mono (IH.out (leftS n S2) (Nat.lt_of_lt_of_le (HLEFT.out S2 HIN.out.mono HIN.out.this) HK.out) o f S2 W V _ (Nat.le_refl _) ho HI2.out (HP.out.mono HIN.out.mono) (.inr (by rw [HFO.out]; exact HIN.out.this))) ?_
              rintro e w4 ⟨b, S', W', V', rfl, hw4, h0, h1⟩
              have HW4 := Lib.hid hw4
              cases b
              · obtain ⟨rfl, rfl, hff⟩ := h0 rfl
                have HNX := Lib.hid ((HIN.out.step hff).mono_set (B' := fun o => ∃ (a : Nat) (h : a < (W' en).length), a < z + 1 ∧ (W' en)[a] = (o : Int)) fun o' ho' => by
                  obtain ⟨a, ha, haz, hao⟩ := ho'
                  by_cases hae : a = z
                  · subst hae; rw [HZO.out] at hao; exact .inl (.inr (by omega))
                  · exact .inl (.inl ⟨a, ha, by omega, hao⟩))
                clear h0 h1 hff hw4
                go_wp2_with fail
                go_roundw
                case rel => exact ⟨z + 1, S', by omega, by go_num, HW4, HNX⟩
                case measure => simp [intOf]; omega
              · obtain ⟨f1, haug, hrep, hkeep⟩ := h1 rfl
                have hk := hkeep en HIN.out.this
                have HV4 := Lib.hid (hk.2.trans HV.out)
                have HW4E := Lib.hid hk.1
                have hrow : RowI 3 B1 w4 (.slice (some ⟨g, 0, none⟩) vl vc) (W en) := by
                  rcases hw4.rows en (by omega) (by omega) with ⟨a, b⟩ | ⟨g', c, a, b⟩
                  · rw [HV4.out] at a; cases a
                  · rw [HV4.out] at a
                    simp only [Value.slice.injEq, Option.some.injEq, Addr.mk.injEq, and_true] at a
                    obtain ⟨a1, a2, a3⟩ := a
                    subst a1 a3
                    rw [hk.1, HWL.out] at b; exact b
                have d9 := hrow.cell z HZW.out
                have f9 := hrow.frozen z
                have c5 := hw4.c5
                have l6 := hw4.mw.look (t := 53) (e := 56) Try.underlying53 (zero_rows _) (en : Int) (by omega)
                rw [HV4.out] at l6
                have HA := Lib.hid (haug.step hi ho HEM.out (by omega) HIN.out.mono HSE.out HFO.out (fun q => by
                  rcases HFI.out with a | a
                  · rw [← q, HFO.out] at a; omega
                  · rw [← q, HFO.out, HSE.out] at a; cases a) HFI.out)
                have HR := Lib.hid (HP.out.step hi ho haug hrep HIN.out.mono (fun e he => (hkeep e he).1) (by omega) (by omega) HSE.out HIN.out.this HFO.out HFI.out HZW.out HZO.out)
                have HKP := Lib.hid hkeep
                clear h0 h1 hrow hw4 haug hrep hk hkeep
                go_wp2_with fail
                go_ret
                refine ⟨true, S', updW W' en ((W en).set z i), V', rfl, ?_, fun h => (by cases h), fun _ => ⟨_, HA.out, HR.out, fun e he => ?_⟩⟩
                · have := HW4.out.store henn HV4.out z (i : Int)
                  rw [HW4E.out] at this
                  exact this
                · have hne : e ≠ (en : Int) := fun q => by rw [q, HSE.out] at he; cases he
                  rw [updW_other _ hne]
                  exact HKP.out e (HIN.out.mono e he)
            · obtain rfl : z = vl := by omega
              have HDN := Lib.hid (HIN.out.done fun j hj hfj => by
                obtain ⟨a, ha, hae⟩ := List.getElem_of_mem ((HP.out.mem en (by omega) (by omega) HSE.out (j : Int)).2 ⟨j, hj, rfl, hfj⟩)
                exact ⟨a, ha, by rw [HWL.out] at ha; exact ha, hae⟩)
              go_wp2_with fail
              go_roundw
              case rel => exact ⟨q + 1, S2, by omega, by go_num, HI2, Lib.hid (by rw [HTK.out]; exact HDN.out)⟩
              case measure => simp [intOf]; omega
      · rw [hTe] at l1
        have HTE := Lib.hid hTe
        clear hTe
        go_wp2_with fail
        go_roundw
        case rel => exact ⟨q + 1, S1, by omega, by go_num, HW, Lib.hid (by rw [HTK.out]; exact HPT.out.skip HTE.out)⟩
        case measure => simp [intOf]; omega
    · go_wp2_with fail
      go_ret
      exact ⟨false, S1, W, V, rfl, HW.out, fun _ => ⟨rfl, rfl, by
        have := HPT.out
        rw [List.take_of_length_le (by omega), ← HRE.out] at this
        exact this⟩, fun h => by cases h⟩
end Go.Proofs.Ythcomgnokkndgaa
