/- A list of voices read from its text: the reference's side. -/
import Derived.Test.YthcomgnokkndgaaDoorReadVI
namespace Go.Proofs.YthcomgnokkndgaaDoor
open Go.RowKit

open Classical in
/-- The number that a piece is the text of. -/
noncomputable def rdN (l : List UInt8) : Option Int := if h : ∃ n : Int, -999999999 ≤ n ∧ n ≤ 999999999 ∧ Lib.itoa n = l then some h.choose else none
theorem rdN_itoa {n : Int} (h0 : -999999999 ≤ n) (h1 : n ≤ 999999999) : rdN (Lib.itoa n) = some n := by
  have h : ∃ m : Int, -999999999 ≤ m ∧ m ≤ 999999999 ∧ Lib.itoa m = Lib.itoa n := ⟨n, h0, h1, rfl⟩
  unfold rdN
  rw [dif_pos h]
  have := h.choose_spec.2.2
  congr 1
  rw [← valI_itoa h.choose, this, valI_itoa]
theorem rdN_num {s : ByteArray} {x : Int} {b : Bool} (h : NumIs (-999999999) 999999999 s x b) : rdN s.data.toList = if b then some x else none := by
  rcases h with ⟨rfl, h1, h2, h3⟩ | ⟨rfl, -, h3⟩
  · rw [← h3, dec_bytes, rdN_itoa h1 h2]; rfl
  · unfold rdN
    rw [dif_neg]
    · rfl
    · rintro ⟨n, a, c, e⟩
      exact h3 n a c ((list_dec e.symm).trans (bytes_eq rfl).symm)
noncomputable def trustL (l : List UInt8) : List Int := if l = [] then [] else (splitL 44 (l.drop 1)).filterMap rdN
noncomputable def pv (l : List UInt8) : VD := (decide (l.head? = some 43), trustL l)
theorem pv_vtxt {x : VD} (hr : ∀ n ∈ x.2, 0 ≤ n ∧ n ≤ 12) : pv (vtxt x) = x := by
  have h1 : trustL (vtxt x) = x.2 := by
    unfold trustL
    rw [if_neg (by simp [vtxt])]
    have : (vtxt x).drop 1 = decs 44 x.2 := rfl
    rw [this]
    by_cases he : x.2 = []
    · rw [he]
      have : decs 44 [] = [] := rfl
      rw [this]
      have h0 : rdN [] = none := by
        unfold rdN
        rw [dif_neg]
        rintro ⟨n, -, -, e⟩
        exact itoa_ne n e
      simp [splitL, h0]
    · rw [decs_split he, List.filterMap_map]
      have key : ∀ xs : List Int, (∀ n ∈ xs, 0 ≤ n ∧ n ≤ 12) → xs.filterMap (rdN ∘ Lib.itoa) = xs := by
        intro xs
        induction xs with
        | nil => intro _; rfl
        | cons y ys ih =>
          intro h
          have hy := h y (List.mem_cons_self ..)
          rw [List.filterMap_cons]
          simp only [Function.comp, rdN_itoa (n := y) (by omega) (by omega)]
          rw [ih fun n hn => h n (List.mem_cons_of_mem _ hn)]
      exact key _ hr
  unfold pv
  rw [h1]
  have : decide ((vtxt x).head? = some 43) = x.1 := by
    unfold vtxt
    cases x.1 <;> simp
  rw [this]
theorem OwnI.narrow {lo hi g n c : Nat} {w : World} {xs : List Int} (h : OwnI lo hi w (.slice (some ⟨g, 0, none⟩) n c) xs) : OwnI g (g + 1) w (.slice (some ⟨g, 0, none⟩) n c) xs := by
  rcases h with ⟨e, _⟩ | ⟨g', cap, e, h1, h2, h3⟩
  · cases e
  · simp only [Value.slice.injEq, Option.some.injEq, Addr.mk.injEq, and_true] at e
    obtain ⟨rfl, rfl, rfl⟩ := e
    refine .inr ⟨g, c, rfl, Nat.le_refl _, Nat.lt_succ_self _, h3.1, ?_⟩
    rcases h3.2 with ⟨e, _⟩ | ⟨g', cap', cur, e, _, r⟩
    · cases e
    · have e' := e
      simp only [Value.slice.injEq, Option.some.injEq, Addr.mk.injEq, and_true] at e'
      obtain ⟨rfl, -, -⟩ := e'
      exact .inr ⟨g, cap', cur, e, Nat.le_refl _, r⟩
/-- The piece from f to i, and what is left. -/
theorem piece_mid {s : ByteArray} {c : UInt8} {f i : Nat} (hf : f ≤ i) (hi : i < s.size) (hc : s[i] = c) (hn : ∀ j (h : j < s.size), f ≤ j → j < i → s[j] ≠ c) : splitL c (s.data.toList.drop f) = (s.extract f i).data.toList :: splitL c (s.data.toList.drop (i + 1)) := by
  have hno : c ∉ (s.data.toList.drop f).take (i - f) := by
    intro hm
    obtain ⟨j, hj, e⟩ := List.getElem_of_mem hm
    rw [List.length_take, List.length_drop, size_list] at hj
    rw [List.getElem_take, List.getElem_drop, get_list s (f + j) (by omega)] at e
    exact hn (f + j) (by omega) (by omega) (by omega) e
  have e : s.data.toList.drop f = (s.data.toList.drop f).take (i - f) ++ c :: s.data.toList.drop (i + 1) := by
    have h1 : (s.data.toList.drop f).drop (i - f) = s.data.toList.drop i := by rw [List.drop_drop]; congr 1; omega
    have h2 : s.data.toList.drop i = c :: s.data.toList.drop (i + 1) := by
      rw [List.drop_eq_getElem_cons (by rw [size_list]; exact hi), get_list s i hi, hc]
    rw [← h2, ← h1, List.take_append_drop]
  rw [extract_list]
  conv => lhs; rw [e]
  exact splitL_some hno
theorem piece_end {s : ByteArray} {c : UInt8} {f : Nat} (hn : ∀ j (h : j < s.size), f ≤ j → s[j] ≠ c) : splitL c (s.data.toList.drop f) = [(s.extract f s.size).data.toList] := by
  have hno : c ∉ s.data.toList.drop f := by
    intro hm
    obtain ⟨j, hj, e⟩ := List.getElem_of_mem hm
    rw [List.length_drop, size_list] at hj
    rw [List.getElem_drop, get_list s (f + j) (by omega)] at e
    exact hn (f + j) (by omega) (by omega) e
  rw [splitL_none hno, extract_list, List.take_of_length_le (by rw [List.length_drop, size_list]; omega)]

/-- A voice in a box, its list in a block of its own. -/
structure VBox (vb tg tc : Nat) (sp : Bool) (C : List Int) (x : World) : Prop where
  inw : InW vb x
  c0 : x.cell? ⟨vb, 0, none⟩ = some (.bool sp)
  c1 : x.cell? ⟨vb, 1, none⟩ = some (.slice (some ⟨tg, 0, none⟩) C.length tc)
  own : OwnI tg (tg + 1) x (.slice (some ⟨tg, 0, none⟩) C.length tc) C
  ne : tg ≠ vb
  fz : x.frozen? ⟨vb, 1, none⟩ = false
theorem rng_frozen {lo hi : Nat} {w w' : World} (h : Rng lo hi w w') {b o : Nat} {s : Option Nat} (hb : b < w.heap.size) (hd : b < lo ∨ hi ≤ b) : w'.frozen? ⟨b, o, s⟩ = w.frozen? ⟨b, o, s⟩ := by
  have e := h.block b hb hd
  unfold World.frozen?
  simp only [e]
theorem VBox.ext {vb tg tc : Nat} {sp : Bool} {C : List Int} {x y : World} (h : VBox vb tg tc sp C x) (hx : Ext x y) : VBox vb tg tc sp C y :=
  ⟨⟨Nat.lt_of_lt_of_le h.inw.lt hx.size⟩, by rw [Below.cell hx h.inw.lt]; exact h.c0, by rw [Below.cell hx h.inw.lt]; exact h.c1, h.own.ext hx, h.ne, (rng_frozen (Rng.of_ext hx (lo := vb + 1) (hi := vb + 1)) h.inw.lt (.inl (Nat.lt_succ_self _))).trans h.fz⟩

theorem VBox.rng {vb tg tc : Nat} {sp : Bool} {C : List Int} {x y : World} (h : VBox vb tg tc sp C x) (hr : Rng tg (tg + 1) x y) : InW vb y ∧ y.cell? ⟨vb, 0, none⟩ = some (.bool sp) ∧ y.cell? ⟨vb, 1, none⟩ = some (.slice (some ⟨tg, 0, none⟩) C.length tc) ∧ y.frozen? ⟨vb, 1, none⟩ = false := by
  have hne := h.ne
  exact ⟨⟨Nat.lt_of_lt_of_le h.inw.lt hr.size⟩, rng_cell hr h.c0 h.inw.lt (by omega), rng_cell hr h.c1 h.inw.lt (by omega), (rng_frozen hr h.inw.lt (by omega)).trans h.fz⟩
theorem VBox.put {vb lo hi g' c' : Nat} {sp : Bool} {C : List Int} {y : World} {u : Value} (hi0 : InW vb y) (h0 : y.cell? ⟨vb, 0, none⟩ = some (.bool sp)) (h1 : y.cell? ⟨vb, 1, none⟩ = some u) (hz : y.frozen? ⟨vb, 1, none⟩ = false) (ho : OwnI lo hi y (.slice (some ⟨g', 0, none⟩) C.length c') C) (hne : g' ≠ vb) :
    VBox vb g' c' sp C (y.setCell ⟨vb, 1, none⟩ (.slice (some ⟨g', 0, none⟩) C.length c')) :=
  ⟨⟨by have := hi0.lt; rw [World.size_setCell]; exact this⟩, by rw [World.cell?_setCell_other _ _ _ _ (by simp)]; exact h0, by rw [World.cell?_setCell_same _ _ _ h1], ho.narrow.setCell (by omega), hne, by rw [World.frozen?_setCell]; exact hz⟩

set_option maxHeartbeats 8000000 in
set_option maxRecDepth 100000 in
theorem spec_l02Voice (s : ByteArray) (w : World) (hs : s.size ≤ 1048576) :
    Calls Tryd.prog 58 #[.string s] w fun e w' => ∃ g c, e = .returned (.agg #[.bool (pv s.data.toList).1, .slice (some ⟨g, 0, none⟩) (pv s.data.toList).2.length c]) ∧ OwnI w.heap.size w'.heap.size w' (.slice (some ⟨g, 0, none⟩) (pv s.data.toList).2.length c) (pv s.data.toList).2 ∧ Ext w w' := by
  obtain ⟨sp, hsp⟩ : ∃ sp, (pv s.data.toList).1 = sp := ⟨_, rfl⟩
  obtain ⟨X, hX⟩ : ∃ X, (pv s.data.toList).2 = X := ⟨_, rfl⟩
  rw [hsp, hX]
  have HX := Lib.hid (show trustL s.data.toList = X from hX)
  have HSP : Hid (sp = if h : 0 < s.size then decide (s[0].toNat = 43) else false) := Lib.hid (by
    rw [← hsp]
    unfold pv
    dsimp only
    split
    · rename_i h
      rw [List.head?_eq_getElem?, List.getElem?_eq_getElem (by rw [size_list]; exact h), get_list s 0 h]
      rw [Bool.eq_iff_iff]
      simp only [Option.some.injEq, decide_eq_true_eq]
      exact ⟨fun e => by rw [e]; rfl, fun e => UInt8.toNat_inj.1 e⟩
    · rename_i h
      rw [list_none h]; rfl)
  clear hX hsp
  by_cases h0 : 0 < s.size
  · obtain ⟨c, hc⟩ : ∃ c, s[0].toNat = c := ⟨_, rfl⟩
    have hsp2 := HSP.out
    rw [dif_pos h0, hc] at hsp2
    have HXS := Lib.hid (show X = (splitL 44 (s.data.toList.drop 1)).filterMap rdN by
      rw [← HX.out]
      unfold trustL
      rw [if_neg (fun e => by have := size_list s; rw [e] at this; simp at this; omega)])
    have hc43 : ((c : Int) == 43) = sp := by
      rw [hsp2, Bool.eq_iff_iff]; simp; omega
    have hnil : ((s.data.toList.drop 1).length : Int) = s.size - 1 := by rw [List.length_drop, size_list]; omega
    clear HSP HX hsp2 hnil
    go_enter Tryd.func58, Tryd.ntmps58
    go_wp2_with fail
    have H00 := Lib.hid (own_empty (w.alloc (.cells #[.bool false, .slice none 0 0] 70)) (w.alloc (.cells #[.bool false, .slice none 0 0] 70)).heap.size (Nat.le_refl _))
    go_loopw [4, 5] (fun f i wr => ∃ (k f0 tg tc : Nat) (C : List Int), f0 ≤ k ∧ k ≤ s.size + 1 ∧ i = .int .i64 k ∧ f = .int .i64 f0 ∧ C.length ≤ k ∧ Ext (w.alloc (.cells #[.bool false, .slice none 0 0] 70)) wr ∧ Hid (VBox (w.heap.size + 1 + 1) tg tc sp C wr) ∧ Hid (w.heap.size + 1 ≤ tg) ∧ Hid (∀ j (h : j < s.size), f0 ≤ j → j < k → s[j] ≠ 44) ∧ Hid (X = C ++ if k ≤ s.size then (splitL 44 (s.data.toList.drop f0)).filterMap rdN else [])) (fun _ i _ => s.size + 1 - (intOf i).toNat)
    case atStart =>
      refine ⟨1, 1, w.heap.size + 1, 0, [], Nat.le_refl _, by omega, rfl, rfl, by simp, ExtC.ext, Lib.hid ⟨⟨by simp⟩, ?_, ?_, ?_, by omega, ?_⟩, Lib.hid (Nat.le_refl _), Lib.hid (fun j h a b => absurd a (by omega)), Lib.hid (by rw [if_pos (by omega)]; exact HXS.out)⟩
      · rw [World.cell?_alloc_at _ _ _ _ (by simp)]; rfl
      · rw [World.cell?_alloc_at _ _ _ _ (by simp)]; rfl
      · have := H00.out.narrow
        simp only [World.size_alloc] at this
        exact this.ext ExtC.ext
      · simp [go_sem]
    case round =>
      clear H00
      obtain ⟨k, f0, tg, tc, C, hfk, hk, rfl, rfl, hC, hx, HB, HTG, HNO, HR⟩ := hrel
      obtain ⟨g0, rfl⟩ := hx.grow; clear hx
      obtain ⟨ivb, b0, b1, bo, bne, bz⟩ := HB.out
      clear bo bne
      by_cases hks : k ≤ s.size
      · have HR2 := Lib.hid (show X = C ++ (splitL 44 (s.data.toList.drop f0)).filterMap rdN by have := HR.out; rwa [if_pos hks] at this)
        by_cases hskip : ∃ h : k < s.size, s[k].toNat ≠ 44
        · obtain ⟨hlt, h44⟩ := hskip
          have h44' : ((s[k].toNat : Int) == 44) = false := by simp; omega
          have H44 := Lib.hid h44
          clear h44
          go_wp2_with fail
          go_roundw
          case rel =>
            refine ⟨k + 1, f0, tg, tc, C, by omega, by omega, by go_num, rfl, by omega, ExtC.ext, HB, HTG, Lib.hid (fun j h a b => ?_), Lib.hid (by rw [if_pos (by omega)]; exact HR2.out)⟩
            by_cases e : j = k
            · subst e; intro e2; exact H44.out (by rw [e2]; rfl)
            · exact HNO.out j h a (by omega)
          case measure => simp [intOf]; omega
        · -- a piece ends here
          have HNX := Lib.hid (show (splitL 44 (s.data.toList.drop f0)).filterMap rdN = [(s.extract f0 k).data.toList].filterMap rdN ++ (if k + 1 ≤ s.size then (splitL 44 (s.data.toList.drop (k + 1))).filterMap rdN else []) by
            by_cases hlt : k < s.size
            · have h44 : s[k] = 44 := UInt8.toNat_inj.1 (Classical.byContradiction fun e => hskip ⟨hlt, e⟩)
              rw [piece_mid hfk hlt h44 (fun j h a b => HNO.out j h a b), if_pos (by omega), ← List.filterMap_append]; rfl
            · have e : k = s.size := by omega
              rw [piece_end (fun j h a => HNO.out j h a (by omega)), if_neg (by omega), e]; simp)
          obtain ⟨x, bx, hx⟩ := num_some (-999999999) 999999999 (s.extract f0 k)
          have R := fun y => spec_l01Read (s.extract f0 k) x bx hx y (Nat.le_trans (size_extract' _ _ _) hs)
          have HRD := Lib.hid (rdN_num hx)
          obtain ⟨PL, hPL⟩ : ∃ l, (s.extract f0 k).data.toList = l := ⟨_, rfl⟩
          rw [hPL] at HNX HRD
          clear hx hPL
          by_cases hlt : k < s.size
          · have h44 : ((s[k].toNat : Int) == 44) = true := by
              have : s[k].toNat = 44 := Classical.byContradiction fun e => hskip ⟨hlt, e⟩
              simp [this]
            have h44n : s[k].toNat = 44 := Classical.byContradiction fun e => hskip ⟨hlt, e⟩
            clear hskip
            cases bx
            · go_wp2_with (first | (go_at_call 74; (with_reducible refine (R _).mono ?_); rintro e w' ⟨rfl, hx⟩; obtain ⟨g, rfl⟩ := hx.grow; clear hx))
              go_roundw
              case rel => exact ⟨k + 1, k + 1, tg, tc, C, Nat.le_refl _, by omega, by go_num, by go_num, by omega, ExtC.ext, Lib.hid (HB.out.ext ExtC.ext), HTG, Lib.hid (fun j h a b => absurd a (by omega)), Lib.hid (by rw [HR2.out, HNX.out]; simp [HRD.out])⟩
              case measure => simp [intOf]; omega
            · go_wp2_with (first | (go_at_call 74; (with_reducible refine (R _).mono ?_); rintro e w' ⟨rfl, hx⟩; obtain ⟨g, rfl⟩ := hx.grow; clear hx) | (at_builtin; refine app_int2 (w0 := (w.alloc (.cells #[.bool false, .slice none 0 0] 70))) (lo := tg) (hi := tg + 1) _ _ tg tc C.length C ⟨g.fin.heap.size, 0, none⟩ 1 [x] rfl rfl rfl ((HB.out.ext ExtC.ext).own) rfl (cells_one _ _ _) (by simp; omega) ExtC.ext (by simp only [World.size_alloc]; exact HTG.out) (by simp) ?_; intro g' c' w1 ho hr hg' hx; obtain ⟨i3, q0, q1, q2⟩ := (HB.out.ext (ExtC.ext : Ext g0.fin (g.fin.alloc (.cells #[.int .i64 x] 2)))).rng hr; have hsz := hr.size; obtain ⟨g3, rfl⟩ := hx.grow; clear hx; have HO2 := Lib.hid (And.intro ho hg'); have HSZ := Lib.hid hsz; clear ho hr hg' hsz))
              go_roundw
              case rel =>
                obtain ⟨ho, hg'⟩ := HO2.out
                have z0 := HB.out.inw.lt
                have zg := (ExtC.ext : Ext g0.fin g.fin).size
                simp only [World.size_alloc] at hg'
                have hne := HB.out.ne
                have htg := HTG.out
                exact ⟨k + 1, k + 1, g', c', C ++ [x], Nat.le_refl _, by omega, by go_num, by go_num, by simp; omega, (ExtC.ext : Ext _ g3.fin).setCell (by simp) _, Lib.hid (by have := VBox.put i3 q0 q1 q2 ho (by omega); simpa using this), Lib.hid (by omega), Lib.hid (fun j h a b => absurd a (by omega)), Lib.hid (by rw [HR2.out, HNX.out]; simp [HRD.out])⟩
              case measure => simp [intOf]; omega
          · have hke : ¬ k < s.size := hlt
            clear hskip
            cases bx
            · go_wp2_with (first | (go_at_call 74; (with_reducible refine (R _).mono ?_); rintro e w' ⟨rfl, hx⟩; obtain ⟨g, rfl⟩ := hx.grow; clear hx))
              go_roundw
              case rel => exact ⟨k + 1, k + 1, tg, tc, C, Nat.le_refl _, by omega, by go_num, by go_num, by omega, ExtC.ext, Lib.hid (HB.out.ext ExtC.ext), HTG, Lib.hid (fun j h a b => absurd a (by omega)), Lib.hid (by rw [HR2.out, HNX.out]; simp [HRD.out])⟩
              case measure => simp [intOf]; omega
            · go_wp2_with (first | (go_at_call 74; (with_reducible refine (R _).mono ?_); rintro e w' ⟨rfl, hx⟩; obtain ⟨g, rfl⟩ := hx.grow; clear hx) | (at_builtin; refine app_int2 (w0 := (w.alloc (.cells #[.bool false, .slice none 0 0] 70))) (lo := tg) (hi := tg + 1) _ _ tg tc C.length C ⟨g.fin.heap.size, 0, none⟩ 1 [x] rfl rfl rfl ((HB.out.ext ExtC.ext).own) rfl (cells_one _ _ _) (by simp; omega) ExtC.ext (by simp only [World.size_alloc]; exact HTG.out) (by simp) ?_; intro g' c' w1 ho hr hg' hx; obtain ⟨i3, q0, q1, q2⟩ := (HB.out.ext (ExtC.ext : Ext g0.fin (g.fin.alloc (.cells #[.int .i64 x] 2)))).rng hr; have hsz := hr.size; obtain ⟨g3, rfl⟩ := hx.grow; clear hx; have HO2 := Lib.hid (And.intro ho hg'); have HSZ := Lib.hid hsz; clear ho hr hg' hsz))
              go_roundw
              case rel =>
                obtain ⟨ho, hg'⟩ := HO2.out
                have z0 := HB.out.inw.lt
                have zg := (ExtC.ext : Ext g0.fin g.fin).size
                simp only [World.size_alloc] at hg'
                have hne := HB.out.ne
                have htg := HTG.out
                exact ⟨k + 1, k + 1, g', c', C ++ [x], Nat.le_refl _, by omega, by go_num, by go_num, by simp; omega, (ExtC.ext : Ext _ g3.fin).setCell (by simp) _, Lib.hid (by have := VBox.put i3 q0 q1 q2 ho (by omega); simpa using this), Lib.hid (by omega), Lib.hid (fun j h a b => absurd a (by omega)), Lib.hid (by rw [HR2.out, HNX.out]; simp [HRD.out])⟩
              case measure => simp [intOf]; omega
      · have HF := Lib.hid (show X = C by have := HR.out; rw [if_neg hks] at this; simpa using this)
        go_wp2_with fail
        refine bodyPost_ret (v := .agg #[.bool sp, .slice (some ⟨tg, 0, none⟩) C.length tc]) (by simp [results, Tryd.results58, go_sem]) rfl ?_
        have e := HF.out
        subst e
        have htg := HTG.out
        have hlt := (HB.out.own.row).lt tg rfl
        exact ⟨_, _, rfl, ((HB.out.own.setCell (by omega)).setCell (by omega)).mono (by omega) (by simp only [World.size_setCell]; omega), ExtC.ext⟩

  · have hnil : X = [] := by
      rw [← HX.out]
      unfold trustL
      rw [if_pos (list_none h0)]
    have hspf : sp = false := by rw [HSP.out, dif_neg h0]
    subst hnil hspf
    clear HSP HX
    go_enter Tryd.func58, Tryd.ntmps58
    go_wp2_with fail
    go_loopw [4, 5] (fun f i wr => i = .int .i64 1 ∧ f = .int .i64 1 ∧ wr = ((w.alloc (.cells #[.bool false, .slice none 0 0] 70)).alloc (.cells #[] 2)).alloc (.cells #[.bool false, .slice (some ⟨w.heap.size + 1, 0, none⟩) 0 0] 70)) (fun _ _ _ => 0)
    case atStart => exact ⟨rfl, rfl, rfl⟩
    case round =>
      obtain ⟨rfl, rfl, rfl⟩ := hrel
      go_wp2_with fail
      refine bodyPost_ret (v := .agg #[.bool false, .slice (some ⟨w.heap.size + 1, 0, none⟩) 0 0]) (by simp [results, Tryd.results58, go_sem]) rfl ?_
      refine ⟨_, _, rfl, ?_, ExtC.ext⟩
      have h9 := own_empty (w.alloc (.cells #[.bool false, .slice (some ⟨w.heap.size + 1, 0, none⟩) 0 0] 70)) w.heap.size (by simp)
      simp only [World.size_alloc] at h9
      exact (h9.ext ExtC.ext).mono (Nat.le_refl _) (by simp)
end Go.Proofs.YthcomgnokkndgaaDoor
