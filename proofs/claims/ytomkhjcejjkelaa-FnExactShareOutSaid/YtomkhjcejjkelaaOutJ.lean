/- Giving out by greatest rests, on the program's side. -/
import Derived.Test.YtomkhjcejjkelaaOutI
import Derived.Test.YtomkhjcejjkelaaAppR
namespace Go.Proofs.Ytomkhjcejjkelaa
open Go.RowKit Go.Sort

theorem sortS_out (t s : Int) (ws : List Int) (bt bw bs b off c lo hi g cap : Nat) (w : World) (h : OutW t s ws bt bw bs b off c w) (hown : OwnN lo hi w g cap (List.range ws.length)) (h1 : bt < lo) (h2 : bw < lo) (h3 : bs < lo) (h4 : b < lo)
    (hn : 1 ≤ ws.length ∧ ws.length ≤ 20) (ht : 0 ≤ t ∧ t ≤ 1000000000) (hs : 1 ≤ s ∧ s ≤ 1000000000) (hss : s = ws.sum) (hw : ∀ k (h : k < ws.length), 0 ≤ ws[k] ∧ ws[k] ≤ 1000000000) :
    Calls Try.prog 23 #[.slice (some ⟨g, 0, none⟩) ws.length cap, .func (.func 24) #[] #[.pointer (some ⟨bt, 0, none⟩), .pointer (some ⟨bw, 0, none⟩), .pointer (some ⟨bs, 0, none⟩)]] w fun e w' => e = .returned (.tuple #[]) ∧ OwnN lo hi w' g cap (ordL (rOf t ws) ws.length) ∧ Rng g (g + 1) w w' := by
  have J := stable_out t s ws bt bw bs b off c lo hi g cap w h hown h1 h2 h3 h4 hn ht hs hss hw
  clear h hown hss hw
  obtain ⟨n, hnn⟩ : ∃ n, ws.length = n := ⟨_, rfl⟩
  rw [hnn] at J ⊢
  clear hnn
  go_enter Try.func23, Try.ntmps23
  go_wp2_with fail
  refine Calls.mono J ?_
  rintro e w1 ⟨rfl, ho, hr⟩
  have HO := Lib.hid (And.intro ho hr); clear ho hr
  go_wp2_with fail
  go_end0
  exact ⟨rfl, HO.out.1, HO.out.2⟩

theorem Try.info_intN : (Try.prog.info? 3).map (fun i => (i.zero, i.size, i.bytes)) = some (some (.int .i64 0), 1, 8) := by kernel_rfl
theorem app_rawI {ops : Array Oper} {rest : List Oper} {o : Oper} {a : Act} {Q : Exit → Act → World → Prop} {w : World} {lo : Nat} (s x : Operand) (g cap n : Nat) (cs : List Value) (ad : Addr) (c : Nat) (t : Value)
    (hgd : o.guard = none) (ho : o.op = .call { callee := .builtin .append, args := #[s, x], argTypes := #[22, 22] })
    (hs : a.eval s = .slice (some ⟨g, 0, none⟩) n cap) (hcs : w.ownsRow lo 2 1 (.slice (some ⟨g, 0, none⟩) n cap) n cs) (hx : a.eval x = .slice (some ad) 1 c)
    (hy : w.cell? (ad.add 0) = some t) (ht1 : t.oneCell' = true) (hb : n ≤ 1099511627776)
    (h : ∀ g' c' w', w'.ownsRow lo 2 1 (.slice (some ⟨g', 0, none⟩) (n + 1) c') (n + 1) (cs ++ [t]) → Rng g (g + 1) w w' → (g' = w.heap.size ∨ g = g') → wpList Try.prog ops Q rest (a.put o.dst (.slice (some ⟨g', 0, none⟩) (n + 1) c')) w') : wpList Try.prog ops Q (o :: rest) a w := by
  obtain ⟨i0, hi0, hz0, hz1, hz2⟩ := info_parts Try.info_i64
  have hgl := hcs.lt g rfl
  refine wpList_append_own2 w hgd s x _ ho lo 2 i0 (.int .i64 0) 1 8 Try.underlying22 hi0 hz0 hz1 hz2 rfl (by decide) _ n cs hs hcs ad 1 c [t] hx (by simp) (fun j u hj => ?_) (fun u hu => ?_) (by unfold maxLen; omega) (by omega) (by omega) (fun v' w' h2 h3 h4 h5 => ?_)
  · have : j = 0 := by have := (List.getElem?_eq_some_iff.1 hj).1; simpa using this
    subst this
    simp at hj; subst hj; exact hy
  · simp at hu; subst hu; exact ht1
  · obtain ⟨g', c', rfl, hw⟩ := h5 (by omega)
    have hw' : g' = w.heap.size ∨ g = g' := by simpa [Value.ownBlock] using hw
    exact h g' c' w' h2 (rng_of_grown h3) hw'
theorem app_rawN {ops : Array Oper} {rest : List Oper} {o : Oper} {a : Act} {Q : Exit → Act → World → Prop} {w : World} {lo : Nat} (s x : Operand) (g cap n : Nat) (cs : List Value) (ad : Addr) (c : Nat) (t : Value)
    (hgd : o.guard = none) (ho : o.op = .call { callee := .builtin .append, args := #[s, x], argTypes := #[40, 40] })
    (hs : a.eval s = .slice (some ⟨g, 0, none⟩) n cap) (hcs : w.ownsRow lo 3 1 (.slice (some ⟨g, 0, none⟩) n cap) n cs) (hx : a.eval x = .slice (some ad) 1 c)
    (hy : w.cell? (ad.add 0) = some t) (ht1 : t.oneCell' = true) (hb : n ≤ 1099511627776)
    (h : ∀ g' c' w', w'.ownsRow lo 3 1 (.slice (some ⟨g', 0, none⟩) (n + 1) c') (n + 1) (cs ++ [t]) → Rng g (g + 1) w w' → (g' = w.heap.size ∨ g = g') → wpList Try.prog ops Q rest (a.put o.dst (.slice (some ⟨g', 0, none⟩) (n + 1) c')) w') : wpList Try.prog ops Q (o :: rest) a w := by
  obtain ⟨i0, hi0, hz0, hz1, hz2⟩ := info_parts Try.info_intN
  have hgl := hcs.lt g rfl
  refine wpList_append_own2 w hgd s x _ ho lo 3 i0 (.int .i64 0) 1 8 Try.underlying40 hi0 hz0 hz1 hz2 rfl (by decide) _ n cs hs hcs ad 1 c [t] hx (by simp) (fun j u hj => ?_) (fun u hu => ?_) (by unfold maxLen; omega) (by omega) (by omega) (fun v' w' h2 h3 h4 h5 => ?_)
  · have : j = 0 := by have := (List.getElem?_eq_some_iff.1 hj).1; simpa using this
    subst this
    simp at hj; subst hj; exact hy
  · simp at hu; subst hu; exact ht1
  · obtain ⟨g', c', rfl, hw⟩ := h5 (by omega)
    have hw' : g' = w.heap.size ∨ g = g' := by simpa [Value.ownBlock] using hw
    exact h g' c' w' h2 (rng_of_grown h3) hw'
theorem two_rows (x : World) (lo : Nat) (hl : lo ≤ x.heap.size) (T1 T2 : TypeId) : (((x.alloc (.cells #[] T1)).alloc (.cells #[] T2)).drew).ownsRow lo T1 1 (.slice (some ⟨x.heap.size, 0, none⟩) 0 0) 0 [] ∧ (((x.alloc (.cells #[] T1)).alloc (.cells #[] T2)).drew).ownsRow lo T2 1 (.slice (some ⟨x.heap.size + 1, 0, none⟩) 0 0) 0 [] ∧ Ext x ((x.alloc (.cells #[] T1)).alloc (.cells #[] T2)).drew := by
  have h1 := World.ownsRow_made (e := T1) (size := 1) (base := lo) x #[] 0 hl (by unfold maxLen; omega) (by rfl)
  have h2 := World.ownsRow_made (e := T2) (size := 1) (base := lo) (x.alloc (.cells #[] T1)) #[] 0 (by simp; omega) (by unfold maxLen; omega) (by rfl)
  refine ⟨ownsRow_ext h1 ((Ext.alloc (Ext.refl _) _).drew), ?_, ((Ext.alloc (Ext.refl _) _).alloc _).drew⟩
  have := ownsRow_ext h2 ((Ext.refl _).drew)
  simpa using this

theorem OutW.ext {t s : Int} {ws : List Int} {bt bw bs b off c : Nat} {w w' : World} (h : OutW t s ws bt bw bs b off c w) (hx : Ext w w') : OutW t s ws bt bw bs b off c w' :=
  h.rng (Rng.of_ext hx (lo := w.heap.size) (hi := w.heap.size)) h.it h.iw h.is h.ib
theorem OutW.put {t s : Int} {ws : List Int} {bt bw bs b off c : Nat} {w : World} (h : OutW t s ws bt bw bs b off c w) (h1 : bt ≠ bs) (h2 : bw ≠ bs) (h3 : b ≠ bs) (s' : Int) : OutW t s' ws bt bw bs b off c (w.setCell ⟨bs, 0, none⟩ (.int .i64 s')) := by
  have o : ∀ (p o : Nat), p ≠ bs → (w.setCell ⟨bs, 0, none⟩ (.int .i64 s')).cell? ⟨p, o, none⟩ = w.cell? ⟨p, o, none⟩ := fun p o hp => World.cell?_setCell_other _ _ _ _ (by intro e; simp only [Addr.mk.injEq] at e; exact hp e.1.symm)
  exact ⟨by simpa using h.it, by simpa using h.iw, by simpa using h.is, by simpa using h.ib, by rw [o _ _ h1]; exact h.ct, by rw [o _ _ h2]; exact h.cw, World.cell?_setCell_same _ _ _ h.cs, fun i hi => by rw [o _ _ h3]; exact h.cb i hi⟩
theorem two_boxes (w : World) (v1 v2 : Value) (T1 T2 : TypeId) : ((w.alloc (.cells #[v1] T1)).alloc (.cells #[v2] T2)).cell? ⟨w.heap.size, 0, none⟩ = some v1 ∧ ((w.alloc (.cells #[v1] T1)).alloc (.cells #[v2] T2)).cell? ⟨w.heap.size + 1, 0, none⟩ = some v2 := by
  refine ⟨?_, ?_⟩
  · rw [Below.cell (Ext.alloc (Ext.refl (w.alloc (.cells #[v1] T1))) (.cells #[v2] T2)) (by simp)]
    rw [World.cell?_alloc_at _ _ _ _ rfl]; rfl
  · rw [World.cell?_alloc_at _ _ _ _ (by simp)]; rfl

set_option maxHeartbeats 8000000 in
set_option maxRecDepth 100000 in
theorem impl_ShareOut' (t : Int) (u : Value) (ws : List Int) (w : World) (hu : RI w u ws) (hxl : ws.length ≤ 1048576) (b : Bool) (hb : outB t ws = b) (xs : List Int) (hxs : outX t ws = xs) :
    Calls Try.prog 8 #[.int .i64 t, u] w fun e w' => ∃ v', e = .returned (.tuple #[v', .bool b]) ∧ OwnI w.heap.size w'.heap.size w' v' xs ∧ Ext w w' := by
  obtain ⟨up, uc, rfl, -, hq⟩ := hu.form
  have HQ := Lib.hid hq
  clear hu hq
  have NO : ¬ SoP t ws → b = false ∧ xs = [] := fun h => by have := out_no h; rw [hb, hxs] at this; exact this
  have YES : SoP t ws → b = true ∧ xs = soX t ws := fun h => by have := out_yes h; rw [hb, hxs] at this; exact this
  have HY := Lib.hid (And.intro NO YES)
  clear hb hxs NO YES
  cases q1 : inB t 0 1000000000
  · obtain ⟨rfl, rfl⟩ := HY.out.1 fun h => by have := inB_true.2 h.1; rw [q1] at this; cases this
    go_enter Try.func8, Try.ntmps8
    go_wp2_with (first | (go_at_call 22; (with_reducible refine (impl_within t 0 1000000000 false q1 _).mono ?_); rintro e w' ⟨rfl, hx⟩; obtain ⟨g, rfl⟩ := hx.grow; clear hx))
    refine bodyPost_ret (v := .tuple #[.slice none 0 0, .bool false]) (by simp [results, Try.results8, go_sem]) rfl ?_
    exact ⟨_, rfl, .inl ⟨rfl, rfl⟩, ExtC.ext⟩
  cases q2 : inB (ws.length : Int) 1 20
  · obtain ⟨rfl, rfl⟩ := HY.out.1 fun h => by have := inB_true.2 (show 1 ≤ (ws.length : Int) ∧ (ws.length : Int) ≤ 20 by have := h.2.1; omega); rw [q2] at this; cases this
    go_enter Try.func8, Try.ntmps8
    go_wp2_with (first | (go_at_call 22; (with_reducible refine (impl_within t 0 1000000000 true q1 _).mono ?_); rintro e w' ⟨rfl, hx⟩; obtain ⟨g, rfl⟩ := hx.grow; clear hx) | (go_at_call 22; (with_reducible refine (impl_within ws.length 1 20 false q2 _).mono ?_); rintro e w' ⟨rfl, hx⟩; obtain ⟨g, rfl⟩ := hx.grow; clear hx))
    refine bodyPost_ret (v := .tuple #[.slice none 0 0, .bool false]) (by simp [results, Try.results8, go_sem]) rfl ?_
    exact ⟨_, rfl, .inl ⟨rfl, rfl⟩, ExtC.ext⟩
  have hn := inB_true.1 q2
  have ht := inB_true.1 q1
  obtain ⟨b0, off, hp, ib, hc⟩ := HQ.out (by omega)
  subst hp
  have HC := Lib.hid hc; clear hc HQ
  go_enter Try.func8, Try.ntmps8
  go_wp2_with (first | (go_at_call 22; (with_reducible refine (impl_within t 0 1000000000 true q1 _).mono ?_); rintro e w' ⟨rfl, hx⟩; obtain ⟨g, rfl⟩ := hx.grow; clear hx) | (go_at_call 22; (with_reducible refine (impl_within ws.length 1 20 true q2 _).mono ?_); rintro e w' ⟨rfl, hx⟩; obtain ⟨g, rfl⟩ := hx.grow; clear hx))
  obtain ⟨bs, hbs⟩ : ∃ bs, g.fin.heap.size = bs := ⟨_, rfl⟩
  have hbz := (ExtC.ext : Ext ((w.alloc (.cells #[.int .i64 t] 2)).alloc (.cells #[.slice (some ⟨b0, off, none⟩) ws.length uc] 22)) g.fin).size
  simp only [World.size_alloc] at hbz
  rw [hbs] at hbz
  have hb0 := ib.lt
  have HBS := Lib.hid hbs
  obtain ⟨tb1, tb2⟩ := two_boxes w (.int .i64 t) (.slice (some ⟨b0, off, none⟩) ws.length uc) 2 22
  have hO : OutW t 0 ws w.heap.size (w.heap.size + 1) bs b0 off uc (g.fin.alloc (.cells #[.int .i64 0] 2)) := by
    subst hbs
    have hx : Ext ((w.alloc (.cells #[.int .i64 t] 2)).alloc (.cells #[.slice (some ⟨b0, off, none⟩) ws.length uc] 22)) (g.fin.alloc (.cells #[.int .i64 0] 2)) := (ExtC.ext : Ext _ g.fin).alloc _
    have hxw : Ext w (g.fin.alloc (.cells #[.int .i64 0] 2)) := ExtC.ext
    exact ⟨by simp <;> omega, by simp <;> omega, by simp, by simp <;> omega, by rw [Below.cell hx (by simp <;> omega)]; exact tb1, by rw [Below.cell hx (by simp)]; exact tb2, by rw [World.cell?_alloc_at _ _ _ _ rfl]; rfl, fun i hi => by rw [Below.cell hxw hb0]; exact HC.out i hi⟩
  have hF : (g.fin.alloc (.cells #[.int .i64 0] 2)).frozen? ⟨bs, 0, none⟩ = false := by rw [← hbs]; simp [go_sem]
  have HO := Lib.hid (And.intro hO hF); clear hO hF tb1 tb2
  rw [hbs]
  clear hbs
  go_loopw [27] (fun i wr => ∃ k : Nat, k ≤ ws.length ∧ i = .int .i64 k ∧ Ext w wr ∧ Hid (OutW t (ws.take k).sum ws w.heap.size (w.heap.size + 1) bs b0 off uc wr ∧ wr.frozen? ⟨bs, 0, none⟩ = false) ∧ Hid (∀ j (h : j < ws.length), j < k → 0 ≤ ws[j] ∧ ws[j] ≤ 1000000000)) (fun i _ => ws.length - (intOf i).toNat)
  case atStart => exact ⟨0, Nat.zero_le _, rfl, ExtC.ext, HO, Lib.hid fun j _ hj => absurd hj (by omega)⟩
  case round =>
    obtain ⟨k, hk, rfl, hx, HO, HB⟩ := hrel
    obtain ⟨g0, rfl⟩ := hx.grow; clear hx
    have hsm := sum_small (M := 1000000000) (by omega) k hk (fun j h hj => HB.out j h hj)
    have ct := HO.out.1.ct
    have cw := HO.out.1.cw
    have cs := HO.out.1.cs
    have fs := HO.out.2
    have it : InW w.heap.size g0.fin := ⟨HO.out.1.it⟩
    have iw : InW (w.heap.size + 1) g0.fin := ⟨HO.out.1.iw⟩
    have is : InW bs g0.fin := ⟨HO.out.1.is⟩
    by_cases hlt : k < ws.length
    · have d := HC.out k hlt
      have hst := sum_take1 ws k hlt
      obtain ⟨y, hy⟩ : ∃ y, ws[k] = y := ⟨_, rfl⟩
      rw [hy] at d hst
      have HYY := Lib.hid hy; clear hy
      obtain ⟨s0, hs0⟩ : ∃ s0, (ws.take k).sum = s0 := ⟨_, rfl⟩
      rw [hs0] at hst hsm cs HO
      have HST := Lib.hid hst; clear hst hs0
      cases q : inB y 0 1000000000
      · obtain ⟨rfl, rfl⟩ := HY.out.1 fun h => by
          have := inB_true.2 (h.2.2.1 _ (List.getElem_mem hlt))
          rw [HYY.out, q] at this; cases this
        go_wp2_with (first | (go_at_call 22; (with_reducible refine (impl_within y 0 1000000000 false q _).mono ?_); rintro e w' ⟨rfl, hx⟩; obtain ⟨g, rfl⟩ := hx.grow; clear hx))
        refine bodyPost_ret (v := .tuple #[.slice none 0 0, .bool false]) (by simp [results, Try.results8, go_sem]) rfl ?_
        exact ⟨_, rfl, .inl ⟨rfl, rfl⟩, ExtC.ext⟩
      · have hb := inB_true.1 q
        have z1 : IntKind.i64.wrap (s0 + y) = s0 + y := IntWalk.i64_in _ (by omega)
        go_wp2_with (first | (go_at_call 22; (with_reducible refine (impl_within y 0 1000000000 true q _).mono ?_); rintro e w' ⟨rfl, hx⟩; obtain ⟨g, rfl⟩ := hx.grow; clear hx))
        go_roundw
        case rel =>
          refine ⟨k + 1, by omega, by go_num, (ExtC.ext : Ext w _).setCell (by show w.heap.size ≤ bs; omega) _, Lib.hid ⟨by rw [HST.out]; exact (HO.out.1.ext ExtC.ext).put (by omega) (by omega) (by omega) _, by rw [World.frozen?_setCell, Below.frozen (ExtC.ext : Ext g0.fin _) HO.out.1.is]; exact HO.out.2⟩, Lib.hid fun j h hj => ?_⟩
          by_cases e : j = k
          · subst e; rw [HYY.out]; exact hb
          · exact HB.out j h (by omega)
        case measure => simp [intOf]; omega
    · have hkn : k = ws.length := by omega
      subst hkn
      rw [List.take_length] at cs HO
      cases q3 : inB ws.sum 1 1000000000
      · obtain ⟨rfl, rfl⟩ := HY.out.1 fun h => by have := inB_true.2 h.2.2.2; rw [q3] at this; cases this
        go_wp2_with (first | (go_at_call 22; (with_reducible refine (impl_within ws.sum 1 1000000000 false q3 _).mono ?_); rintro e w' ⟨rfl, hx⟩; obtain ⟨g, rfl⟩ := hx.grow; clear hx))
        refine bodyPost_ret (v := .tuple #[.slice none 0 0, .bool false]) (by simp [results, Try.results8, go_sem]) rfl ?_
        exact ⟨_, rfl, .inl ⟨rfl, rfl⟩, ExtC.ext⟩
      · have hs := inB_true.1 q3
        have hso : SoP t ws := ⟨ht, by omega, fun x hx => by obtain ⟨j, hj, rfl⟩ := List.getElem_of_mem hx; exact HB.out j hj hj, hs⟩
        obtain ⟨rfl, hxs⟩ := HY.out.2 hso
        obtain ⟨s, hs'⟩ : ∃ s, ws.sum = s := ⟨_, rfl⟩
        have HSO := Lib.hid (And.intro hso (And.intro hxs hs'.symm))
        rw [hs'] at cs HO hs q3
        clear hso hxs hs' HY hsm
        go_wp2_with (first | (go_at_call 22; (with_reducible refine (impl_within s 1 1000000000 true q3 _).mono ?_); rintro e w' ⟨rfl, hx⟩; obtain ⟨g, rfl⟩ := hx.grow; clear hx))
        go_region
        · obtain ⟨r1, r2, hx⟩ := two_rows g.fin (bs + 1) (by have := HO.out.1.is; have := (ExtC.ext : Ext g0.fin g.fin).size; omega) 2 3
          have ho := (HO.out.1.ext (ExtC.ext : Ext g0.fin g.fin)).ext hx
          have hex := (ExtC.ext : Ext w g.fin).trans hx
          obtain ⟨g1, hg1⟩ := hex.grow
          rw [hg1] at r1 r2 ho ⊢
          clear hx hex hg1
          obtain ⟨z, hz⟩ : ∃ z, g.fin.heap.size = z := ⟨_, rfl⟩
          rw [hz] at r1 r2 ⊢
          have HR := Lib.hid (And.intro r1 (And.intro r2 ho))
          clear r1 r2 ho hz
          have hln : ws.length ≤ 20 := by omega
          have cw0 := HR.out.2.2.cw
          have iw0 : InW (w.heap.size + 1) g1.fin := ⟨HR.out.2.2.iw⟩
          go_wp2_with fail
          go_loopw [9, 10, 11, 46] (fun o d l i wr => ∃ (og oc ng nc k : Nat), k ≤ ws.length ∧ i = .int .i64 k ∧ l = .int .i64 (t - ((qsL t ws).take k).sum) ∧ o = .slice (some ⟨og, 0, none⟩) k oc ∧ d = .slice (some ⟨ng, 0, none⟩) k nc ∧ Ext w wr ∧ og ≠ ng ∧ Hid (wr.ownsRow (bs + 1) 2 1 (.slice (some ⟨og, 0, none⟩) k oc) k (((qsL t ws).take k).map iv) ∧ wr.ownsRow (bs + 1) 3 1 (.slice (some ⟨ng, 0, none⟩) k nc) k ((List.range k).map fun (x : Nat) => iv (x : Int)) ∧ OutW t s ws w.heap.size (w.heap.size + 1) bs b0 off uc wr)) (fun _ _ _ i _ => ws.length - (intOf i).toNat)
          case atStart => exact ⟨_, _, _, _, 0, Nat.zero_le _, rfl, by simp, rfl, rfl, ExtC.ext, by omega, HR⟩
          case round =>
            clear HR cw0 iw0
            obtain ⟨og, oc, ng, nc, k, hk, rfl, rfl, rfl, rfl, hx, hne, HR⟩ := hrel
            obtain ⟨g2, rfl⟩ := hx.grow; clear hx
            have ct := HR.out.2.2.ct
            have cw := HR.out.2.2.cw
            have cs := HR.out.2.2.cs
            have it : InW w.heap.size g2.fin := ⟨HR.out.2.2.it⟩
            have iw : InW (w.heap.size + 1) g2.fin := ⟨HR.out.2.2.iw⟩
            have is : InW bs g2.fin := ⟨HR.out.2.2.is⟩
            by_cases hlt : k < ws.length
            · have d0 := HC.out k hlt
              have hql : k < (qsL t ws).length := by rw [qsL_length]; exact hlt
              have hqe := qsL_get t ws k hql
              have hst := sum_take1 (qsL t ws) k hql
              have htk := List.take_succ_eq_append_getElem hql
              have hpt := so_part HSO.out.1 k
              have hpt2 := so_part HSO.out.1 (k + 1)
              rw [hst] at hpt2
              have hw := HB.out k hlt hlt
              obtain ⟨y, hy⟩ : ∃ y, ws[k] = y := ⟨_, rfl⟩
              rw [hy] at d0 hqe hw
              rw [← HSO.out.2.2] at hqe
              have hm := so_mul ht.1 ht.2 hw.1 hw.2
              have hd := so_div hm.1 hs.1 hm.2
              rw [hqe] at hst htk hpt2
              obtain ⟨S0, hS0⟩ : ∃ S0, ((qsL t ws).take k).sum = S0 := ⟨_, rfl⟩
              rw [hS0] at hst hpt hpt2 ⊢
              have z1 : IntKind.i64.wrap (t * y) = t * y := IntWalk.i64_in _ (by omega)
              have z2 : IntKind.i64.wrap ((t * y).tdiv s) = (t * y).tdiv s := IntWalk.i64_in _ (by omega)
              have z3 : IntKind.i64.wrap (t - S0 - (t * y).tdiv s) = t - S0 - (t * y).tdiv s := IntWalk.i64_in _ (by omega)
              have hsz0 : s ≠ 0 := by omega
              have HST := Lib.hid (And.intro htk hst)
              have hg1 := HR.out.1.lt og rfl
              have hg2 := HR.out.2.1.lt ng rfl
              have hb0 := ib.lt
              clear hy hqe htk hS0 hm hd hpt hpt2 hw hst
              go_wp2_with (first | (at_builtin; refine app_rawI (lo := bs + 1) _ _ og oc k (((qsL t ws).take k).map iv) ⟨g2.fin.heap.size, 0, none⟩ 1 (iv ((t * y).tdiv s)) rfl rfl rfl (ownsRow_ext HR.out.1 ExtC.ext) rfl (by rw [add_plain', World.cell?_alloc_at _ _ _ _ rfl]; rfl) rfl (by omega) ?_; intro og' oc' w1 ha hr hgo; have hex := Ext.rng (ExtC.ext : Ext w (g2.fin.alloc (.cells #[iv ((t * y).tdiv s)] 2))) hr (by omega); have hn1 := ownsRow_rng (ownsRow_ext HR.out.2.1 (ExtC.ext : Ext g2.fin (g2.fin.alloc (.cells #[iv ((t * y).tdiv s)] 2)))) hr (by omega); have ho1 := (HR.out.2.2.ext (ExtC.ext : Ext g2.fin (g2.fin.alloc (.cells #[iv ((t * y).tdiv s)] 2)))).rng hr (by omega) (by omega) (by omega) (by omega); have hsz := hr.size; have hgl := ha.lt og' rfl; simp only [World.size_alloc] at hsz hgo; obtain ⟨g3, rfl⟩ := hex.grow; clear hex hr; have H1 := Lib.hid (And.intro ha (And.intro hn1 ho1)); clear ha hn1 ho1) | (at_builtin; refine app_rawN (lo := bs + 1) _ _ ng nc k ((List.range k).map fun (x : Nat) => iv (x : Int)) ⟨g3.fin.heap.size, 0, none⟩ 1 (iv (k : Int)) rfl rfl rfl (ownsRow_ext H1.out.2.1 ExtC.ext) rfl (by rw [add_plain', World.cell?_alloc_at _ _ _ _ rfl]; rfl) rfl (by omega) ?_; intro ng' nc' w2 hb hr hgn; have hex := Ext.rng (ExtC.ext : Ext w (g3.fin.alloc (.cells #[iv (k : Int)] 3))) hr (by omega); have ha2 := ownsRow_rng (ownsRow_ext H1.out.1 (ExtC.ext : Ext g3.fin (g3.fin.alloc (.cells #[iv (k : Int)] 3)))) hr (by omega); have ho2 := (H1.out.2.2.ext (ExtC.ext : Ext g3.fin (g3.fin.alloc (.cells #[iv (k : Int)] 3)))).rng hr (by omega) (by omega) (by omega) (by omega); simp only [World.size_alloc] at hgn; obtain ⟨g4, rfl⟩ := hex.grow; clear hex hr; have ct2 := ho2.ct; have cs2 := ho2.cs; have it2 : InW w.heap.size g4.fin := ⟨ho2.it⟩; have is2 : InW bs g4.fin := ⟨ho2.is⟩; have H2 := Lib.hid (And.intro ha2 (And.intro hb ho2)); clear ha2 hb ho2))
              go_roundw
              case rel => exact ⟨og', oc', ng', nc', k + 1, by omega, by go_num, by rw [HST.out.2]; congr 1; omega, rfl, rfl, ExtC.ext, by omega, Lib.hid ⟨by rw [HST.out.1, List.map_append]; exact H2.out.1, by rw [List.range_succ, List.map_append]; exact H2.out.2.1, H2.out.2.2⟩⟩
              case measure => simp [intOf]; omega
            · have hkn : k = ws.length := by omega
              subst hkn
              have hrow := HR.out.1
              rw [show (qsL t ws).take ws.length = qsL t ws by rw [← qsL_length t ws, List.take_length]] at hrow
              have hoN : OwnN (bs + 1) g2.fin.heap.size g2.fin ng nc (List.range ws.length) := by
                have h2 := HR.out.2.1
                have hl := h2.lt ng rfl
                refine ⟨hl.1, hl.2, ?_⟩
                rw [List.length_range]; exact h2
              have hsum : t - ((qsL t ws).take ws.length).sum = ((leftOf t ws : Nat) : Int) := by rw [show (qsL t ws).take ws.length = qsL t ws by rw [← qsL_length t ws, List.take_length]]; exact (leftOf_eq HSO.out.1).1.symm
              have hle := (leftOf_eq HSO.out.1).2
              rw [hsum]
              have J := sortS_out t s ws w.heap.size (w.heap.size + 1) bs b0 off uc (bs + 1) g2.fin.heap.size ng nc g2.fin HR.out.2.2 hoN (by omega) (by omega) (by omega) (by have := ib.lt; omega) (by omega) ht hs HSO.out.2.2 (fun j hj => HB.out j hj hj)
              have hg1 := HR.out.1.lt og rfl
              have hg2 := HR.out.2.1.lt ng rfl
              have hcp := own_le HR.out.2.1
              have HROW := Lib.hid hrow
              obtain ⟨Lf, hLf⟩ : ∃ n, leftOf t ws = n := ⟨_, rfl⟩
              have HLF := Lib.hid hLf
              rw [hLf] at hle ⊢
              clear hrow hoN hsum hLf
              go_wp2_with fail
              refine Calls.mono J ?_
              rintro e w1 ⟨rfl, hN, hr⟩
              have hex := Ext.rng (ExtC.ext : Ext w g2.fin) hr (by omega)
              have hO1 := ownsRow_rng HROW.out hr (by omega)
              obtain ⟨g3, rfl⟩ := hex.grow; clear hex hr
              have HS := Lib.hid (And.intro hO1 hN); clear hO1 hN J
              go_wp2_with fail
              go_loopw [78] (fun i wr => ∃ k : Nat, k ≤ Lf ∧ i = .int .i64 k ∧ Ext w wr ∧ Hid (wr.ownsRow (bs + 1) 2 1 (.slice (some ⟨og, 0, none⟩) ws.length oc) ws.length ((outQ (qOf t ws) ws.length ((ordL (rOf t ws) ws.length).take k)).map iv) ∧ OwnN (bs + 1) g2.fin.heap.size wr ng nc (ordL (rOf t ws) ws.length))) (fun i _ => Lf - (intOf i).toNat)
              case atStart => exact ⟨0, Nat.zero_le _, rfl, ExtC.ext, Lib.hid ⟨by rw [List.take_zero, outQ_nil]; exact HS.out.1, HS.out.2⟩⟩
              case round =>
                clear HS
                obtain ⟨k, hk, rfl, hx, HS⟩ := hrel
                obtain ⟨g5, rfl⟩ := hx.grow; clear hx
                by_cases hlt : k < Lf
                · have hko : k < (ordL (rOf t ws) ws.length).length := by rw [ordL_length]; omega
                  obtain ⟨tk1, tk2, tk3⟩ := take_ord (rOf t ws) hko
                  have c0 : g5.fin.cell? ⟨ng, k, none⟩ = some (.int .i64 (((ordL (rOf t ws) ws.length)[k] : Nat) : Int)) := by rw [HS.out.2.2.2.cellAt k (by omega)]; simp [hko]
                  obtain ⟨p, hp⟩ : ∃ p, (ordL (rOf t ws) ws.length)[k] = p := ⟨_, rfl⟩
                  rw [hp] at tk1 tk2 tk3 c0
                  have hl : p < (outQ (qOf t ws) ws.length ((ordL (rOf t ws) ws.length).take k)).length := by rw [outQ_length]; exact tk2
                  have hbd := outQ_bd HSO.out.1 _ p hl
                  have c1 : g5.fin.cell? ⟨og, p, none⟩ = some (.int .i64 (qOf t ws p)) := by
                    rw [HS.out.1.cellAt p (by omega), List.getElem?_map, List.getElem?_eq_getElem hl, outQ_get, if_neg tk3, Int.add_zero]; rfl
                  rw [outQ_get, if_neg tk3, Int.add_zero] at hbd
                  have c2 := HS.out.1.frozenAt p
                  have st := (HS.out.1.stored p (iv (qOf t ws p + 1))).1
                  have hn3 := ownsRow_rng HS.out.2.2.2 ((Rng.refl og (og + 1) g5.fin).setCell (p := ⟨og, p, none⟩) (Nat.le_refl og) (Nat.lt_succ_self og) (iv (qOf t ws p + 1))) (by omega)
                  have ino : InW og g5.fin := ⟨(HS.out.1.lt og rfl).2⟩
                  have inn : InW ng g5.fin := ⟨(HS.out.2.2.2.lt ng rfl).2⟩
                  have hng := HS.out.2.1
                  have hng2 := HS.out.2.2.1
                  have hset : ((outQ (qOf t ws) ws.length ((ordL (rOf t ws) ws.length).take k)).map iv).set p (iv (qOf t ws p + 1)) = (outQ (qOf t ws) ws.length ((ordL (rOf t ws) ws.length).take (k + 1))).map iv := by rw [tk1, outQ_step, List.map_set]
                  rw [hset] at st
                  obtain ⟨q, hq⟩ : ∃ q, qOf t ws p = q := ⟨_, rfl⟩
                  rw [hq] at c1 hbd st hn3
                  have z1 : IntKind.i64.wrap (q + 1) = q + 1 := IntWalk.i64_in _ (by omega)
                  have HST := Lib.hid (And.intro st hn3)
                  have HNG := Lib.hid (And.intro hng hng2)
                  clear st hn3 hset hq tk1 tk3 hko hp hng hng2 hl
                  go_wp2_with fail
                  go_roundw
                  case rel => exact ⟨k + 1, by omega, by go_num, (ExtC.ext : Ext w g5.fin).setCell (by show w.heap.size ≤ og; omega) _, Lib.hid ⟨HST.out.1, HNG.out.1, HNG.out.2, HST.out.2⟩⟩
                  case measure => simp [intOf]; omega
                · have hkl : k = Lf := by omega
                  subst hkl
                  have hxe : xs = outQ (qOf t ws) ws.length ((ordL (rOf t ws) ws.length).take k) := by rw [HSO.out.2.1]; unfold soX; rw [HLF.out]
                  go_wp2_with fail
                  refine bodyPost_ret (v := .tuple #[.slice (some ⟨og, 0, none⟩) ws.length oc, .bool true]) (by simp [results, Try.results8, go_sem]) rfl ?_
                  have hrw := HS.out.1
                  rw [← hxe] at hrw
                  have hxl : xs.length = ws.length := by rw [hxe, outQ_length]
                  rw [← hxl] at hrw ⊢
                  exact ⟨_, rfl, .inr ⟨og, oc, rfl, by omega, (hrw.lt og rfl).2, by exact ownsRow_mono hrw (by omega)⟩, ExtC.ext⟩
        · obtain ⟨r2, r1, hx⟩ := two_rows g.fin (bs + 1) (by have := HO.out.1.is; have := (ExtC.ext : Ext g0.fin g.fin).size; omega) 3 2
          have ho := (HO.out.1.ext (ExtC.ext : Ext g0.fin g.fin)).ext hx
          have hex := (ExtC.ext : Ext w g.fin).trans hx
          obtain ⟨g1, hg1⟩ := hex.grow
          rw [hg1] at r1 r2 ho ⊢
          clear hx hex hg1
          obtain ⟨z, hz⟩ : ∃ z, g.fin.heap.size = z := ⟨_, rfl⟩
          rw [hz] at r1 r2 ⊢
          have HR := Lib.hid (And.intro r1 (And.intro r2 ho))
          clear r1 r2 ho hz
          have hln : ws.length ≤ 20 := by omega
          have cw0 := HR.out.2.2.cw
          have iw0 : InW (w.heap.size + 1) g1.fin := ⟨HR.out.2.2.iw⟩
          go_wp2_with fail
          go_loopw [9, 10, 11, 46] (fun o d l i wr => ∃ (og oc ng nc k : Nat), k ≤ ws.length ∧ i = .int .i64 k ∧ l = .int .i64 (t - ((qsL t ws).take k).sum) ∧ o = .slice (some ⟨og, 0, none⟩) k oc ∧ d = .slice (some ⟨ng, 0, none⟩) k nc ∧ Ext w wr ∧ og ≠ ng ∧ Hid (wr.ownsRow (bs + 1) 2 1 (.slice (some ⟨og, 0, none⟩) k oc) k (((qsL t ws).take k).map iv) ∧ wr.ownsRow (bs + 1) 3 1 (.slice (some ⟨ng, 0, none⟩) k nc) k ((List.range k).map fun (x : Nat) => iv (x : Int)) ∧ OutW t s ws w.heap.size (w.heap.size + 1) bs b0 off uc wr)) (fun _ _ _ i _ => ws.length - (intOf i).toNat)
          case atStart => exact ⟨_, _, _, _, 0, Nat.zero_le _, rfl, by simp, rfl, rfl, ExtC.ext, by omega, HR⟩
          case round =>
            clear HR cw0 iw0
            obtain ⟨og, oc, ng, nc, k, hk, rfl, rfl, rfl, rfl, hx, hne, HR⟩ := hrel
            obtain ⟨g2, rfl⟩ := hx.grow; clear hx
            have ct := HR.out.2.2.ct
            have cw := HR.out.2.2.cw
            have cs := HR.out.2.2.cs
            have it : InW w.heap.size g2.fin := ⟨HR.out.2.2.it⟩
            have iw : InW (w.heap.size + 1) g2.fin := ⟨HR.out.2.2.iw⟩
            have is : InW bs g2.fin := ⟨HR.out.2.2.is⟩
            by_cases hlt : k < ws.length
            · have d0 := HC.out k hlt
              have hql : k < (qsL t ws).length := by rw [qsL_length]; exact hlt
              have hqe := qsL_get t ws k hql
              have hst := sum_take1 (qsL t ws) k hql
              have htk := List.take_succ_eq_append_getElem hql
              have hpt := so_part HSO.out.1 k
              have hpt2 := so_part HSO.out.1 (k + 1)
              rw [hst] at hpt2
              have hw := HB.out k hlt hlt
              obtain ⟨y, hy⟩ : ∃ y, ws[k] = y := ⟨_, rfl⟩
              rw [hy] at d0 hqe hw
              rw [← HSO.out.2.2] at hqe
              have hm := so_mul ht.1 ht.2 hw.1 hw.2
              have hd := so_div hm.1 hs.1 hm.2
              rw [hqe] at hst htk hpt2
              obtain ⟨S0, hS0⟩ : ∃ S0, ((qsL t ws).take k).sum = S0 := ⟨_, rfl⟩
              rw [hS0] at hst hpt hpt2 ⊢
              have z1 : IntKind.i64.wrap (t * y) = t * y := IntWalk.i64_in _ (by omega)
              have z2 : IntKind.i64.wrap ((t * y).tdiv s) = (t * y).tdiv s := IntWalk.i64_in _ (by omega)
              have z3 : IntKind.i64.wrap (t - S0 - (t * y).tdiv s) = t - S0 - (t * y).tdiv s := IntWalk.i64_in _ (by omega)
              have hsz0 : s ≠ 0 := by omega
              have HST := Lib.hid (And.intro htk hst)
              have hg1 := HR.out.1.lt og rfl
              have hg2 := HR.out.2.1.lt ng rfl
              have hb0 := ib.lt
              clear hy hqe htk hS0 hm hd hpt hpt2 hw hst
              go_wp2_with (first | (at_builtin; refine app_rawI (lo := bs + 1) _ _ og oc k (((qsL t ws).take k).map iv) ⟨g2.fin.heap.size, 0, none⟩ 1 (iv ((t * y).tdiv s)) rfl rfl rfl (ownsRow_ext HR.out.1 ExtC.ext) rfl (by rw [add_plain', World.cell?_alloc_at _ _ _ _ rfl]; rfl) rfl (by omega) ?_; intro og' oc' w1 ha hr hgo; have hex := Ext.rng (ExtC.ext : Ext w (g2.fin.alloc (.cells #[iv ((t * y).tdiv s)] 2))) hr (by omega); have hn1 := ownsRow_rng (ownsRow_ext HR.out.2.1 (ExtC.ext : Ext g2.fin (g2.fin.alloc (.cells #[iv ((t * y).tdiv s)] 2)))) hr (by omega); have ho1 := (HR.out.2.2.ext (ExtC.ext : Ext g2.fin (g2.fin.alloc (.cells #[iv ((t * y).tdiv s)] 2)))).rng hr (by omega) (by omega) (by omega) (by omega); have hsz := hr.size; have hgl := ha.lt og' rfl; simp only [World.size_alloc] at hsz hgo; obtain ⟨g3, rfl⟩ := hex.grow; clear hex hr; have H1 := Lib.hid (And.intro ha (And.intro hn1 ho1)); clear ha hn1 ho1) | (at_builtin; refine app_rawN (lo := bs + 1) _ _ ng nc k ((List.range k).map fun (x : Nat) => iv (x : Int)) ⟨g3.fin.heap.size, 0, none⟩ 1 (iv (k : Int)) rfl rfl rfl (ownsRow_ext H1.out.2.1 ExtC.ext) rfl (by rw [add_plain', World.cell?_alloc_at _ _ _ _ rfl]; rfl) rfl (by omega) ?_; intro ng' nc' w2 hb hr hgn; have hex := Ext.rng (ExtC.ext : Ext w (g3.fin.alloc (.cells #[iv (k : Int)] 3))) hr (by omega); have ha2 := ownsRow_rng (ownsRow_ext H1.out.1 (ExtC.ext : Ext g3.fin (g3.fin.alloc (.cells #[iv (k : Int)] 3)))) hr (by omega); have ho2 := (H1.out.2.2.ext (ExtC.ext : Ext g3.fin (g3.fin.alloc (.cells #[iv (k : Int)] 3)))).rng hr (by omega) (by omega) (by omega) (by omega); simp only [World.size_alloc] at hgn; obtain ⟨g4, rfl⟩ := hex.grow; clear hex hr; have ct2 := ho2.ct; have cs2 := ho2.cs; have it2 : InW w.heap.size g4.fin := ⟨ho2.it⟩; have is2 : InW bs g4.fin := ⟨ho2.is⟩; have H2 := Lib.hid (And.intro ha2 (And.intro hb ho2)); clear ha2 hb ho2))
              go_roundw
              case rel => exact ⟨og', oc', ng', nc', k + 1, by omega, by go_num, by rw [HST.out.2]; congr 1; omega, rfl, rfl, ExtC.ext, by omega, Lib.hid ⟨by rw [HST.out.1, List.map_append]; exact H2.out.1, by rw [List.range_succ, List.map_append]; exact H2.out.2.1, H2.out.2.2⟩⟩
              case measure => simp [intOf]; omega
            · have hkn : k = ws.length := by omega
              subst hkn
              have hrow := HR.out.1
              rw [show (qsL t ws).take ws.length = qsL t ws by rw [← qsL_length t ws, List.take_length]] at hrow
              have hoN : OwnN (bs + 1) g2.fin.heap.size g2.fin ng nc (List.range ws.length) := by
                have h2 := HR.out.2.1
                have hl := h2.lt ng rfl
                refine ⟨hl.1, hl.2, ?_⟩
                rw [List.length_range]; exact h2
              have hsum : t - ((qsL t ws).take ws.length).sum = ((leftOf t ws : Nat) : Int) := by rw [show (qsL t ws).take ws.length = qsL t ws by rw [← qsL_length t ws, List.take_length]]; exact (leftOf_eq HSO.out.1).1.symm
              have hle := (leftOf_eq HSO.out.1).2
              rw [hsum]
              have J := sortS_out t s ws w.heap.size (w.heap.size + 1) bs b0 off uc (bs + 1) g2.fin.heap.size ng nc g2.fin HR.out.2.2 hoN (by omega) (by omega) (by omega) (by have := ib.lt; omega) (by omega) ht hs HSO.out.2.2 (fun j hj => HB.out j hj hj)
              have hg1 := HR.out.1.lt og rfl
              have hg2 := HR.out.2.1.lt ng rfl
              have hcp := own_le HR.out.2.1
              have HROW := Lib.hid hrow
              obtain ⟨Lf, hLf⟩ : ∃ n, leftOf t ws = n := ⟨_, rfl⟩
              have HLF := Lib.hid hLf
              rw [hLf] at hle ⊢
              clear hrow hoN hsum hLf
              go_wp2_with fail
              refine Calls.mono J ?_
              rintro e w1 ⟨rfl, hN, hr⟩
              have hex := Ext.rng (ExtC.ext : Ext w g2.fin) hr (by omega)
              have hO1 := ownsRow_rng HROW.out hr (by omega)
              obtain ⟨g3, rfl⟩ := hex.grow; clear hex hr
              have HS := Lib.hid (And.intro hO1 hN); clear hO1 hN J
              go_wp2_with fail
              go_loopw [78] (fun i wr => ∃ k : Nat, k ≤ Lf ∧ i = .int .i64 k ∧ Ext w wr ∧ Hid (wr.ownsRow (bs + 1) 2 1 (.slice (some ⟨og, 0, none⟩) ws.length oc) ws.length ((outQ (qOf t ws) ws.length ((ordL (rOf t ws) ws.length).take k)).map iv) ∧ OwnN (bs + 1) g2.fin.heap.size wr ng nc (ordL (rOf t ws) ws.length))) (fun i _ => Lf - (intOf i).toNat)
              case atStart => exact ⟨0, Nat.zero_le _, rfl, ExtC.ext, Lib.hid ⟨by rw [List.take_zero, outQ_nil]; exact HS.out.1, HS.out.2⟩⟩
              case round =>
                clear HS
                obtain ⟨k, hk, rfl, hx, HS⟩ := hrel
                obtain ⟨g5, rfl⟩ := hx.grow; clear hx
                by_cases hlt : k < Lf
                · have hko : k < (ordL (rOf t ws) ws.length).length := by rw [ordL_length]; omega
                  obtain ⟨tk1, tk2, tk3⟩ := take_ord (rOf t ws) hko
                  have c0 : g5.fin.cell? ⟨ng, k, none⟩ = some (.int .i64 (((ordL (rOf t ws) ws.length)[k] : Nat) : Int)) := by rw [HS.out.2.2.2.cellAt k (by omega)]; simp [hko]
                  obtain ⟨p, hp⟩ : ∃ p, (ordL (rOf t ws) ws.length)[k] = p := ⟨_, rfl⟩
                  rw [hp] at tk1 tk2 tk3 c0
                  have hl : p < (outQ (qOf t ws) ws.length ((ordL (rOf t ws) ws.length).take k)).length := by rw [outQ_length]; exact tk2
                  have hbd := outQ_bd HSO.out.1 _ p hl
                  have c1 : g5.fin.cell? ⟨og, p, none⟩ = some (.int .i64 (qOf t ws p)) := by
                    rw [HS.out.1.cellAt p (by omega), List.getElem?_map, List.getElem?_eq_getElem hl, outQ_get, if_neg tk3, Int.add_zero]; rfl
                  rw [outQ_get, if_neg tk3, Int.add_zero] at hbd
                  have c2 := HS.out.1.frozenAt p
                  have st := (HS.out.1.stored p (iv (qOf t ws p + 1))).1
                  have hn3 := ownsRow_rng HS.out.2.2.2 ((Rng.refl og (og + 1) g5.fin).setCell (p := ⟨og, p, none⟩) (Nat.le_refl og) (Nat.lt_succ_self og) (iv (qOf t ws p + 1))) (by omega)
                  have ino : InW og g5.fin := ⟨(HS.out.1.lt og rfl).2⟩
                  have inn : InW ng g5.fin := ⟨(HS.out.2.2.2.lt ng rfl).2⟩
                  have hng := HS.out.2.1
                  have hng2 := HS.out.2.2.1
                  have hset : ((outQ (qOf t ws) ws.length ((ordL (rOf t ws) ws.length).take k)).map iv).set p (iv (qOf t ws p + 1)) = (outQ (qOf t ws) ws.length ((ordL (rOf t ws) ws.length).take (k + 1))).map iv := by rw [tk1, outQ_step, List.map_set]
                  rw [hset] at st
                  obtain ⟨q, hq⟩ : ∃ q, qOf t ws p = q := ⟨_, rfl⟩
                  rw [hq] at c1 hbd st hn3
                  have z1 : IntKind.i64.wrap (q + 1) = q + 1 := IntWalk.i64_in _ (by omega)
                  have HST := Lib.hid (And.intro st hn3)
                  have HNG := Lib.hid (And.intro hng hng2)
                  clear st hn3 hset hq tk1 tk3 hko hp hng hng2 hl
                  go_wp2_with fail
                  go_roundw
                  case rel => exact ⟨k + 1, by omega, by go_num, (ExtC.ext : Ext w g5.fin).setCell (by show w.heap.size ≤ og; omega) _, Lib.hid ⟨HST.out.1, HNG.out.1, HNG.out.2, HST.out.2⟩⟩
                  case measure => simp [intOf]; omega
                · have hkl : k = Lf := by omega
                  subst hkl
                  have hxe : xs = outQ (qOf t ws) ws.length ((ordL (rOf t ws) ws.length).take k) := by rw [HSO.out.2.1]; unfold soX; rw [HLF.out]
                  go_wp2_with fail
                  refine bodyPost_ret (v := .tuple #[.slice (some ⟨og, 0, none⟩) ws.length oc, .bool true]) (by simp [results, Try.results8, go_sem]) rfl ?_
                  have hrw := HS.out.1
                  rw [← hxe] at hrw
                  have hxl : xs.length = ws.length := by rw [hxe, outQ_length]
                  rw [← hxl] at hrw ⊢
                  exact ⟨_, rfl, .inr ⟨og, oc, rfl, by omega, (hrw.lt og rfl).2, by exact ownsRow_mono hrw (by omega)⟩, ExtC.ext⟩
end Go.Proofs.Ytomkhjcejjkelaa
