/- Whole ballots as shares: UnitShares on both sides. -/
import Derived.Test.YtbbppkcdgcajjaaRowsMark
import Derived.Test.YtbbppkcdgcajjaaApp
import Derived.Test.YtbbppkcdgcajjaaSilence
import Derived.Test.YtbbppkcdgcajjaaPathsOf
namespace Go.Proofs.Ytbbppkcdgcajjaa
open Go.RowKit

theorem Try.info_rowAppS : (Try.prog.info? 116).map (fun i => (i.zero, i.size, i.bytes)) = some (some (.slice none 0 0), 1, 24) := by kernel_rfl
/-- A row of shares appended to a list of rows that a function owns. -/
theorem app_rowS {ops : Array Oper} {rest : List Oper} {o : Oper} {a : Act} {Q : Exit → Act → World → Prop} {w0 w : World} {lo mid hi : Nat} (s x : Operand) (g cap : Nat) (L : List SD) (ad : Addr) (c : Nat) (t : Value) (ys : SD)
    (hgd : o.guard = none) (ho : o.op = .call { callee := .builtin .append, args := #[s, x], argTypes := #[51, 51] })
    (hs : a.eval s = .slice (some ⟨g, 0, none⟩) L.length cap) (hown : OwnR shareKind 116 lo mid w (.slice (some ⟨g, 0, none⟩) L.length cap) L) (hx : a.eval x = .slice (some ad) 1 c)
    (hy : w.cell? (ad.add 0) = some t) (ht1 : t.oneCell' = true) (ht : OwnP mid hi w t ys) (hmid : lo ≤ mid) (hhi : hi ≤ w.heap.size) (hmw : mid ≤ w.heap.size) (hb : L.length ≤ 1099511627776) (h0 : Ext w0 w) (hlo : w0.heap.size ≤ lo)
    (h : ∀ g' c' w', OwnR shareKind 116 lo w'.heap.size w' (.slice (some ⟨g', 0, none⟩) (L ++ [ys]).length c') (L ++ [ys]) → Ext w0 w' → wpList Try.prog ops Q rest (a.put o.dst (.slice (some ⟨g', 0, none⟩) (L.length + 1) c')) w') : wpList Try.prog ops Q (o :: rest) a w := by
  obtain ⟨i0, hi0, hz0, hz1, hz2⟩ := info_parts Try.info_rowAppS
  obtain ⟨cs, hcs⟩ := hown.row
  have hgl := hcs.lt g rfl
  refine wpList_append_own2 w hgd s x _ ho lo 116 i0 (.slice none 0 0) 1 24 Try.underlying51 hi0 hz0 hz1 hz2 rfl (by decide) _ L.length cs hs hcs ad 1 c [t] hx (by simp) (fun j u hj => ?_) (fun u hu => ?_) (by unfold maxLen; omega) (by omega) (by omega) (fun v' w' h2 h3 h4 h5 => ?_)
  · have : j = 0 := by have := (List.getElem?_eq_some_iff.1 hj).1; simpa using this
    subst this
    simp at hj; subst hj; exact hy
  · simp at hu; subst hu; exact ht1
  · obtain ⟨g', c', rfl, hw⟩ := h5 (by omega)
    refine h g' c' w' ?_ (h0.grown h3 fun k hk => by simp [Value.ownBlock] at hk; omega)
    exact OwnR.snoc hmid hown ht hhi hmw hcs h2 h3 (by simpa [Value.ownBlock] using hw)

theorem share_rows_empty (w : World) (lo : Nat) (hl : lo ≤ w.heap.size) : OwnR shareKind 116 lo (w.heap.size + 1) (w.alloc (.cells #[] 116)) (.slice (some ⟨w.heap.size, 0, none⟩) 0 0) [] := by
  have h := World.ownsRow_made (e := 116) (size := 1) (base := lo) w #[] 0 hl (by unfold maxLen; omega) (by rfl)
  have := OwnR.made (K := shareKind) h
  simpa using this
theorem own_pairs_empty (x : World) : OwnP x.heap.size (x.heap.size + 1) (x.alloc (.cells #[] 130)) (.slice (some ⟨x.heap.size, 0, none⟩) 0 0) [] :=
  .inr ⟨_, _, [], rfl, Nat.le_refl _, by omega, World.ownsRow_made x _ 0 (Nat.le_refl _) (by unfold maxLen; omega) (by rfl), fun i h => absurd h (by simp)⟩
theorem own_pairs_one (x : World) (a b : Int) : OwnP x.heap.size (x.heap.size + 1) (x.alloc (.cells #[.int .i64 a, .int .i64 b] 130)) (.slice (some ⟨x.heap.size, 0, none⟩) 1 1) [(a, b)] :=
  .inr ⟨_, _, [.int .i64 a, .int .i64 b], rfl, Nat.le_refl _, by omega, World.ownsRow_lit x #[.int .i64 a, .int .i64 b] 1 (Nat.le_refl _) (by unfold maxLen; omega) (by rfl), fun i h => by
    have : i = 0 := by simpa using h
    subst this
    exact ⟨rfl, rfl⟩⟩

theorem cell_at {x : World} {n : Nat} (v : Value) (T : TypeId) (h : x.heap.size = n) : (x.alloc (.cells #[v] T)).cell? ((⟨n, 0, none⟩ : Addr).add 0) = some v := by
  subst h; exact cell_new _ _ _
theorem own_pairs_empty' {x : World} {n : Nat} (h : x.heap.size = n) : OwnP n (n + 1) (x.alloc (.cells #[] 130)) (.slice (some ⟨n, 0, none⟩) 0 0) [] := by
  subst h; exact own_pairs_empty _
theorem own_pairs_one' {x : World} {n : Nat} (a b : Int) (h : x.heap.size = n) : OwnP n (n + 1) (x.alloc (.cells #[.int .i64 a, .int .i64 b] 130)) (.slice (some ⟨n, 0, none⟩) 1 1) [(a, b)] := by
  subst h; exact own_pairs_one _ _ _

def unitOf (v : VD) : SD := if v.1 then [] else [(v.2.getD 0 0, 12)]
def unitTo (L : List VD) (k : Nat) : List SD := (L.take k).map unitOf
theorem unitTo_succ (L : List VD) (k : Nat) (h : k < L.length) : unitTo L (k + 1) = unitTo L k ++ [unitOf L[k]] := by
  unfold unitTo
  rw [List.take_succ_eq_append_getElem h, List.map_append]; rfl
theorem unitTo_small (L : List VD) (k : Nat) : (unitTo L k).length ≤ k ∧ ∀ r ∈ unitTo L k, r.length ≤ 1 := by
  unfold unitTo
  refine ⟨by simp; omega, fun r hr => ?_⟩
  obtain ⟨v, _, rfl⟩ := List.mem_map.1 hr
  unfold unitOf; split <;> simp
def UnP (L : List VD) : Prop := OkV L ∧ L.length ≤ 6 ∧ ∀ k (h : k < L.length), L[k].1 = true ∨ 0 < L[k].2.length
open Classical in
noncomputable def unB (L : List VD) : Bool := decide (UnP L)
open Classical in
noncomputable def unX (L : List VD) : List SD := if UnP L then unitTo L L.length else []
open Classical in
theorem un_no {L : List VD} (h : ¬ UnP L) : unB L = false ∧ unX L = [] := by
  unfold unB unX; rw [if_neg h]; exact ⟨decide_eq_false h, rfl⟩
open Classical in
theorem un_yes {L : List VD} (h : UnP L) : unB L = true ∧ unX L = unitTo L L.length := by
  unfold unB unX; rw [if_pos h]; exact ⟨decide_eq_true h, rfl⟩
theorem unX_small {L : List VD} : (unX L).length ≤ 6 ∧ ∀ r ∈ unX L, r.length ≤ 1 := by
  unfold unX
  split
  · rename_i h
    have := unitTo_small L L.length
    exact ⟨Nat.le_trans this.1 h.2.1, this.2⟩
  · simp
theorem rsum_few {β : Type} (xs : List (List β)) (n : Nat) (h : ∀ x ∈ xs, x.length ≤ n) : rsum xs ≤ n * xs.length := by
  unfold rsum
  induction xs with
  | nil => simp
  | cons a l ih =>
    have h1 := h a (List.mem_cons_self ..)
    have h2 := ih fun x hx => h x (List.mem_cons_of_mem _ hx)
    simp only [List.map_cons, List.sum_cons, List.length_cons, Nat.mul_add, Nat.mul_one]
    omega

set_option maxHeartbeats 2000000 in
set_option maxRecDepth 100000 in
theorem impl_UnitShares' (v : Value) (L : List VD) (w : World) (h : VS w v L) (hs : Short L) (b : Bool) (hb : unB L = b) (xs : List SD) (hxs : unX L = xs) :
    Calls Try.prog 63 #[v] w fun e w' => ∃ v', e = .returned (.tuple #[v', .bool b]) ∧ OwnR shareKind 116 w.heap.size w'.heap.size w' v' xs ∧ Ext w w' := by
  have H1 := fun x (hx : Ext w x) => (impl_ValidVoices v L x (h.ext hx) hs).mono fun e w' (h : RetB (OkV L) e ∧ Ext x w') => (⟨h.1.told' (okB_iff rfl), h.2⟩ : e = .returned (.bool (okB L)) ∧ Ext x w')
  have hln := hs.1
  have hN := Lib.hid (fun (h : ¬ UnP L) => (And.intro (hb.symm.trans (un_no h).1) (hxs.symm.trans (un_no h).2) : b = false ∧ xs = []))
  have hY := Lib.hid (fun (h : UnP L) => (And.intro (hb.symm.trans (un_yes h).1) (hxs.symm.trans (un_yes h).2) : b = true ∧ xs = unitTo L L.length))
  obtain ⟨vb, vo, vc, rfl, hvb, hc⟩ := h.at
  have HC := Lib.hid hc
  clear hc hb hxs h
  cases q1 : okB L
  · rw [q1] at H1
    obtain ⟨rfl, rfl⟩ := hN.out (fun hh => by have := (okB_iff q1).2 hh.1; cases this)
    go_enter Try.func63, Try.ntmps63
    go_wp2_with (first | (go_at_call 88; (with_reducible refine (H1 _ ExtC.ext).mono ?_); rintro e w' ⟨rfl, hx⟩; obtain ⟨g, rfl⟩ := hx.grow; clear hx))
    refine bodyPost_ret (v := .tuple #[.slice none 0 0, .bool false]) (by simp [results, Try.results63, go_sem]) rfl ?_
    exact ⟨_, rfl, .inl ⟨rfl, rfl⟩, ExtC.ext⟩
  rw [q1] at H1
  have HK := Lib.hid ((okB_iff q1).1 rfl)
  have hl1 := HK.out.2
  by_cases hbig : 6 < L.length
  · obtain ⟨rfl, rfl⟩ := hN.out (fun hh => by have := hh.2.1; omega)
    have q2 : inB (L.length : Int) 1 6 = false := inB_false.2 (by omega)
    have q3 : decide ((6 : Int) < (L.length : Int)) = true := by simp; omega
    go_enter Try.func63, Try.ntmps63
    go_wp2_with (first | (go_at_call 88; (with_reducible refine (H1 _ ExtC.ext).mono ?_); rintro e w' ⟨rfl, hx⟩; obtain ⟨g, rfl⟩ := hx.grow; clear hx))
    refine bodyPost_ret (v := .tuple #[.slice none 0 0, .bool false]) (by simp [results, Try.results63, go_sem]) rfl ?_
    exact ⟨_, rfl, .inl ⟨rfl, rfl⟩, ExtC.ext⟩
  have q2 : inB (L.length : Int) 1 6 = true := inB_true.2 (by omega)
  have q3 : decide ((6 : Int) < (L.length : Int)) = false := by simp; omega
  go_enter Try.func63, Try.ntmps63
  go_wp2_with (first | (go_at_call 88; (with_reducible refine (H1 _ ExtC.ext).mono ?_); rintro e w' ⟨rfl, hx⟩; obtain ⟨g, rfl⟩ := hx.grow; clear hx))
  clear q2 q3 H1
  go_loopw [4, 18] (fun o i wr => ∃ (k og oc : Nat) (C : List SD), k ≤ L.length ∧ i = .int .i64 k ∧ o = .slice (some ⟨og, 0, none⟩) C.length oc ∧ C.length ≤ k ∧ Ext w wr ∧ Hid (C = unitTo L k) ∧ Hid (∀ j (h : j < L.length), j < k → L[j].1 = true ∨ 0 < L[j].2.length) ∧ Hid (OwnR shareKind 116 w.heap.size wr.heap.size wr (.slice (some ⟨og, 0, none⟩) C.length oc) C)) (fun _ i _ => L.length - (intOf i).toNat)
  case atStart => exact ⟨0, _, _, [], Nat.zero_le _, rfl, rfl, Nat.le_refl _, ExtC.ext, Lib.hid rfl, Lib.hid fun j _ hj => absurd hj (by omega), Lib.hid ((share_rows_empty g.fin w.heap.size (ExtC.ext : Ext w g.fin).size).mono (Nat.le_refl _) (by simp))⟩
  case round =>
    obtain ⟨k, og, oc, C, hk, rfl, rfl, hC, hx, HCk, HI, HO⟩ := hrel
    obtain ⟨g0, rfl⟩ := hx.grow; clear hx
    have hsz := (ExtC.ext : Ext w g0.fin).size
    by_cases hlt : k < L.length
    · obtain ⟨c1, t, c2, c3⟩ := HC.out (k : Int) (by omega) (by omega)
      simp only [Int.toNat_natCast] at c1 c2
      have eL : At L (k : Int) = L[k] := At_nat hlt
      rw [eL] at c1 c3
      have HUS := Lib.hid (unitTo_succ L k hlt)
      obtain ⟨s, hs'⟩ : ∃ s, L[k].1 = s := ⟨_, rfl⟩
      obtain ⟨T, hT⟩ : ∃ T, L[k].2 = T := ⟨_, rfl⟩
      rw [hs'] at c1
      rw [hT] at c3
      obtain ⟨tp, tc, rfl, -, hcx⟩ := c3.form
      have hT4 : T.length ≤ 4 := by have := HK.out.few (k : Int); rw [eL, hT] at this; exact this
      have HX := Lib.hid hcx
      have HST := Lib.hid (And.intro hs' hT)
      clear hcx c3 eL hs' hT
      cases s
      · by_cases hT0 : T.length = 0
        · obtain ⟨rfl, rfl⟩ := hN.out (fun hh => by
            rcases hh.2.2 k hlt with h1 | h1
            · rw [HST.out.1] at h1; cases h1
            · rw [HST.out.2] at h1; omega)
          have hz : ((T.length : Int) == 0) = true := by rw [beq_iff_eq]; omega
          go_wp2_with fail
          refine bodyPost_ret (v := .tuple #[.slice none 0 0, .bool false]) (by simp [results, Try.results63, go_sem]) rfl ?_
          exact ⟨_, rfl, .inl ⟨rfl, rfl⟩, ExtC.ext⟩
        · have hz : ((T.length : Int) == 0) = false := by rw [beq_eq_false_iff_ne]; omega
          obtain ⟨tb, to, htp, itb, hcy⟩ := HX.out (by omega)
          subst htp
          have d := hcy 0 (by omega)
          rw [Nat.add_zero] at d
          clear hcy
          have hp0 : 0 < T.length := by omega
          obtain ⟨y, hy⟩ : ∃ y, T[0]'(by omega) = y := ⟨_, rfl⟩
          rw [hy] at d
          have HU : Hid (unitOf L[k] = [(y, 12)]) := Lib.hid (by unfold unitOf; rw [HST.out.1, HST.out.2, ← hy]; simp [hp0])
          clear hy
          go_wp2_with (at_builtin; refine app_rowS (w0 := w) (lo := w.heap.size) _ _ og oc C _ 1 _ [(y, 12)] rfl rfl rfl ((HO.out.ext ExtC.ext).mono (Nat.le_refl _) (by first | omega | (simp; done) | (simp; omega))) rfl (cell_at _ _ (by first | rfl | simp)) rfl ((own_pairs_one' y 12 (by first | rfl | simp)).ext (Ext.alloc (Ext.refl _) _)) (by first | omega | (simp; done) | (simp; omega)) (by first | omega | (simp; done) | (simp; omega)) (by first | omega | (simp; done) | (simp; omega)) (by omega) ExtC.ext (Nat.le_refl _) ?_; intro g' c' w' ho hx; obtain ⟨g5, rfl⟩ := hx.grow; clear hx; have HO2 := Lib.hid ho; clear ho)
          go_roundw
          case rel =>
            refine ⟨k + 1, g', c', C ++ [[(y, 12)]], by omega, by go_num, by simp, by simp; omega, ExtC.ext, Lib.hid (by rw [HUS.out, HU.out, HCk.out]), Lib.hid fun j hj hjk => ?_, HO2⟩
            by_cases e : j = k
            · subst e; right; rw [HST.out.2]; exact hp0
            · exact HI.out j hj (by omega)
          case measure => simp [intOf]; omega
      · have HU : Hid (unitOf L[k] = []) := Lib.hid (by unfold unitOf; rw [HST.out.1]; rfl)
        go_wp2_with (at_builtin; refine app_rowS (w0 := w) (lo := w.heap.size) _ _ og oc C _ 1 _ [] rfl rfl rfl ((HO.out.ext ExtC.ext).mono (Nat.le_refl _) (by first | omega | (simp; done) | (simp; omega))) rfl (cell_at _ _ (by first | rfl | simp)) rfl ((own_pairs_empty' (by first | rfl | simp)).ext (Ext.alloc (Ext.refl _) _)) (by first | omega | (simp; done) | (simp; omega)) (by first | omega | (simp; done) | (simp; omega)) (by first | omega | (simp; done) | (simp; omega)) (by omega) ExtC.ext (Nat.le_refl _) ?_; intro g' c' w' ho hx; obtain ⟨g5, rfl⟩ := hx.grow; clear hx; have HO2 := Lib.hid ho; clear ho)
        go_roundw
        case rel =>
          refine ⟨k + 1, g', c', C ++ [[]], by omega, by go_num, by simp, by simp; omega, ExtC.ext, Lib.hid (by rw [HUS.out, HU.out, HCk.out]), Lib.hid fun j hj hjk => ?_, HO2⟩
          by_cases e : j = k
          · subst e; left; exact HST.out.1
          · exact HI.out j hj (by omega)
        case measure => simp [intOf]; omega
    · have e : k = L.length := by omega
      subst e
      obtain ⟨rfl, rfl⟩ := hY.out ⟨HK.out, by omega, fun j hj => HI.out j hj (by omega)⟩
      go_wp2
      refine bodyPost_ret (v := .tuple #[.slice (some ⟨og, 0, none⟩) C.length oc, .bool true]) (by simp [results, Try.results63, go_sem]) rfl ?_
      refine ⟨_, rfl, ?_, ExtC.ext⟩
      rw [← HCk.out]
      exact HO.out

set_option maxHeartbeats 2000000 in
set_option maxRecDepth 100000 in
theorem spec_UnitShares' (v : Value) (L : List VD) (w : World) (h : VS w v L) (hs : Short L) (b : Bool) (hb : unB L = b) (xs : List SD) (hxs : unX L = xs) :
    Calls Try.prog 62 #[v] w fun e w' => ∃ v', e = .returned (.tuple #[v', .bool b]) ∧ OwnR shareKind 116 w.heap.size w'.heap.size w' v' xs ∧ Ext w w' := by
  have H1 := fun x (hx : Ext w x) => (spec_l02Ok v L x (h.ext hx) hs).mono fun e w' (h : RetB (OkV L) e ∧ Ext x w') => (⟨h.1.told' (okB_iff rfl), h.2⟩ : e = .returned (.bool (okB L)) ∧ Ext x w')
  have hln := hs.1
  have hN := Lib.hid (fun (h : ¬ UnP L) => (And.intro (hb.symm.trans (un_no h).1) (hxs.symm.trans (un_no h).2) : b = false ∧ xs = []))
  have hY := Lib.hid (fun (h : UnP L) => (And.intro (hb.symm.trans (un_yes h).1) (hxs.symm.trans (un_yes h).2) : b = true ∧ xs = unitTo L L.length))
  obtain ⟨vb, vo, vc, rfl, hvb, hc⟩ := h.at
  have HC := Lib.hid hc
  clear hc hb hxs h
  cases q1 : okB L
  · rw [q1] at H1
    obtain ⟨rfl, rfl⟩ := hN.out (fun hh => by have := (okB_iff q1).2 hh.1; cases this)
    go_enter Try.func62, Try.ntmps62
    go_wp2_with (first | (go_at_call 76; (with_reducible refine (H1 _ ExtC.ext).mono ?_); rintro e w' ⟨rfl, hx⟩; obtain ⟨g, rfl⟩ := hx.grow; clear hx) | (go_at_call 133; (with_reducible refine (spec_l00In _ _ _ _ (by assumption) _).mono ?_); rintro e w' ⟨rfl, hx⟩; obtain ⟨g, rfl⟩ := hx.grow; clear hx))
    refine bodyPost_ret (v := .tuple #[.slice none 0 0, .bool false]) (by simp [results, Try.results62, go_sem]) rfl ?_
    exact ⟨_, rfl, .inl ⟨rfl, rfl⟩, ExtC.ext⟩
  rw [q1] at H1
  have HK := Lib.hid ((okB_iff q1).1 rfl)
  have hl1 := HK.out.2
  by_cases hbig : 6 < L.length
  · obtain ⟨rfl, rfl⟩ := hN.out (fun hh => by have := hh.2.1; omega)
    have q2 : inB (L.length : Int) 1 6 = false := inB_false.2 (by omega)
    have q3 : decide ((6 : Int) < (L.length : Int)) = true := by simp; omega
    go_enter Try.func62, Try.ntmps62
    go_wp2_with (first | (go_at_call 76; (with_reducible refine (H1 _ ExtC.ext).mono ?_); rintro e w' ⟨rfl, hx⟩; obtain ⟨g, rfl⟩ := hx.grow; clear hx) | (go_at_call 133; (with_reducible refine (spec_l00In _ _ _ _ (by assumption) _).mono ?_); rintro e w' ⟨rfl, hx⟩; obtain ⟨g, rfl⟩ := hx.grow; clear hx))
    refine bodyPost_ret (v := .tuple #[.slice none 0 0, .bool false]) (by simp [results, Try.results62, go_sem]) rfl ?_
    exact ⟨_, rfl, .inl ⟨rfl, rfl⟩, ExtC.ext⟩
  have q2 : inB (L.length : Int) 1 6 = true := inB_true.2 (by omega)
  have q3 : decide ((6 : Int) < (L.length : Int)) = false := by simp; omega
  go_enter Try.func62, Try.ntmps62
  go_wp2_with (first | (go_at_call 76; (with_reducible refine (H1 _ ExtC.ext).mono ?_); rintro e w' ⟨rfl, hx⟩; obtain ⟨g, rfl⟩ := hx.grow; clear hx) | (go_at_call 133; (with_reducible refine (spec_l00In _ _ _ _ (by assumption) _).mono ?_); rintro e w' ⟨rfl, hx⟩; obtain ⟨g, rfl⟩ := hx.grow; clear hx))
  clear q2 q3 H1
  go_loopw [4, 5] (fun o i wr => ∃ (k og oc : Nat) (C : List SD), k ≤ L.length ∧ i = .int .i64 k ∧ o = .slice (some ⟨og, 0, none⟩) C.length oc ∧ C.length ≤ k ∧ Ext w wr ∧ Hid (C = unitTo L k) ∧ Hid (∀ j (h : j < L.length), j < k → L[j].1 = true ∨ 0 < L[j].2.length) ∧ Hid (OwnR shareKind 116 w.heap.size wr.heap.size wr (.slice (some ⟨og, 0, none⟩) C.length oc) C)) (fun _ i _ => L.length - (intOf i).toNat)
  case atStart => exact ⟨0, _, _, [], Nat.zero_le _, rfl, rfl, Nat.le_refl _, ExtC.ext, Lib.hid rfl, Lib.hid fun j _ hj => absurd hj (by omega), Lib.hid ((share_rows_empty g.fin w.heap.size (ExtC.ext : Ext w g.fin).size).mono (Nat.le_refl _) (by simp))⟩
  case round =>
    obtain ⟨k, og, oc, C, hk, rfl, rfl, hC, hx, HCk, HI, HO⟩ := hrel
    obtain ⟨g0, rfl⟩ := hx.grow; clear hx
    have hsz := (ExtC.ext : Ext w g0.fin).size
    by_cases hlt : k < L.length
    · obtain ⟨c1, t, c2, c3⟩ := HC.out (k : Int) (by omega) (by omega)
      simp only [Int.toNat_natCast] at c1 c2
      have eL : At L (k : Int) = L[k] := At_nat hlt
      rw [eL] at c1 c3
      have HUS := Lib.hid (unitTo_succ L k hlt)
      obtain ⟨s, hs'⟩ : ∃ s, L[k].1 = s := ⟨_, rfl⟩
      obtain ⟨T, hT⟩ : ∃ T, L[k].2 = T := ⟨_, rfl⟩
      rw [hs'] at c1
      rw [hT] at c3
      obtain ⟨tp, tc, rfl, -, hcx⟩ := c3.form
      have hT4 : T.length ≤ 4 := by have := HK.out.few (k : Int); rw [eL, hT] at this; exact this
      have HX := Lib.hid hcx
      have HST := Lib.hid (And.intro hs' hT)
      clear hcx c3 eL hs' hT
      cases s
      · by_cases hT0 : T.length = 0
        · obtain ⟨rfl, rfl⟩ := hN.out (fun hh => by
            rcases hh.2.2 k hlt with h1 | h1
            · rw [HST.out.1] at h1; cases h1
            · rw [HST.out.2] at h1; omega)
          have hz : ((T.length : Int) == 0) = true := by rw [beq_iff_eq]; omega
          go_wp2_with fail
          refine bodyPost_ret (v := .tuple #[.slice none 0 0, .bool false]) (by simp [results, Try.results62, go_sem]) rfl ?_
          exact ⟨_, rfl, .inl ⟨rfl, rfl⟩, ExtC.ext⟩
        · have hz : ((T.length : Int) == 0) = false := by rw [beq_eq_false_iff_ne]; omega
          obtain ⟨tb, to, htp, itb, hcy⟩ := HX.out (by omega)
          subst htp
          have d := hcy 0 (by omega)
          rw [Nat.add_zero] at d
          clear hcy
          have hp0 : 0 < T.length := by omega
          obtain ⟨y, hy⟩ : ∃ y, T[0]'(by omega) = y := ⟨_, rfl⟩
          rw [hy] at d
          have HU : Hid (unitOf L[k] = [(y, 12)]) := Lib.hid (by unfold unitOf; rw [HST.out.1, HST.out.2, ← hy]; simp [hp0])
          clear hy
          go_wp2_with (at_builtin; refine app_rowS (w0 := w) (lo := w.heap.size) _ _ og oc C _ 1 _ [(y, 12)] rfl rfl rfl ((HO.out.ext ExtC.ext).mono (Nat.le_refl _) (by first | omega | (simp; done) | (simp; omega))) rfl (cell_at _ _ (by first | rfl | simp)) rfl ((own_pairs_one' y 12 (by first | rfl | simp)).ext (Ext.alloc (Ext.refl _) _)) (by first | omega | (simp; done) | (simp; omega)) (by first | omega | (simp; done) | (simp; omega)) (by first | omega | (simp; done) | (simp; omega)) (by omega) ExtC.ext (Nat.le_refl _) ?_; intro g' c' w' ho hx; obtain ⟨g5, rfl⟩ := hx.grow; clear hx; have HO2 := Lib.hid ho; clear ho)
          go_roundw
          case rel =>
            refine ⟨k + 1, g', c', C ++ [[(y, 12)]], by omega, by go_num, by simp, by simp; omega, ExtC.ext, Lib.hid (by rw [HUS.out, HU.out, HCk.out]), Lib.hid fun j hj hjk => ?_, HO2⟩
            by_cases e : j = k
            · subst e; right; rw [HST.out.2]; exact hp0
            · exact HI.out j hj (by omega)
          case measure => simp [intOf]; omega
      · have HU : Hid (unitOf L[k] = []) := Lib.hid (by unfold unitOf; rw [HST.out.1]; rfl)
        go_wp2_with (at_builtin; refine app_rowS (w0 := w) (lo := w.heap.size) _ _ og oc C _ 1 _ [] rfl rfl rfl ((HO.out.ext ExtC.ext).mono (Nat.le_refl _) (by first | omega | (simp; done) | (simp; omega))) rfl (cell_at _ _ (by first | rfl | simp)) rfl ((own_pairs_empty' (by first | rfl | simp)).ext (Ext.alloc (Ext.refl _) _)) (by first | omega | (simp; done) | (simp; omega)) (by first | omega | (simp; done) | (simp; omega)) (by first | omega | (simp; done) | (simp; omega)) (by omega) ExtC.ext (Nat.le_refl _) ?_; intro g' c' w' ho hx; obtain ⟨g5, rfl⟩ := hx.grow; clear hx; have HO2 := Lib.hid ho; clear ho)
        go_roundw
        case rel =>
          refine ⟨k + 1, g', c', C ++ [[]], by omega, by go_num, by simp, by simp; omega, ExtC.ext, Lib.hid (by rw [HUS.out, HU.out, HCk.out]), Lib.hid fun j hj hjk => ?_, HO2⟩
          by_cases e : j = k
          · subst e; left; exact HST.out.1
          · exact HI.out j hj (by omega)
        case measure => simp [intOf]; omega
    · have e : k = L.length := by omega
      subst e
      obtain ⟨rfl, rfl⟩ := hY.out ⟨HK.out, by omega, fun j hj => HI.out j hj (by omega)⟩
      go_wp2
      refine bodyPost_ret (v := .tuple #[.slice (some ⟨og, 0, none⟩) C.length oc, .bool true]) (by simp [results, Try.results62, go_sem]) rfl ?_
      refine ⟨_, rfl, ?_, ExtC.ext⟩
      rw [← HCk.out]
      exact HO.out
end Go.Proofs.Ytbbppkcdgcajjaa
