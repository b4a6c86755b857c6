/- The reference's ranks. -/
import Derived.Test.YtgaooafdalhdpaaRanks
namespace Go.Proofs.Ytgaooafdalhdpaa
open Go.RowKit

set_option maxHeartbeats 400000 in
theorem spec_l02At (v : Value) (xs : List Int) (x : Int) (w : World) (h : RI w v xs) (hn : xs.length ≤ 1152921504606846976) :
    Calls Try.prog 99 #[v, .int .i64 x] w fun e w' => e = .returned (.int .i64 (posOf xs x)) ∧ Ext w w' := by
  obtain ⟨p, cap, rfl, -, hc⟩ := h.form
  clear h
  by_cases h0 : 0 < xs.length
  · obtain ⟨b1, off, rfl, hb1, c⟩ := hc h0
    have HC := Lib.hid c
    clear hc c
    go_enter Try.func99, Try.ntmps99
    go_wp2
    go_loopw [5] (fun i wr => ∃ k : Nat, k ≤ xs.length ∧ i = .int .i64 k ∧ Hid (∀ j (hj : j < xs.length), j < k → xs[j] ≠ x) ∧ Ext w wr) (fun i _ => xs.length - (intOf i).toNat)
    case atStart => exact ⟨0, Nat.zero_le _, rfl, Lib.hid fun j _ hj => by omega, Ext.refl _⟩
    case round =>
      obtain ⟨k, hk, rfl, hrel, hx⟩ := hrel
      obtain ⟨g0, rfl⟩ := hx.grow; clear hx
      by_cases hlt : k < xs.length
      · have d := HC.out k hlt
        by_cases he : xs[k] = x
        · have hq : (xs[k] == x) = true := by simp [he]
          have HE := Lib.hid he; clear he
          go_wp2
          go_ret
          exact ⟨ret_int (posOf_at xs x k hlt HE.out hrel.out).symm, ExtC.ext⟩
        · have hq : (xs[k] == x) = false := by simp [he]
          have HE := Lib.hid he; clear he
          go_wp2
          go_roundw
          case rel =>
            refine ⟨k + 1, by omega, by go_num, Lib.hid fun j hj hjk => ?_, ExtC.ext⟩
            by_cases e : j = k
            · subst e; exact HE.out
            · exact hrel.out j hj (by omega)
          case measure => simp [intOf]; omega
      · go_wp2
        go_ret
        exact ⟨ret_int (posOf_none xs x fun j hj => hrel.out j hj (by omega)).symm, ExtC.ext⟩
  · have e1 : xs = [] := List.length_eq_zero_iff.1 (by omega)
    subst e1
    clear hc
    go_enter Try.func99, Try.ntmps99
    go_wp2
    refine wp_loop_rounds 1 ?_; rw [rounds_succ]
    go_wp2
    go_ret
    exact ⟨rfl, ExtC.ext⟩

set_option maxHeartbeats 1000000 in
theorem spec_l02Ranks (v u : Value) (L : List VD) (p : List Int) (w : World) (h : VS w v L) (hs : Short L) (hok : OkV L) (hp : IS w u p) (hpp : PathP L p) (hpn : p.length ≤ 1048576) :
    Calls Try.prog 68 #[v, u] w fun e w' => ∃ v', e = .returned v' ∧ v' ≠ .slice none 0 0 ∧ OwnI w.heap.size w'.heap.size w' v' (rk L p) ∧ Ext w w' := by
  obtain ⟨i0, hi, hz0, hz1, hz2⟩ := info_parts Try.info_i64
  obtain ⟨b, off, cap, rfl, hb, hc⟩ := h.at
  obtain ⟨pb, po, pc, rfl, hpc, hpb, hpx⟩ := hp
  have HC := Lib.hid hc
  have HP := Lib.hid hpx
  have HPP := Lib.hid (And.intro hpp hs)
  have hL := hok.2
  clear hc hpx hpp h hok hs
  go_enter Try.func68, Try.ntmps68
  go_wp2
  go_loopw [5, 6] (fun o i wr => ∃ k : Nat, 1 ≤ k ∧ (k ≤ p.length ∨ k = 1) ∧ i = .int .i64 k ∧ Ext w wr ∧ (∃ g n c, o = .slice (some ⟨g, 0, none⟩) n c ∧ w.heap.size ≤ g) ∧ wr.ownsRow w.heap.size 2 1 o ((List.range (k - 1)).map (rkAt L p)).length (((List.range (k - 1)).map (rkAt L p)).map iv)) (fun _ i _ => p.length - (intOf i).toNat)
  case atStart => exact ⟨1, Nat.le_refl _, .inr rfl, rfl, ExtC.ext, ⟨_, _, _, rfl, Nat.le_refl _⟩, World.ownsRow_made w _ 0 (Nat.le_refl _) (by unfold maxLen; omega) (by rfl)⟩
  case round =>
    obtain ⟨k, hk1, hk2, rfl, hx, ⟨og, on, oc, rfl, hog⟩, how⟩ := hrel
    by_cases hlt : k < p.length
    · have dm := HP.out (k - 1) (by omega)
      have d := HP.out k hlt
      obtain ⟨z1, z2⟩ := (HPP.out.1.2 (k - 1) (by omega)).1
      obtain ⟨c1', t', c2', c3'⟩ := HC.out p[k - 1] z1 z2
      have C3 := Lib.hid c3'; clear c1' c3'
      have hlen := HPP.out.2.at p[k - 1] z1 z2
      have HO := Lib.hid how; clear how
      obtain ⟨g, rfl⟩ := hx.grow; clear hx
      have hpo := posOf_ge (At L p[k - 1]).2 p[k]
      have hpl := posOf_lt (At L p[k - 1]).2 p[k]
      have q1 : IntKind.i64.wrap ((k:Int) - 1) = (k:Int) - 1 := IntWalk.i64_in _ (by omega)
      have q2 : (1:Int) ≤ (k:Int) := by omega
      have q5 : (k:Int) - 1 < (p.length:Int) := by omega
      have q3 : ((k:Int) - 1).toNat = k - 1 := by omega
      have q4 : IntKind.i64.wrap (posOf (At L p[k - 1]).2 p[k] + 1) = posOf (At L p[k - 1]).2 p[k] + 1 := IntWalk.i64_in _ (by omega)
      have z3 : p[k - 1] < (L.length:Int) := by omega
      have z4 : (p[k - 1]).toNat < L.length := by omega
      go_wp2
      refine wp_region_made 16 [(.tmp 29, .int .i64 (posOf (At L p[k - 1]).2 p[k] + 1))] (.cells #[.int .i64 (posOf (At L p[k - 1]).2 p[k] + 1)] 2) (fun b => .slice (some ⟨b, 0, none⟩) 1 1) (by kernel_rfl) (by kernel_rfl) rfl rfl (by simp [Op.operands]) ?hmk ?_
      case hmk => intro ev x hx hs; have e0 := hs _ (List.mem_cons_self ..); simp [go_sem, e0]
      simp only [List.take_succ_cons, List.take_zero, List.drop_succ_cons, List.drop_zero]
      repeat (refine wpQuietE_step (fun K hK => ?_); go_simp; first | (refine hK _ ?_; clear hK K) | (apply Exists.intro; refine ⟨fun _ => ?_, hK _ ?_⟩; (first | (go_at_call 99; exact growE_of (spec_l02At _ (At L p[k - 1]).2 _ _ (C3.out.ext ExtC.ext) hlen))); clear hK K))
      refine wpQuietE_nil ?_
      refine ⟨by first | (simp [Holds']; done) | (simp [Holds', Act.eval]; done) | (simp [Holds', go_sem]; done), ?_⟩; intro b g0 g hb; subst hb
      simp only [Act.put]
      (at_builtin; refine wpList_append_own _ rfl _ _ 29 rfl w.heap.size 2 i0 (.int .i64 0) 1 8 Try.underlying29 hi hz0 hz1 hz2 rfl (by decide) _ _ _ rfl (ownsRow_ext HO.out ExtC.ext) ⟨g0.fin.heap.size,0,none⟩ 1 1 [.int .i64 (posOf (At L p[k - 1]).2 p[k] + 1)] rfl rfl ?c1 ?c2 ?c3 ?c4 ?c5 ?_)
      case c1 =>
        intro j u hj
        have : j = 0 := by have := (List.getElem?_eq_some_iff.1 hj).1; simpa using this
        subst this
        simp at hj; subst hj
        exact (cell_made _ 0).trans rfl
      case c2 => intro u hu; simp at hu; subst hu; rfl
      case c3 => simp; unfold maxLen; omega
      case c4 => simp; omega
      case c5 => exact (ExtC.ext : Ext w g.fin).size
      intro v' w1 how' hgr hnil
      have hxw : Ext w w1 := Ext.grown (ExtC.ext : Ext w g.fin) hgr (fun q hq => by cases hq; exact hog)
      go_wp2
      case roundEnd =>
        have hne : v' ≠ .slice none 0 0 := fun e => by have := (hnil.1 e).2; omega
        refine ⟨⟨k + 1, by omega, .inl (by omega), by simp, hxw, ?_, ?_⟩, by simp [intOf]; omega⟩
        · rcases how'.2 with ⟨e, _⟩ | ⟨q, c, cur, e, hq, _⟩
          · exact absurd e hne
          · exact ⟨q, _, _, e, hq⟩
        · have e1 : List.range (k + 1 - 1) = List.range (k - 1) ++ [k - 1] := by
            rw [show k + 1 - 1 = (k - 1) + 1 by omega, List.range_succ]
          have e2 : rkAt L p (k - 1) = posOf (At L p[k - 1]).2 p[k] + 1 := by
            unfold rkAt
            rw [show k - 1 + 1 = k by omega, List.getD_eq_getElem?_getD, List.getD_eq_getElem?_getD, List.getElem?_eq_getElem hlt, List.getElem?_eq_getElem (show k - 1 < p.length by omega)]
            rfl
          rw [e1, List.map_append, List.map_append, List.length_append, List.map_cons, List.map_nil, List.map_cons, List.map_nil, e2]
          exact how'
    · have : k = p.length := by have := HPP.out.1.1; omega
      subst this
      have HO := Lib.hid how; clear how
      obtain ⟨g, rfl⟩ := hx.grow; clear hx
      go_wp2
      refine bodyPost_ret (v := .slice (some ⟨og, 0, none⟩) on oc) (by simp [results, Try.results68, go_sem]) rfl ?_
      exact ⟨_, rfl, by simp, own_of_row HO.out, ExtC.ext⟩

def RankR (w : World) (L : List VD) (p : List Int) (e : Ending) (w' : World) : Prop :=
  (¬(OkV L ∧ PathP L p) ∧ e = .returned (.tuple #[.slice none 0 0, .bool false]) ∨ (OkV L ∧ PathP L p) ∧ ∃ v', e = .returned (.tuple #[v', .bool true]) ∧ v' ≠ .slice none 0 0 ∧ OwnI w.heap.size w'.heap.size w' v' (rk L p)) ∧ Ext w w'

theorem impl_RanksOf (v u : Value) (L : List VD) (p : List Int) (w : World) (h : VS w v L) (hs : Short L) (hp : IS w u p) (hpn : p.length ≤ 1048576) :
    Calls Try.prog 31 #[v, u] w fun e w' => RankR w L p e w' := by
  go_enter Try.func31, Try.ntmps31
  go_wp2_with fail
  refine Calls.mono (impl_IsPath v u L p _ h hs hp (by omega)) ?_
  rintro e w' ⟨⟨b1, rfl, hb1⟩, hx⟩; obtain ⟨g, rfl⟩ := hx.grow; clear hx
  cases b1
  · have HB := Lib.hid hb1; clear hb1
    go_wp2_with fail
    refine bodyPost_ret (v := .tuple #[.slice none 0 0, .bool false]) (by simp [results, Try.results31, go_sem]) rfl ?_
    exact ⟨.inl ⟨fun hok => (by have := HB.out.2 hok; cases this), rfl⟩, ExtC.ext⟩
  have hok := hb1.1 rfl
  clear hb1
  have HK := Lib.hid hok
  have HR := fun x (hx : Ext w x) => impl_ranks v u L p x (h.ext hx) hs hok.1 (hp.ext hx) hok.2 hpn
  clear hok
  go_wp2_with fail
  refine Calls.mono (HR _ ExtC.ext) ?_
  rintro e w' ⟨v1, rfl, hn, ho, hx⟩; obtain ⟨g2, rfl⟩ := hx.grow; clear hx
  have HO := Lib.hid (And.intro hn ho); clear hn ho
  go_wp2_with fail
  refine bodyPost_ret (v := .tuple #[v1, .bool true]) (by simp [results, Try.results31, go_sem]) rfl ?_
  exact ⟨.inr ⟨HK.out, v1, rfl, HO.out.1, (HO.out.2.ext ExtC.ext).mono (ExtC.ext : Ext w g.fin).size (Nat.le_refl _)⟩, ExtC.ext⟩

theorem spec_RanksOf (v u : Value) (L : List VD) (p : List Int) (w : World) (h : VS w v L) (hs : Short L) (hp : IS w u p) (hpn : p.length ≤ 1048576) :
    Calls Try.prog 30 #[v, u] w fun e w' => RankR w L p e w' := by
  go_enter Try.func30, Try.ntmps30
  go_wp2_with fail
  refine Calls.mono (spec_l02Ok v L _ h hs) ?_
  rintro e w' ⟨⟨b1, rfl, hb1⟩, hx⟩; obtain ⟨g, rfl⟩ := hx.grow; clear hx
  cases b1
  · have HB := Lib.hid hb1; clear hb1
    go_wp2_with fail
    refine bodyPost_ret (v := .tuple #[.slice none 0 0, .bool false]) (by simp [results, Try.results30, go_sem]) rfl ?_
    exact ⟨.inl ⟨fun hok => (by have := HB.out.2 hok.1; cases this), rfl⟩, ExtC.ext⟩
  have hok := hb1.1 rfl
  clear hb1
  have HK := Lib.hid hok
  have HP := fun x (hx : Ext w x) => spec_l02Path v u L p x (h.ext hx) hs hok (hp.ext hx) (by omega)
  go_wp2_with fail
  refine Calls.mono (HP _ ExtC.ext) ?_
  rintro e w' ⟨⟨b2, rfl, hb2⟩, hx⟩; obtain ⟨g1, rfl⟩ := hx.grow; clear hx
  cases b2
  · have HB := Lib.hid hb2; clear hb2 hok HP
    go_wp2_with fail
    refine bodyPost_ret (v := .tuple #[.slice none 0 0, .bool false]) (by simp [results, Try.results30, go_sem]) rfl ?_
    exact ⟨.inl ⟨fun hok => (by have := HB.out.2 hok.2; cases this), rfl⟩, ExtC.ext⟩
  have hpp := hb2.1 rfl
  have HKP := Lib.hid hpp
  have HR := fun x (hx : Ext w x) => spec_l02Ranks v u L p x (h.ext hx) hs hok (hp.ext hx) hpp hpn
  clear hok hb2 hpp HP
  go_wp2_with fail
  refine Calls.mono (HR _ ExtC.ext) ?_
  rintro e w' ⟨v1, rfl, hn, ho, hx⟩; obtain ⟨g2, rfl⟩ := hx.grow; clear hx
  have HO := Lib.hid (And.intro hn ho); clear hn ho
  go_wp2_with fail
  refine bodyPost_ret (v := .tuple #[v1, .bool true]) (by simp [results, Try.results30, go_sem]) rfl ?_
  exact ⟨.inr ⟨⟨HK.out, HKP.out⟩, v1, rfl, HO.out.1, (HO.out.2.ext ExtC.ext).mono (ExtC.ext : Ext w g1.fin).size (Nat.le_refl _)⟩, ExtC.ext⟩

end Go.Proofs.Ytgaooafdalhdpaa
