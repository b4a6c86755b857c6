/- The ranks of a path's steps, on both sides. -/
import Derived.Test.YtgaooafdalhdpaaPath
import Derived.Test.YtgaooafdalhdpaaMade
namespace Go.Proofs.Ytgaooafdalhdpaa
open Go.RowKit

theorem Ext.grown {a w w' : World} {row : Option Nat} (h : Ext a w) (hg : w.grownBy w' row) (hr : ∀ k, row = some k → a.heap.size ≤ k) : Ext a w' := Below.grown h hg h.size hr
theorem own_of_row {lo : Nat} {w : World} {v : Value} {xs : List Int} (h : w.ownsRow lo 2 1 v xs.length (xs.map iv)) : OwnI lo w.heap.size w v xs := by
  have h' := h
  rcases h.2 with ⟨rfl, hn⟩ | ⟨g, cap, cur, rfl, h1, _⟩
  · exact .inl ⟨rfl, List.length_eq_zero_iff.1 hn⟩
  · exact .inr ⟨g, cap, rfl, h1, (h.lt g rfl).2, h'⟩

/-- The cell of a row just made, wherever the world has grown to. -/
theorem cell_made {w : World} {c : Array Value} {t : TypeId} (g : Grow (w.alloc (.cells c t))) (i : Nat) : g.fin.cell? ⟨w.heap.size, i, none⟩ = c[i]? := by
  haveI : InW w.heap.size (w.alloc (.cells c t)) := ⟨by simp⟩
  rw [g.cell, World.cell?_alloc_at c t _ i rfl]

def rkAt (L : List VD) (p : List Int) (i : Nat) : Int := posOf (At L (p.getD i 0)).2 (p.getD (i + 1) 0) + 1
def rk (L : List VD) (p : List Int) : List Int := (List.range (p.length - 1)).map (rkAt L p)

set_option maxHeartbeats 1000000 in
theorem impl_ranks (v u : Value) (L : List VD) (p : List Int) (w : World) (h : VS w v L) (hs : Short L) (hok : OkV L) (hp : IS w u p) (hpp : PathP L p) (hpn : p.length ≤ 1048576) :
    Calls Try.prog 69 #[v, u] w fun e w' => ∃ v', e = .returned v' ∧ v' ≠ .slice none 0 0 ∧ OwnI w.heap.size w'.heap.size w' v' (rk L p) ∧ Ext w w' := by
  obtain ⟨i0, hi, hz0, hz1, hz2⟩ := info_parts Try.info_i64
  obtain ⟨b, off, cap, rfl, hb, hc⟩ := h.at
  obtain ⟨pb, po, pc, rfl, hpc, hpb, hpx⟩ := hp
  have HC := Lib.hid hc
  have HP := Lib.hid hpx
  have HPP := Lib.hid (And.intro hpp hs)
  have hL := hok.2
  clear hc hpx hpp h hok hs
  go_enter Try.func69, Try.ntmps69
  go_wp2
  go_loopw [5, 6] (fun o i wr => ∃ k : Nat, 1 ≤ k ∧ (k ≤ p.length ∨ k = 1) ∧ i = .int .i64 k ∧ Ext w wr ∧ (∃ g n c, o = .slice (some ⟨g, 0, none⟩) n c ∧ w.heap.size ≤ g) ∧ wr.ownsRow w.heap.size 2 1 o ((List.range (k - 1)).map (rkAt L p)).length (((List.range (k - 1)).map (rkAt L p)).map iv)) (fun _ i _ => p.length - (intOf i).toNat)
  case atStart => exact ⟨1, Nat.le_refl _, .inr rfl, rfl, ExtC.ext, ⟨_, _, _, rfl, Nat.le_refl _⟩, World.ownsRow_made w _ 0 (Nat.le_refl _) (by unfold maxLen; omega) (by rfl)⟩
  case round =>
    obtain ⟨k, hk1, hk2, rfl, hx, ⟨og, on, oc, rfl, hog⟩, how⟩ := hrel
    by_cases hlt : k < p.length
    · have dm := HP.out (k - 1) (by omega)
      have d := HP.out k hlt
      obtain ⟨z1, z2⟩ := (HPP.out.1.2 (k - 1) (by omega)).1
      obtain ⟨c1', t', c2', c3'⟩ := HC.out p[k - 1] z1 z2
      have C3 := Lib.hid c3'; clear c1' c3'
      have hlen := HPP.out.2.at p[k - 1] z1 z2
      have HO := Lib.hid how; clear how
      obtain ⟨g, rfl⟩ := hx.grow; clear hx
      have hpo := posOf_ge (At L p[k - 1]).2 p[k]
      have hpl := posOf_lt (At L p[k - 1]).2 p[k]
      have q1 : IntKind.i64.wrap ((k:Int) - 1) = (k:Int) - 1 := IntWalk.i64_in _ (by omega)
      have q2 : (1:Int) ≤ (k:Int) := by omega
      have q5 : (k:Int) - 1 < (p.length:Int) := by omega
      have q3 : ((k:Int) - 1).toNat = k - 1 := by omega
      have q4 : IntKind.i64.wrap (posOf (At L p[k - 1]).2 p[k] + 1) = posOf (At L p[k - 1]).2 p[k] + 1 := IntWalk.i64_in _ (by omega)
      have z3 : p[k - 1] < (L.length:Int) := by omega
      have z4 : (p[k - 1]).toNat < L.length := by omega
      go_wp2
      refine wp_region_made 16 [(.tmp 29, .int .i64 (posOf (At L p[k - 1]).2 p[k] + 1))] (.cells #[.int .i64 (posOf (At L p[k - 1]).2 p[k] + 1)] 2) (fun b => .slice (some ⟨b, 0, none⟩) 1 1) (by kernel_rfl) (by kernel_rfl) rfl rfl (by simp [Op.operands]) ?hmk ?_
      case hmk => intro ev x hx hs; have e0 := hs _ (List.mem_cons_self ..); simp [go_sem, e0]
      simp only [List.take_succ_cons, List.take_zero, List.drop_succ_cons, List.drop_zero]
      repeat (refine wpQuietE_step (fun K hK => ?_); go_simp; first | (refine hK _ ?_; clear hK K) | (apply Exists.intro; refine ⟨fun _ => ?_, hK _ ?_⟩; (first | (go_at_call 97; exact growE_of (slices_Index _ (At L p[k - 1]).2 _ _ (C3.out.ext ExtC.ext) hlen))); clear hK K))
      refine wpQuietE_nil ?_
      refine ⟨by first | (simp [Holds']; done) | (simp [Holds', Act.eval]; done) | (simp [Holds', go_sem]; done), ?_⟩; intro b g0 g hb; subst hb
      simp only [Act.put]
      (at_builtin; refine wpList_append_own _ rfl _ _ 29 rfl w.heap.size 2 i0 (.int .i64 0) 1 8 Try.underlying29 hi hz0 hz1 hz2 rfl (by decide) _ _ _ rfl (ownsRow_ext HO.out ExtC.ext) ⟨g0.fin.heap.size,0,none⟩ 1 1 [.int .i64 (posOf (At L p[k - 1]).2 p[k] + 1)] rfl rfl ?c1 ?c2 ?c3 ?c4 ?c5 ?_)
      case c1 =>
        intro j u hj
        have : j = 0 := by have := (List.getElem?_eq_some_iff.1 hj).1; simpa using this
        subst this
        simp at hj; subst hj
        exact (cell_made _ 0).trans rfl
      case c2 => intro u hu; simp at hu; subst hu; rfl
      case c3 => simp; unfold maxLen; omega
      case c4 => simp; omega
      case c5 => exact (ExtC.ext : Ext w g.fin).size
      intro v' w1 how' hgr hnil
      have hxw : Ext w w1 := Ext.grown (ExtC.ext : Ext w g.fin) hgr (fun q hq => by cases hq; exact hog)
      go_wp2
      case roundEnd =>
        have hne : v' ≠ .slice none 0 0 := fun e => by have := (hnil.1 e).2; omega
        refine ⟨⟨k + 1, by omega, .inl (by omega), by simp, hxw, ?_, ?_⟩, by simp [intOf]; omega⟩
        · rcases how'.2 with ⟨e, _⟩ | ⟨q, c, cur, e, hq, _⟩
          · exact absurd e hne
          · exact ⟨q, _, _, e, hq⟩
        · have e1 : List.range (k + 1 - 1) = List.range (k - 1) ++ [k - 1] := by
            rw [show k + 1 - 1 = (k - 1) + 1 by omega, List.range_succ]
          have e2 : rkAt L p (k - 1) = posOf (At L p[k - 1]).2 p[k] + 1 := by
            unfold rkAt
            rw [show k - 1 + 1 = k by omega, List.getD_eq_getElem?_getD, List.getD_eq_getElem?_getD, List.getElem?_eq_getElem hlt, List.getElem?_eq_getElem (show k - 1 < p.length by omega)]
            rfl
          rw [e1, List.map_append, List.map_append, List.length_append, List.map_cons, List.map_nil, List.map_cons, List.map_nil, e2]
          exact how'
    · have : k = p.length := by have := HPP.out.1.1; omega
      subst this
      have HO := Lib.hid how; clear how
      obtain ⟨g, rfl⟩ := hx.grow; clear hx
      go_wp2
      refine bodyPost_ret (v := .slice (some ⟨og, 0, none⟩) on oc) (by simp [results, Try.results69, go_sem]) rfl ?_
      exact ⟨_, rfl, by simp, own_of_row HO.out, ExtC.ext⟩
end Go.Proofs.Ytgaooafdalhdpaa
