/- The members who speak to whom a path leads, on the program's side. -/
import Derived.Test.YthcomgnokkndgaaSort
import Derived.Test.YthcomgnokkndgaaBfs
import Derived.Test.YthcomgnokkndgaaCircles2
namespace Go.Proofs.Ythcomgnokkndgaa
open Go.RowKit

def slen : Value → Nat
  | .slice _ n _ => n
  | _ => 0
theorem OwnQ.block {a b : Nat} {w : World} {v : Value} {xs : List Int} (h : OwnQ a b w v xs) : a < b ∧ a ≤ w.heap.size := by
  obtain ⟨g, off, cap, hv, h1, h2, h3, h4, h5, h6⟩ := h
  exact ⟨by omega, by omega⟩
/-- The list of what has been seen, which may be nil. -/
def SeenQ (a b : Nat) (w : World) (v : Value) (xs : List Int) : Prop := OwnQ a b w v xs ∨ (v = .slice none 0 0 ∧ xs = [])
theorem SeenQ.ri {a b : Nat} {w : World} {v : Value} {xs : List Int} (h : SeenQ a b w v xs) : RI w v xs := by
  rcases h with h | ⟨rfl, rfl⟩
  · exact h.is.ri
  · exact RI.nil w
theorem SeenQ.rng {a b lo hi : Nat} {w w' : World} {v : Value} {xs : List Int} (h : SeenQ a b w v xs) (hx : Rng lo hi w w') (hd : b ≤ lo ∨ hi ≤ a) : SeenQ a b w' v xs := by
  rcases h with h | h
  · exact .inl (h.rng hx hd)
  · exact .inr h
theorem SeenQ.len {a b : Nat} {w : World} {v : Value} {xs : List Int} (h : SeenQ a b w v xs) : slen v = xs.length := by
  rcases h with ⟨g, off, cap, rfl, _⟩ | ⟨rfl, rfl⟩ <;> rfl
theorem SeenQ.app {a b : Nat} {w : World} {v : Value} {xs : List Int} (h : SeenQ a b w v xs) {ys : List Int} (hy : ys ≠ []) : OwnQ a b w v xs ∨ (v = .slice none 0 0 ∧ xs = [] ∧ ys ≠ []) := by
  rcases h with h | ⟨h1, h2⟩
  · exact .inl h
  · exact .inr ⟨h1, h2, hy⟩
theorem OwnQ.form {a b : Nat} {w : World} {v : Value} {xs : List Int} (h : OwnQ a b w v xs) : ∃ g off cap, v = .slice (some ⟨g, off, none⟩) xs.length cap ∧ OwnQ a b w (.slice (some ⟨g, off, none⟩) xs.length cap) xs := by
  have h' := h
  obtain ⟨g, off, cap, rfl, _⟩ := h
  exact ⟨g, off, cap, rfl, h'⟩
/-- Three lists in blocks of their own, behind lo. -/
structure Three (lo hi a7 b7 a8 b8 a9 b9 : Nat) : Prop where
  h7 : lo ≤ a7 ∧ b7 ≤ hi
  h8 : lo ≤ a8 ∧ b8 ≤ hi
  h9 : lo ≤ a9 ∧ b9 ≤ hi
  d78 : b7 ≤ a8 ∨ b8 ≤ a7
  d79 : b7 ≤ a9 ∨ b9 ≤ a7
  d89 : b8 ≤ a9 ∨ b9 ≤ a8

set_option maxHeartbeats 4000000 in
theorem impl_endsFrom (v u : Value) (m : Int) (L : List VD) (bar : List Int) (w : World) (h : VS w v L) (hs : Short L) (hok : OkV L) (h0 : 0 ≤ m) (h1 : m < L.length) (hu : (u = .slice none 0 0 ∧ bar = []) ∨ IS w u bar) (hbl : bar.length ≤ 1048576) :
    Calls Try.prog 30 #[v, .int .i64 m, u] w fun e w' => ∃ g c, e = .returned (.slice (some ⟨g, 0, none⟩) (endsL L bar m).length c) ∧ OwnI w.heap.size w'.heap.size w' (.slice (some ⟨g, 0, none⟩) (endsL L bar m).length c) (endsL L bar m) ∧ Ext w w' := by
  have HB := Lib.hid (fun V (hV : Bfs L bar m V []) => hV.ends hok h0 h1)
  have HK := Lib.hid hok
  have hln := hok.2
  obtain ⟨vb, vo, vc, rfl, hvb, hc⟩ := h.at
  have HC := Lib.hid hc
  have hcl : ∀ x, Ext w x → Calls Try.prog 36 #[u] x fun e w' => ∃ s7, e = .returned s7 ∧ SeenQ x.heap.size w'.heap.size w' s7 bar ∧ Ext x w' := by
    intro x hx
    rcases hu with ⟨rfl, rfl⟩ | hu
    · have q22 : ∀ (w : World) (a : Option Addr) (n c n' c' : Nat), (binOp .eql 24 (.slice a n c) (.slice none n' c')).run Try.prog w = .ok (.bool a.isNone) w := fun w a n c n' c' => Lib.run_eql_slice_nil w _ _ a n c n' c' Try.underlying24
      go_enter Try.func36, Try.ntmps36
      go_wp2
      go_ret
      exact ⟨_, rfl, .inr ⟨rfl, rfl⟩, Ext.refl _⟩
    · refine (slices_Clone u bar x (hu.ext hx) (by omega)).mono ?_
      rintro e w' ⟨g, c, rfl, ho, hx'⟩
      exact ⟨_, rfl, .inl (OwnQ.of_own ho (by simp)), hx'⟩
  clear hc h hok hu
  go_enter Try.func30, Try.ntmps30
  go_wp2_with fail
  refine Calls.mono (hcl _ ExtC.ext) ?_
  rintro e w' ⟨s7, rfl, hs7, hx⟩
  obtain ⟨gc, rfl⟩ := hx.grow; clear hx
  have HS7 := Lib.hid hs7; clear hs7 hcl
  go_wp2_with fail
  go_loopw [7, 8, 9] (fun s7 s8 s9 wr => ∃ (V Q : List Int) (g8 c8 n8 g9 o9 c9 a7 b7 a8 b8 a9 b9 : Nat), s8 = .slice (some ⟨g8, 0, none⟩) n8 c8 ∧ s9 = .slice (some ⟨g9, o9, none⟩) Q.length c9 ∧ V.length ≤ 12 ∧ Q.length ≤ 4 * V.length + 1 ∧ Hid (slen s7 = bar.length + V.length) ∧ Ext w wr ∧ Hid (Bfs L bar m V Q) ∧ Hid (SeenQ a7 b7 wr s7 (bar ++ V)) ∧ Hid (OwnI a8 b8 wr (.slice (some ⟨g8, 0, none⟩) n8 c8) (V.filter fun s => (At L s).1)) ∧ Hid (OwnQ a9 b9 wr (.slice (some ⟨g9, o9, none⟩) Q.length c9) Q) ∧ Three w.heap.size wr.heap.size a7 b7 a8 b8 a9 b9) (fun s7 _ s9 _ => 5 * (bar.length + 12 - slen s7) + slen s9)
  case atStart =>
    have hgs := (ExtC.ext : Ext w gc.fin).size
    refine ⟨[], [m], gc.fin.heap.size, 0, 0, gc.fin.heap.size + 1, 0, 1, w.heap.size, gc.fin.heap.size, gc.fin.heap.size, gc.fin.heap.size + 1, gc.fin.heap.size + 1, gc.fin.heap.size + 1 + 1, rfl, by simp, by simp, by simp, Lib.hid HS7.out.len, ExtC.ext, Lib.hid (Bfs.first h0 h1), Lib.hid ?_, Lib.hid ?_, Lib.hid ?_, ⟨⟨Nat.le_refl _, by simp; omega⟩, ⟨hgs, by simp⟩, ⟨by omega, by simp⟩, by omega, by omega, by omega⟩⟩
    · rw [List.append_nil]; exact HS7.out.rng (lo := gc.fin.heap.size) (hi := gc.fin.heap.size) (Rng.of_ext ExtC.ext) (.inl (Nat.le_refl _))
    · exact ((own_empty gc.fin gc.fin.heap.size (Nat.le_refl _)).ext ExtC.ext)
    · have := own_one (gc.fin.alloc (.cells #[] 2)) m
      have := OwnQ.of_own this (by simp)
      simpa using this
  case round =>
    obtain ⟨V, Q, g8, c8, n8, g9, o9, c9, a7, b7, a8, b8, a9, b9, rfl, rfl, hV, hQ, HLEN, hx, HBF, H7, H8, H9, HT⟩ := hrel
    obtain ⟨g0, rfl⟩ := hx.grow; clear hx
    cases Q with
    | nil =>
      have HE := Lib.hid (HB.out V HBF.out)
      go_wp2_with fail
      refine Calls.mono (slices_Sort _ _ (H8.out.ext ExtC.ext) (by have := List.length_filter_le (fun s => (At L s).1) V; omega)) ?_
      rintro e w' ⟨rfl, ho, hr⟩
      have hlo := (ho.len).2.1
      have hx2 := Ext.rng (ExtC.ext : Ext w g0.fin) hr (Nat.le_trans HT.h8.1 hlo)
      obtain ⟨g5, rfl⟩ := hx2.grow; clear hx2
      have HO := Lib.hid (And.intro ho hr); clear ho hr
      go_wp2_with fail
      refine bodyPost_ret (v := .slice (some ⟨g8, 0, none⟩) n8 c8) (by simp [results, Try.results30, go_sem]) rfl ?_
      have ho := HO.out.1
      rw [HE.out] at ho
      have hl := ho.len
      rw [hl.1] at ho ⊢
      exact ⟨_, _, rfl, ho.mono HT.h8.1 (Nat.le_trans HT.h8.2 HO.out.2.size), ExtC.ext⟩
    | cons x Q =>
      have HTT := Lib.hid HT; clear HT
      have hxr := (HBF.out.qok x (List.mem_cons_self ..)).2
      have hq9 := H9.out
      simp only [List.length_cons] at hq9 hQ
      obtain ⟨tl1, tl2⟩ := OwnQ.tail hq9
      obtain ⟨gg, oo, cc, e, k1, k2, k3, k4, k5, k6⟩ := hq9
      simp only [Value.slice.injEq, Option.some.injEq, Addr.mk.injEq, and_true, List.length_cons] at e
      obtain ⟨⟨rfl, rfl⟩, -, rfl⟩ := e
      have d := k5 0 (by simp)
      rw [Nat.add_zero] at d
      have i9 : InW g9 g0.fin := ⟨k4⟩
      simp only [List.length_cons] at k1
      clear k5 k6
      have HLEN' := HLEN
      by_cases hc1 : c9 = 1
      · have HQ9 := Lib.hid (tl1 hc1)
        have hQ0 : Q.length = 0 := by omega
        have hQn : Q = [] := List.length_eq_zero_iff.1 hQ0
        subst hc1
        clear tl1 tl2
        subst hQn
        simp only [List.length_nil, Nat.zero_add] at *
        cases q : decide (x ∈ bar ++ V)
        · obtain ⟨c1, t, c2, c3⟩ := HC.out x hxr.1 (by omega)
          obtain ⟨tp, tc, rfl, -, -⟩ := c3.form
          have HT3 := Lib.hid c3; clear c3
          obtain ⟨T, hT⟩ : ∃ T, (At L x).2 = T := ⟨_, rfl⟩
          rw [hT] at c2 HT3
          have hT4 := HK.out.few x
          rw [hT] at hT4
          obtain ⟨s, hs'⟩ : ∃ s, (At L x).1 = s := ⟨_, rfl⟩
          rw [hs'] at c1
          have HNI := Lib.hid (show x ∉ bar ++ V by simpa using q)
          have hfew : V.length + 1 ≤ 12 := by have := nodup_length L.length _ (HBF.out.snoc_nd HNI.out); simp at this; omega
          have HST := Lib.hid (And.intro hs' hT); clear hs' hT
          cases s
          · go_wp2_with (first | (go_at_call 35; (with_reducible refine (slices_Contains _ (bar ++ V) _ _ (by assumption) _ (H7.out.ri.ext ExtC.ext) (by rw [List.length_append]; omega)).mono ?_); rintro e w' ⟨rfl, hx⟩; obtain ⟨g2, rfl⟩ := hx.grow; clear hx) | (at_builtin; refine app_q (lo := a7) (hi := b7) (.tmp 27) (.tmp 29) u7 (.slice (some ⟨g2.fin.heap.size, 0, none⟩) 1 1) (bar ++ V) [x] rfl rfl rfl ((H7.out.rng (lo := g0.fin.heap.size) (hi := g0.fin.heap.size) (Rng.of_ext ExtC.ext) (.inl HTT.out.h7.2)).app (ys := [x]) (by simp)) rfl (IS.of_own (own_one g2.fin x)).ri (by rw [List.length_append]; simp; omega) ?_; intro s7' a7' b7' w1 hq hn; obtain ⟨g3, rfl⟩ := (Ext.rng (a := w) ExtC.ext hn.2 HTT.out.h7.1).grow; have HQ7 := Lib.hid (And.intro hq hn); clear hq hn) | (at_builtin; refine app_q (lo := a9) (hi := b9) (.tmp 40) (.tmp 45) (.slice (some ⟨g9, o9, none⟩) 0 0) (.slice tp T.length tc) [] T rfl rfl rfl (.inl (((HQ9.out.ext ExtC.ext).rng HQ7.out.2.2 HTT.out.d79.symm))) rfl (HT3.out.ext ExtC.ext) (by first | omega | (simp; omega)) ?_; intro s9' a9' b9' w1 hq hn; obtain ⟨g9', o9', c9', rfl, hq⟩ := hq.form; obtain ⟨g4, rfl⟩ := (Ext.rng (a := w) ExtC.ext hn.2 HTT.out.h9.1).grow; have HQ9' := Lib.hid (And.intro hq hn); clear hq hn))
            go_roundw
            case rel =>
              obtain ⟨hq7, hn7, hr7⟩ := HQ7.out
              obtain ⟨hq9, hn9, hr9⟩ := HQ9'.out
              have z1 := (ExtC.ext : Ext g0.fin g2.fin).size
              have z2 := hr7.size; have z3 := hr9.size
              simp only [World.size_alloc] at hn7 hn9 z2 z3
              obtain ⟨⟨t1, t2⟩, ⟨t3, t4⟩, ⟨t5, t6⟩, t7, t8, t9⟩ := HTT.out
              refine ⟨V ++ [x], [] ++ T, g8, c8, n8, g9', o9', c9', a7', b7', a8, b8, a9', b9', rfl, by first | rfl | rw [List.length_append], by simp; omega, by first | (simp; omega) | simp, Lib.hid ?_, ExtC.ext, Lib.hid (HBF.out.visit HK.out HNI.out T (.inr ⟨HST.out.1, HST.out.2.symm⟩)), Lib.hid (.inl ?_), Lib.hid ?_, Lib.hid hq9, ⟨by omega, by omega, by omega, by omega, by omega, by omega⟩⟩
              · obtain ⟨gg, oo, cc, rfl, -⟩ := hq7; first | (simp [slen]; omega) | simp [slen]
              · rw [← List.append_assoc]; exact (hq7.rng hr9 (by omega))
              · have e : (V ++ [x]).filter (fun s => (At L s).1) = V.filter fun s => (At L s).1 := by rw [List.filter_append]; simp [HST.out.1]
                rw [e]; exact (((H8.out.ext ExtC.ext).rng hr7 (by omega)).rng hr9 (by omega))
            case measure => (have hl := HLEN.out; obtain ⟨gg, oo, cc, rfl, -⟩ := HQ7.out.1; simp [slen] at hl ⊢; omega)
          · go_wp2_with (first | (go_at_call 35; (with_reducible refine (slices_Contains _ (bar ++ V) _ _ (by assumption) _ (H7.out.ri.ext ExtC.ext) (by rw [List.length_append]; omega)).mono ?_); rintro e w' ⟨rfl, hx⟩; obtain ⟨g2, rfl⟩ := hx.grow; clear hx) | (at_builtin; refine app_q (lo := a7) (hi := b7) (.tmp 27) (.tmp 29) u7 (.slice (some ⟨g2.fin.heap.size, 0, none⟩) 1 1) (bar ++ V) [x] rfl rfl rfl ((H7.out.rng (lo := g0.fin.heap.size) (hi := g0.fin.heap.size) (Rng.of_ext ExtC.ext) (.inl HTT.out.h7.2)).app (ys := [x]) (by simp)) rfl (IS.of_own (own_one g2.fin x)).ri (by rw [List.length_append]; simp; omega) ?_; intro s7' a7' b7' w1 hq hn; obtain ⟨g3, rfl⟩ := (Ext.rng (a := w) ExtC.ext hn.2 HTT.out.h7.1).grow; have HQ7 := Lib.hid (And.intro hq hn); clear hq hn) | (at_builtin; refine app_o (lo := a8) (hi := b8) (.tmp 36) (.tmp 38) (.slice (some ⟨g8, 0, none⟩) n8 c8) (.slice (some ⟨g3.fin.heap.size, 0, none⟩) 1 1) (V.filter fun s => (At L s).1) [x] rfl rfl rfl (((H8.out.ext ExtC.ext).rng HQ7.out.2.2 HTT.out.d78.symm).ext ExtC.ext) (by simp) rfl (IS.of_own (own_one g3.fin x)).ri (by simp) (by simp; have := List.length_filter_le (fun s => (At L s).1) V; omega) ?_; intro g8' c8' a8' b8' w1 ho hn; obtain ⟨g4, rfl⟩ := (Ext.rng (a := w) ExtC.ext hn.2 HTT.out.h8.1).grow; have HQ8 := Lib.hid (And.intro ho hn); clear ho hn))
            go_roundw
            case rel =>
              obtain ⟨hq7, hn7, hr7⟩ := HQ7.out
              obtain ⟨hq8, hn8, hr8⟩ := HQ8.out
              have z1 := (ExtC.ext : Ext g0.fin g2.fin).size
              have z2 := hr7.size; have z3 := hr8.size
              simp only [World.size_alloc] at hn7 hn8 z2 z3
              obtain ⟨⟨t1, t2⟩, ⟨t3, t4⟩, ⟨t5, t6⟩, t7, t8, t9⟩ := HTT.out
              refine ⟨V ++ [x], [], g8', c8', _, g9, o9, 0, a7', b7', a8', b8', a9, b9, rfl, rfl, by simp; omega, by first | (simp; omega) | simp, Lib.hid ?_, ExtC.ext, Lib.hid (by have := HBF.out.visit HK.out HNI.out [] (.inl ⟨HST.out.1, rfl⟩); rwa [List.append_nil] at this), Lib.hid (.inl ?_), Lib.hid ?_, Lib.hid ?_, ⟨by omega, by omega, by omega, by omega, by omega, by omega⟩⟩
              · obtain ⟨gg, oo, cc, rfl, -⟩ := hq7; first | (simp [slen]; omega) | simp [slen]
              · rw [← List.append_assoc]; exact ((hq7.ext ExtC.ext).rng hr8 (by omega))
              · have e : (V ++ [x]).filter (fun s => (At L s).1) = (V.filter fun s => (At L s).1) ++ [x] := by rw [List.filter_append]; simp [HST.out.1]
                rw [e]; exact hq8
              · exact ((((HQ9.out.ext ExtC.ext).rng hr7 (by omega)).ext ExtC.ext).rng hr8 (by omega))
            case measure => (have hl := HLEN.out; obtain ⟨gg, oo, cc, rfl, -⟩ := HQ7.out.1; simp [slen] at hl ⊢; omega)
        · have HIN := Lib.hid (show x ∈ bar ++ V by simpa using q)
          go_wp2_with (first | (go_at_call 35; (with_reducible refine (slices_Contains _ (bar ++ V) _ _ (by assumption) _ (H7.out.ri.ext ExtC.ext) (by rw [List.length_append]; omega)).mono ?_); rintro e w' ⟨rfl, hx⟩; obtain ⟨g2, rfl⟩ := hx.grow; clear hx))
          go_roundw
          case rel =>
            have z1 := (ExtC.ext : Ext g0.fin g2.fin).size
            obtain ⟨⟨t1, t2⟩, ⟨t3, t4⟩, ⟨t5, t6⟩, t7, t8, t9⟩ := HTT.out
            exact ⟨V, [], g8, c8, n8, g9, o9, 0, a7, b7, a8, b8, a9, b9, rfl, rfl, hV, by first | omega | simp, HLEN, ExtC.ext, Lib.hid (HBF.out.skip HIN.out), Lib.hid (H7.out.rng (lo := g0.fin.heap.size) (hi := g0.fin.heap.size) (Rng.of_ext ExtC.ext) (.inl t2)), Lib.hid (H8.out.ext ExtC.ext), Lib.hid (HQ9.out.ext ExtC.ext), ⟨by omega, by omega, by omega, by omega, by omega, by omega⟩⟩
          case measure => simp [slen]
      · have HQ9 := Lib.hid tl2
        have hc2 : 1 < c9 := by omega
        clear tl1 tl2 hc1
        cases q : decide (x ∈ bar ++ V)
        · obtain ⟨c1, t, c2, c3⟩ := HC.out x hxr.1 (by omega)
          obtain ⟨tp, tc, rfl, -, -⟩ := c3.form
          have HT3 := Lib.hid c3; clear c3
          obtain ⟨T, hT⟩ : ∃ T, (At L x).2 = T := ⟨_, rfl⟩
          rw [hT] at c2 HT3
          have hT4 := HK.out.few x
          rw [hT] at hT4
          obtain ⟨s, hs'⟩ : ∃ s, (At L x).1 = s := ⟨_, rfl⟩
          rw [hs'] at c1
          have HNI := Lib.hid (show x ∉ bar ++ V by simpa using q)
          have hfew : V.length + 1 ≤ 12 := by have := nodup_length L.length _ (HBF.out.snoc_nd HNI.out); simp at this; omega
          have HST := Lib.hid (And.intro hs' hT); clear hs' hT
          cases s
          · go_wp2_with (first | (go_at_call 35; (with_reducible refine (slices_Contains _ (bar ++ V) _ _ (by assumption) _ (H7.out.ri.ext ExtC.ext) (by rw [List.length_append]; omega)).mono ?_); rintro e w' ⟨rfl, hx⟩; obtain ⟨g2, rfl⟩ := hx.grow; clear hx) | (at_builtin; refine app_q (lo := a7) (hi := b7) (.tmp 27) (.tmp 29) u7 (.slice (some ⟨g2.fin.heap.size, 0, none⟩) 1 1) (bar ++ V) [x] rfl rfl rfl ((H7.out.rng (lo := g0.fin.heap.size) (hi := g0.fin.heap.size) (Rng.of_ext ExtC.ext) (.inl HTT.out.h7.2)).app (ys := [x]) (by simp)) rfl (IS.of_own (own_one g2.fin x)).ri (by rw [List.length_append]; simp; omega) ?_; intro s7' a7' b7' w1 hq hn; obtain ⟨g3, rfl⟩ := (Ext.rng (a := w) ExtC.ext hn.2 HTT.out.h7.1).grow; have HQ7 := Lib.hid (And.intro hq hn); clear hq hn) | (at_builtin; refine app_q (lo := a9) (hi := b9) (.tmp 40) (.tmp 45) (.slice (some ⟨g9, o9 + 1, none⟩) Q.length (c9 - 1)) (.slice tp T.length tc) Q T rfl rfl rfl (.inl (((HQ9.out.ext ExtC.ext).rng HQ7.out.2.2 HTT.out.d79.symm))) rfl (HT3.out.ext ExtC.ext) (by first | omega | (simp; omega)) ?_; intro s9' a9' b9' w1 hq hn; obtain ⟨g9', o9', c9', rfl, hq⟩ := hq.form; obtain ⟨g4, rfl⟩ := (Ext.rng (a := w) ExtC.ext hn.2 HTT.out.h9.1).grow; have HQ9' := Lib.hid (And.intro hq hn); clear hq hn))
            go_roundw
            case rel =>
              obtain ⟨hq7, hn7, hr7⟩ := HQ7.out
              obtain ⟨hq9, hn9, hr9⟩ := HQ9'.out
              have z1 := (ExtC.ext : Ext g0.fin g2.fin).size
              have z2 := hr7.size; have z3 := hr9.size
              simp only [World.size_alloc] at hn7 hn9 z2 z3
              obtain ⟨⟨t1, t2⟩, ⟨t3, t4⟩, ⟨t5, t6⟩, t7, t8, t9⟩ := HTT.out
              refine ⟨V ++ [x], Q ++ T, g8, c8, n8, g9', o9', c9', a7', b7', a8, b8, a9', b9', rfl, by first | rfl | rw [List.length_append], by simp; omega, by first | (simp; omega) | simp, Lib.hid ?_, ExtC.ext, Lib.hid (HBF.out.visit HK.out HNI.out T (.inr ⟨HST.out.1, HST.out.2.symm⟩)), Lib.hid (.inl ?_), Lib.hid ?_, Lib.hid hq9, ⟨by omega, by omega, by omega, by omega, by omega, by omega⟩⟩
              · obtain ⟨gg, oo, cc, rfl, -⟩ := hq7; first | (simp [slen]; omega) | simp [slen]
              · rw [← List.append_assoc]; exact (hq7.rng hr9 (by omega))
              · have e : (V ++ [x]).filter (fun s => (At L s).1) = V.filter fun s => (At L s).1 := by rw [List.filter_append]; simp [HST.out.1]
                rw [e]; exact (((H8.out.ext ExtC.ext).rng hr7 (by omega)).rng hr9 (by omega))
            case measure => (have hl := HLEN.out; obtain ⟨gg, oo, cc, rfl, -⟩ := HQ7.out.1; simp [slen] at hl ⊢; omega)
          · go_wp2_with (first | (go_at_call 35; (with_reducible refine (slices_Contains _ (bar ++ V) _ _ (by assumption) _ (H7.out.ri.ext ExtC.ext) (by rw [List.length_append]; omega)).mono ?_); rintro e w' ⟨rfl, hx⟩; obtain ⟨g2, rfl⟩ := hx.grow; clear hx) | (at_builtin; refine app_q (lo := a7) (hi := b7) (.tmp 27) (.tmp 29) u7 (.slice (some ⟨g2.fin.heap.size, 0, none⟩) 1 1) (bar ++ V) [x] rfl rfl rfl ((H7.out.rng (lo := g0.fin.heap.size) (hi := g0.fin.heap.size) (Rng.of_ext ExtC.ext) (.inl HTT.out.h7.2)).app (ys := [x]) (by simp)) rfl (IS.of_own (own_one g2.fin x)).ri (by rw [List.length_append]; simp; omega) ?_; intro s7' a7' b7' w1 hq hn; obtain ⟨g3, rfl⟩ := (Ext.rng (a := w) ExtC.ext hn.2 HTT.out.h7.1).grow; have HQ7 := Lib.hid (And.intro hq hn); clear hq hn) | (at_builtin; refine app_o (lo := a8) (hi := b8) (.tmp 36) (.tmp 38) (.slice (some ⟨g8, 0, none⟩) n8 c8) (.slice (some ⟨g3.fin.heap.size, 0, none⟩) 1 1) (V.filter fun s => (At L s).1) [x] rfl rfl rfl (((H8.out.ext ExtC.ext).rng HQ7.out.2.2 HTT.out.d78.symm).ext ExtC.ext) (by simp) rfl (IS.of_own (own_one g3.fin x)).ri (by simp) (by simp; have := List.length_filter_le (fun s => (At L s).1) V; omega) ?_; intro g8' c8' a8' b8' w1 ho hn; obtain ⟨g4, rfl⟩ := (Ext.rng (a := w) ExtC.ext hn.2 HTT.out.h8.1).grow; have HQ8 := Lib.hid (And.intro ho hn); clear ho hn))
            go_roundw
            case rel =>
              obtain ⟨hq7, hn7, hr7⟩ := HQ7.out
              obtain ⟨hq8, hn8, hr8⟩ := HQ8.out
              have z1 := (ExtC.ext : Ext g0.fin g2.fin).size
              have z2 := hr7.size; have z3 := hr8.size
              simp only [World.size_alloc] at hn7 hn8 z2 z3
              obtain ⟨⟨t1, t2⟩, ⟨t3, t4⟩, ⟨t5, t6⟩, t7, t8, t9⟩ := HTT.out
              refine ⟨V ++ [x], Q, g8', c8', _, g9, o9 + 1, (c9 - 1), a7', b7', a8', b8', a9, b9, rfl, rfl, by simp; omega, by first | (simp; omega) | simp, Lib.hid ?_, ExtC.ext, Lib.hid (by have := HBF.out.visit HK.out HNI.out [] (.inl ⟨HST.out.1, rfl⟩); rwa [List.append_nil] at this), Lib.hid (.inl ?_), Lib.hid ?_, Lib.hid ?_, ⟨by omega, by omega, by omega, by omega, by omega, by omega⟩⟩
              · obtain ⟨gg, oo, cc, rfl, -⟩ := hq7; first | (simp [slen]; omega) | simp [slen]
              · rw [← List.append_assoc]; exact ((hq7.ext ExtC.ext).rng hr8 (by omega))
              · have e : (V ++ [x]).filter (fun s => (At L s).1) = (V.filter fun s => (At L s).1) ++ [x] := by rw [List.filter_append]; simp [HST.out.1]
                rw [e]; exact hq8
              · exact ((((HQ9.out.ext ExtC.ext).rng hr7 (by omega)).ext ExtC.ext).rng hr8 (by omega))
            case measure => (have hl := HLEN.out; obtain ⟨gg, oo, cc, rfl, -⟩ := HQ7.out.1; simp [slen] at hl ⊢; omega)
        · have HIN := Lib.hid (show x ∈ bar ++ V by simpa using q)
          go_wp2_with (first | (go_at_call 35; (with_reducible refine (slices_Contains _ (bar ++ V) _ _ (by assumption) _ (H7.out.ri.ext ExtC.ext) (by rw [List.length_append]; omega)).mono ?_); rintro e w' ⟨rfl, hx⟩; obtain ⟨g2, rfl⟩ := hx.grow; clear hx))
          go_roundw
          case rel =>
            have z1 := (ExtC.ext : Ext g0.fin g2.fin).size
            obtain ⟨⟨t1, t2⟩, ⟨t3, t4⟩, ⟨t5, t6⟩, t7, t8, t9⟩ := HTT.out
            exact ⟨V, Q, g8, c8, n8, g9, o9 + 1, (c9 - 1), a7, b7, a8, b8, a9, b9, rfl, rfl, hV, by first | omega | simp, HLEN, ExtC.ext, Lib.hid (HBF.out.skip HIN.out), Lib.hid (H7.out.rng (lo := g0.fin.heap.size) (hi := g0.fin.heap.size) (Rng.of_ext ExtC.ext) (.inl t2)), Lib.hid (H8.out.ext ExtC.ext), Lib.hid (HQ9.out.ext ExtC.ext), ⟨by omega, by omega, by omega, by omega, by omega, by omega⟩⟩
          case measure => simp [slen]
end Go.Proofs.Ythcomgnokkndgaa
