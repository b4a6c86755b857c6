/- The rounds by which least costs are found: what holds between the steps. Plain. -/
import Derived.Test.YtbbppkcdgcajjaaGraph
namespace Go.Proofs.Ytbbppkcdgcajjaa
open Go.RowKit

section
variable (L : List VD) (c : Nat → Nat) (bar : List Int) (A : Int → Nat → Prop) (S : Int → Int → Prop) (Bd : Nat → Int)
/-- Before step k of member i in round r. A v x: v says at most x; S v a: v is right of a. -/
structure Mid (r i k : Nat) (cs : List Int) : Prop where
  len : cs.length = L.length
  snd : ∀ j (h : j < cs.length), S cs[j] j
  bd : ∀ j (h : j < cs.length), cs[j] ≤ Bd (r * 48 + i * 4 + k)
  old : ∀ j (h : j < cs.length), ∀ m x, m ≤ r → Wk L c bar m x j → A cs[j] x
  new : ∀ j (h : j < cs.length), j < i → ∀ m x, m ≤ r + 1 → Wk L c bar m x j → A cs[j] x
  cur : ∀ (hi : i < cs.length) k' (h : k' < (At L i).2.length), k' < k → ∀ m x, m ≤ r → Wk L c bar m x ((At L i).2[k']) → A cs[i] (c k' + x)
variable {L c bar A S Bd}

theorem Mid.step (hmono : ∀ s t, s ≤ t → Bd s ≤ Bd t) {r i k : Nat} {cs : List Int} (h : Mid L c bar A S Bd r i k cs) (hi : i < cs.length) (hk : k < (At L i).2.length) {t : Nat} (ht : (At L i).2[k] = (t : Int)) (htl : t < cs.length) (v' : Int)
    (h1 : ∀ x, A cs[i] x → A v' x) (h2 : ∀ x, A cs[t] x → A v' (c k + x)) (h3 : S cs[i] i → S cs[t] t → S v' i) (h4 : v' ≤ Bd (r * 48 + i * 4 + k + 1)) : Mid L c bar A S Bd r i (k + 1) (cs.set i v') := by
  have up : ∀ j (hj : j < (cs.set i v').length) (hj' : j < cs.length) x, A cs[j] x → A (cs.set i v')[j] x := by
    intro j hj hj' x hA
    rw [List.getElem_set]
    split
    · rename_i e; subst e; exact h1 x hA
    · exact hA
  refine ⟨by rw [List.length_set]; exact h.len, fun j hj => ?_, fun j hj => ?_, fun j hj m x hm hw => ?_, fun j hj hji m x hm hw => ?_, fun hi' k' hk' hkk m x hm hw => ?_⟩
  · rw [List.length_set] at hj
    rw [List.getElem_set]
    split
    · rename_i e; subst e; exact h3 (h.snd i hi) (h.snd t htl)
    · exact h.snd j hj
  · rw [List.length_set] at hj
    rw [List.getElem_set]
    split
    · exact h4
    · exact Int.le_trans (h.bd j hj) (hmono _ _ (Nat.le_succ _))
  · exact up j hj (by rwa [List.length_set] at hj) x (h.old j (by rwa [List.length_set] at hj) m x hm hw)
  · exact up j hj (by rwa [List.length_set] at hj) x (h.new j (by rwa [List.length_set] at hj) hji m x hm hw)
  · by_cases e : k' = k
    · subst e
      rw [ht] at hw
      have hA := h2 x (h.old t htl m x hm hw)
      rw [List.getElem_set_self]; exact hA
    · exact up i hi' hi _ (h.cur hi k' hk' (by omega) m x hm hw)
theorem Mid.stay (hmono : ∀ s t, s ≤ t → Bd s ≤ Bd t) {r i k : Nat} {cs : List Int} (h : Mid L c bar A S Bd r i k cs) (hi : i < cs.length) (hk : k < (At L i).2.length) {t : Nat} (ht : (At L i).2[k] = (t : Int)) (htl : t < cs.length)
    (h2 : ∀ x, A cs[t] x → A cs[i] (c k + x)) : Mid L c bar A S Bd r i (k + 1) cs := by
  have := h.step hmono hi hk ht htl cs[i] (fun x hx => hx) h2 (fun hs _ => hs) (Int.le_trans (h.bd i hi) (hmono _ _ (Nat.le_succ _)))
  rwa [List.set_getElem_self] at this
theorem Mid.next (hmono : ∀ s t, s ≤ t → Bd s ≤ Bd t) (hok : OkV L) {r i : Nat} {cs : List Int} (h : Mid L c bar A S Bd r i (At L i).2.length cs) (hs : (At L i).1 = false) : Mid L c bar A S Bd r (i + 1) 0 cs := by
  have hf := hok.few i
  refine ⟨h.len, h.snd, fun j hj => Int.le_trans (h.bd j hj) (hmono _ _ (by omega)), h.old, fun j hj hji m x hm hw => ?_, fun _ k' _ hk => absurd hk (by omega)⟩
  by_cases e : j = i
  · subst e
    cases m with
    | zero => have := hw.2.1; rw [hs] at this; cases this
    | succ m =>
      obtain ⟨_, _, k', hk', h3, h4⟩ := hw
      have := h.cur hj k' hk' hk' m _ (by omega) h4
      rwa [show c k' + (x - c k') = x by omega] at this
  · exact h.new j hj (by omega) m x hm hw
theorem Mid.skip (hmono : ∀ s t, s ≤ t → Bd s ≤ Bd t) {r i : Nat} {cs : List Int} (h : Mid L c bar A S Bd r i 0 cs) (hs : (At L i).1 = true ∨ (i : Int) ∈ bar) : Mid L c bar A S Bd r (i + 1) 0 cs := by
  refine ⟨h.len, h.snd, fun j hj => Int.le_trans (h.bd j hj) (hmono _ _ (by omega)), h.old, fun j hj hji m x hm hw => ?_, fun _ k' _ hk => absurd hk (by omega)⟩
  by_cases e : j = i
  · subst e
    cases m with
    | zero => exact h.old j hj 0 x (by omega) hw
    | succ m =>
      rcases hs with hs | hs
      · have := hw.2.1; rw [hs] at this; cases this
      · exact absurd hs hw.1
  · exact h.new j hj (by omega) m x hm hw
theorem Mid.round (hmono : ∀ s t, s ≤ t → Bd s ≤ Bd t) (hok : OkV L) {r : Nat} {cs : List Int} (h : Mid L c bar A S Bd r L.length 0 cs) : Mid L c bar A S Bd (r + 1) 0 0 cs := by
  have hl := hok.2
  have hlen := h.len
  exact ⟨h.len, h.snd, fun j hj => Int.le_trans (h.bd j hj) (hmono _ _ (by omega)), fun j hj m x hm hw => h.new j hj (by omega) m x hm hw, fun j _ hji => absurd hji (by omega), fun _ k' _ hk => absurd hk (by omega)⟩
theorem Mid.final (hok : OkV L) (hc : ∀ k, 1 ≤ c k) (hc4 : ∀ k, k < 4 → c k ≤ 4) {i k : Nat} {cs : List Int} (h : Mid L c bar A S Bd L.length i k cs) (j : Nat) (hj : j < cs.length) {m x : Nat} (hw : Wk L c bar m x j) : ∃ x', x' ≤ x ∧ x' ≤ 44 ∧ A cs[j] x' := by
  have hlen := h.len
  obtain ⟨m', x', e1, e2, e3, e4⟩ := Wk.small hok hc hc4 (a := (j : Int)) (by omega) (by omega) hw
  exact ⟨x', e2, e3, h.old j hj m' x' (by omega) e4⟩
end

/-- What the reference's costs say: -1 where there is no way. -/
def LeS (v : Int) (x : Nat) : Prop := 0 ≤ v ∧ v ≤ x
def SnS (L : List VD) (c : Nat → Nat) (bar : List Int) (v a : Int) : Prop := v = -1 ∨ ∃ m x : Nat, v = x ∧ Wk L c bar m x a
def BdS (s : Nat) : Int := 4 * s
/-- What the program's distances say: 1000 where there is no way. -/
def LeI (v : Int) (x : Nat) : Prop := v ≤ x
def SnI (L : List VD) (c : Nat → Nat) (bar : List Int) (v a : Int) : Prop := 0 ≤ v ∧ (v < 1000 → ∃ m x : Nat, v = x ∧ Wk L c bar m x a)
def BdI (_ : Nat) : Int := 1000
theorem bdS_mono (s t : Nat) (h : s ≤ t) : BdS s ≤ BdS t := by unfold BdS; omega
theorem bdI_mono (s t : Nat) (_ : s ≤ t) : BdI s ≤ BdI t := Int.le_refl _

section
variable {L : List VD} {c : Nat → Nat} {bar : List Int}
theorem startS (cs : List Int) (hl : cs.length = L.length) (h : ∀ j (h : j < cs.length), cs[j] = if (At L j).1 = true ∧ (j : Int) ∉ bar then 0 else -1) : Mid L c bar LeS (SnS L c bar) BdS 0 0 0 cs := by
  refine ⟨hl, fun j hj => ?_, fun j hj => ?_, fun j hj m x hm hw => ?_, fun j _ hji => absurd hji (by omega), fun _ k' _ hk => absurd hk (by omega)⟩
  · rw [h j hj]; split
    · rename_i e; exact .inr ⟨0, 0, rfl, e.2, e.1, rfl⟩
    · exact .inl rfl
  · rw [h j hj]; unfold BdS; split <;> omega
  · have e : m = 0 := by omega
    subst e
    rw [h j hj, if_pos ⟨hw.2.1, hw.1⟩]
    exact ⟨Int.le_refl _, by omega⟩
theorem startI (cs : List Int) (hl : cs.length = L.length) (h : ∀ j (h : j < cs.length), cs[j] = if (At L j).1 = true then 0 else 1000) : Mid L c [] LeI (SnI L c []) BdI 0 0 0 cs := by
  refine ⟨hl, fun j hj => ?_, fun j hj => ?_, fun j hj m x hm hw => ?_, fun j _ hji => absurd hji (by omega), fun _ k' _ hk => absurd hk (by omega)⟩
  · rw [h j hj]; split
    · rename_i e; exact ⟨by omega, fun _ => ⟨0, 0, rfl, by simp, e, rfl⟩⟩
    · exact ⟨by omega, fun e => absurd e (by omega)⟩
  · rw [h j hj]; unfold BdI; split <;> omega
  · have e : m = 0 := by omega
    subst e
    rw [h j hj, if_pos hw.2.1]
    unfold LeI; omega
/-- The reference's step. -/
theorem stepS (hok : OkV L) {r i k : Nat} {cs : List Int} (h : Mid L c bar LeS (SnS L c bar) BdS r i k cs) (hi : i < cs.length) (hk : k < (At L i).2.length) (hck : c k ≤ 4) {t : Nat} (ht : (At L i).2[k] = (t : Int)) (htl : t < cs.length) (hs : (At L i).1 = false) (hb : (i : Int) ∉ bar)
    (hn : 0 ≤ cs[t]) (hg : cs[i] < 0 ∨ (c k : Int) + cs[t] < cs[i]) : Mid L c bar LeS (SnS L c bar) BdS r i (k + 1) (cs.set i ((c k : Int) + cs[t])) := by
  refine h.step bdS_mono hi hk ht htl _ (fun x hx => ⟨by omega, ?_⟩) (fun x hx => ⟨by omega, by have := hx.2; omega⟩) (fun _ hst => ?_) ?_
  · obtain ⟨a, b⟩ := hx; omega
  · rcases hst with e | ⟨m, x, e, hw⟩
    · omega
    · refine .inr ⟨m + 1, c k + x, by omega, hb, hs, k, hk, by omega, ?_⟩
      rw [Nat.add_sub_cancel_left, ht]; exact hw
  · have := h.bd t htl
    unfold BdS at *; omega
theorem stayS {r i k : Nat} {cs : List Int} (h : Mid L c bar LeS (SnS L c bar) BdS r i k cs) (hi : i < cs.length) (hk : k < (At L i).2.length) {t : Nat} (ht : (At L i).2[k] = (t : Int)) (htl : t < cs.length)
    (hg : cs[t] < 0 ∨ (0 ≤ cs[i] ∧ cs[i] ≤ (c k : Int) + cs[t])) : Mid L c bar LeS (SnS L c bar) BdS r i (k + 1) cs :=
  h.stay bdS_mono hi hk ht htl fun x hx => by
    obtain ⟨a, b⟩ := hx
    rcases hg with e | e
    · omega
    · exact ⟨e.1, by omega⟩
/-- The program's step. -/
theorem stepI {r i k : Nat} {cs : List Int} (h : Mid L c [] LeI (SnI L c []) BdI r i k cs) (hi : i < cs.length) (hk : k < (At L i).2.length) {t : Nat} (ht : (At L i).2[k] = (t : Int)) (htl : t < cs.length) (hs : (At L i).1 = false) :
    Mid L c [] LeI (SnI L c []) BdI r i (k + 1) (cs.set i (min cs[i] (cs[t] + (c k : Int)))) := by
  have hbi := h.bd i hi
  unfold BdI at hbi
  refine h.step bdI_mono hi hk ht htl _ (fun x hx => ?_) (fun x hx => ?_) (fun hsi hst => ?_) (by unfold BdI; omega)
  · unfold LeI at *; omega
  · unfold LeI at *; omega
  · obtain ⟨i0, i1⟩ := hsi
    obtain ⟨t0, t1⟩ := hst
    refine ⟨by omega, fun hlt => ?_⟩
    by_cases e : cs[i] ≤ cs[t] + (c k : Int)
    · rw [Int.min_eq_left e] at hlt ⊢; exact i1 hlt
    · rw [Int.min_eq_right (by omega)] at hlt ⊢
      obtain ⟨m, x, e1, hw⟩ := t1 (by omega)
      refine ⟨m + 1, c k + x, by omega, by simp, hs, k, hk, by omega, ?_⟩
      rw [Nat.add_sub_cancel_left, ht]; exact hw
/-- At the end. -/
theorem endS (hok : OkV L) (hc : ∀ k, 1 ≤ c k) (hc4 : ∀ k, k < 4 → c k ≤ 4) {cs : List Int} (h : Mid L c bar LeS (SnS L c bar) BdS L.length 0 0 cs) (j : Nat) (hj : j < cs.length) : (cs[j] = -1 ∧ ∀ m x, ¬ Wk L c bar m x j) ∨ ∃ x : Nat, cs[j] = x ∧ Lst L c bar j x ∧ x ≤ 44 := by
  rcases h.snd j hj with e | ⟨m, x, e, hw⟩
  · refine .inl ⟨e, fun m x hw => ?_⟩
    obtain ⟨x', _, _, a, _⟩ := h.final hok hc hc4 j hj hw
    omega
  · refine .inr ⟨x, e, ⟨⟨m, hw⟩, fun m' y hy => ?_⟩, ?_⟩
    · obtain ⟨x', e1, _, _, b⟩ := h.final hok hc hc4 j hj hy
      omega
    · obtain ⟨x', e1, e2, _, b⟩ := h.final hok hc hc4 j hj hw
      omega
theorem endI (hok : OkV L) (hc : ∀ k, 1 ≤ c k) (hc4 : ∀ k, k < 4 → c k ≤ 4) {cs : List Int} (h : Mid L c [] LeI (SnI L c []) BdI L.length 0 0 cs) (j : Nat) (hj : j < cs.length) : (cs[j] = 1000 ∧ ∀ m x, ¬ Wk L c [] m x j) ∨ ∃ x : Nat, cs[j] = x ∧ Lst L c [] j x ∧ x ≤ 44 := by
  obtain ⟨s0, s1⟩ := h.snd j hj
  have hb := h.bd j hj
  unfold BdI at hb
  by_cases e : cs[j] < 1000
  · obtain ⟨m, x, e, hw⟩ := s1 e
    refine .inr ⟨x, e, ⟨⟨m, hw⟩, fun m' y hy => ?_⟩, ?_⟩
    · obtain ⟨x', e1, _, b⟩ := h.final hok hc hc4 j hj hy
      unfold LeI at b; omega
    · obtain ⟨x', e1, e2, b⟩ := h.final hok hc hc4 j hj hw
      unfold LeI at b; omega
  · refine .inl ⟨by omega, fun m x hw => ?_⟩
    obtain ⟨x', _, e2, b⟩ := h.final hok hc hc4 j hj hw
    unfold LeI at b; omega
end
end Go.Proofs.Ytbbppkcdgcajjaa
