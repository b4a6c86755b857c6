/- Fractions in order and the comparison of sorted lists: plain lists. -/
import Derived.Test.YtoedphgoaifojaaSortFr
namespace Go.Proofs.Ytoedphgoaifojaa
open Go.RowKit

theorem cmpF_zero {a b : Int × Int} (ha : okF a.1 a.2 = true) (hb : okF b.1 b.2 = true) (h : cmpF a b = 0) : a = b := by
  obtain ⟨n, d⟩ := a
  obtain ⟨m, e⟩ := b
  have h1 : n * e = m * d := by
    unfold cmpF cmpI at h
    dsimp only at h
    split at h
    · cases h
    · split at h
      · cases h
      · omega
  obtain ⟨⟨d1, d2⟩, -⟩ := okF_bd ha
  obtain ⟨⟨e1, e2⟩, -⟩ := okF_bd hb
  dsimp only at d1 e1
  have g1 : Int.gcd n d = 1 := by unfold okF at ha; simp only [Bool.and_eq_true, decide_eq_true_eq] at ha; exact ha.2
  have g2 : Int.gcd m e = 1 := by unfold okF at hb; simp only [Bool.and_eq_true, decide_eq_true_eq] at hb; exact hb.2
  have k1 : n.natAbs * e.natAbs = m.natAbs * d.natAbs := by rw [← Int.natAbs_mul, ← Int.natAbs_mul, h1]
  have k2 : d.natAbs ∣ e.natAbs := by
    have : Nat.Coprime d.natAbs n.natAbs := by unfold Nat.Coprime; rw [Nat.gcd_comm]; exact g1
    exact this.dvd_of_dvd_mul_left ⟨m.natAbs, by rw [k1, Nat.mul_comm]⟩
  have k3 : e.natAbs ∣ d.natAbs := by
    have : Nat.Coprime e.natAbs m.natAbs := by unfold Nat.Coprime; rw [Nat.gcd_comm]; exact g2
    exact this.dvd_of_dvd_mul_left ⟨n.natAbs, by rw [← k1, Nat.mul_comm]⟩
  have k4 : d.natAbs = e.natAbs := Nat.dvd_antisymm k2 k3
  have k5 : d = e := by omega
  subst k5
  have k6 := Int.eq_of_mul_eq_mul_right (show d ≠ 0 by omega) h1
  rw [k6]
theorem cmpF_swap (a b : Int × Int) : cmpF b a = - cmpF a b := by
  unfold cmpF cmpI
  by_cases h1 : a.1 * b.2 < b.1 * a.2
  · rw [if_neg (by omega), if_pos h1, if_pos h1]; decide
  · by_cases h2 : b.1 * a.2 < a.1 * b.2
    · rw [if_pos h2, if_neg h1, if_pos h2]
    · rw [if_neg h2, if_neg h1, if_neg h1, if_neg h2]; decide
theorem cmpF_self (a : Int × Int) : cmpF a a = 0 := by unfold cmpF cmpI; simp
theorem perm_sorted_eq2 {α : Type} (le : α → α → Prop) : ∀ l₁ l₂ : List α, (∀ a ∈ l₁, ∀ b ∈ l₁, le a b → le b a → a = b) → l₁.Perm l₂ → l₁.Pairwise le → l₂.Pairwise le → l₁ = l₂
  | [], l₂, _, hp, _, _ => (List.Perm.nil_eq hp)
  | a :: l, [], _, hp, _, _ => by have := hp.length_eq; simp at this
  | a :: l, b :: m, anti, hp, h1, h2 => by
    have hb : b ∈ a :: l := hp.symm.subset (by simp)
    have e : a = b := by
      have ha : a ∈ b :: m := hp.subset (by simp)
      rcases List.mem_cons.1 ha with h | h
      · exact h
      · rcases List.mem_cons.1 hb with h' | h'
        · exact h'.symm
        · exact anti a (by simp) b hb ((List.pairwise_cons.1 h1).1 b h') ((List.pairwise_cons.1 h2).1 a h)
    subst e
    rw [perm_sorted_eq2 le l m (fun x hx y hy => anti x (List.mem_cons_of_mem _ hx) y (List.mem_cons_of_mem _ hy)) hp.cons_inv (List.pairwise_cons.1 h1).2 (List.pairwise_cons.1 h2).2]

def leF (a b : Int × Int) : Prop := ¬ ltF b a
def OkFs (xs : SD) : Prop := ∀ f ∈ xs, okF f.1 f.2 = true
theorem leF_anti {xs : SD} (h : OkFs xs) : ∀ a ∈ xs, ∀ b ∈ xs, leF a b → leF b a → a = b := fun a ha b hb h1 h2 => by
  refine cmpF_zero (h a ha) (h b hb) ?_
  unfold leF at h1 h2
  rw [← cmpF_neg] at h1 h2
  rw [cmpF_swap a b] at h1
  omega

/-- The place behind the last one that is not greater. -/
def insAt (x : Int × Int) (out : SD) : Nat → Nat
  | 0 => 0
  | a + 1 => if cmpF x (out.getD a (0, 1)) < 0 then insAt x out a else a + 1
def insF (out : SD) (x : Int × Int) : SD := out.take (insAt x out out.length) ++ [x] ++ out.drop (insAt x out out.length)
def sortF (xs : SD) : SD := xs.foldl insF []
theorem insAt_le (x : Int × Int) (out : SD) : ∀ a, insAt x out a ≤ a
  | 0 => Nat.le_refl _
  | a + 1 => by unfold insAt; have := insAt_le x out a; split <;> omega
theorem insAt_hi (x : Int × Int) (out : SD) : ∀ a j, insAt x out a ≤ j → j < a → cmpF x (out.getD j (0, 1)) < 0
  | 0, _, _, h => absurd h (by omega)
  | a + 1, j, h1, h2 => by
    unfold insAt at h1
    split at h1
    · rename_i h
      by_cases e : j = a
      · subst e; exact h
      · exact insAt_hi x out a j h1 (by omega)
    · omega
theorem insAt_lo (x : Int × Int) (out : SD) : ∀ a, 0 < insAt x out a → ¬ cmpF x (out.getD (insAt x out a - 1) (0, 1)) < 0
  | 0, h => absurd h (by simp [insAt])
  | a + 1, h => by
    unfold insAt at h ⊢
    by_cases e : cmpF x (out.getD a (0, 1)) < 0
    · rw [if_pos e] at h ⊢; exact insAt_lo x out a h
    · rw [if_neg e]; simpa using e
theorem insF_perm (out : SD) (x : Int × Int) : (insF out x).Perm (out ++ [x]) := by
  unfold insF
  have := List.take_append_drop (insAt x out out.length) out
  conv => rhs; rw [← this]
  rw [List.append_assoc, List.append_assoc]
  exact List.Perm.append_left _ List.perm_append_comm
theorem insF_sorted {out : SD} {x : Int × Int} (h : out.Pairwise leF) (hv : OkFs out) (hx : okF x.1 x.2 = true) : (insF out x).Pairwise leF := by
  have hle := insAt_le x out out.length
  have hhi := insAt_hi x out out.length
  have hlo := insAt_lo x out out.length
  unfold insF
  obtain ⟨a, ha⟩ : ∃ a, insAt x out out.length = a := ⟨_, rfl⟩
  rw [ha] at hle hhi hlo ⊢
  have pos : ∀ f ∈ out, 1 ≤ f.2 := fun f hf => (okF_bd (hv f hf)).1.1
  have px := (okF_bd hx).1.1
  have hg := List.pairwise_iff_getElem.1 h
  have lower : ∀ j (hj : j < out.length), j < a → leF out[j] x := fun j hj hja => by
    have h0 := hlo (by omega)
    have ha1 : a - 1 < out.length := by omega
    have e : out.getD (a - 1) (0, 1) = out[a - 1] := by simp [ha1]
    rw [e, cmpF_neg] at h0
    by_cases hj1 : j = a - 1
    · subst hj1; exact h0
    · exact leF_trans (pos _ (List.getElem_mem ha1)) (pos _ (List.getElem_mem hj)) px (hg j (a - 1) hj ha1 (by omega)) h0
  have upper : ∀ j (hj : j < out.length), a ≤ j → leF x out[j] := fun j hj hja => by
    have h0 := hhi j hja hj
    have e : out.getD j (0, 1) = out[j] := by simp [hj]
    rw [e, cmpF_neg] at h0
    unfold leF ltF at *
    omega
  rw [List.append_assoc, List.pairwise_append]
  refine ⟨h.sublist (List.take_sublist _ _), ?_, ?_⟩
  · rw [List.singleton_append, List.pairwise_cons]
    refine ⟨fun y hy => ?_, h.sublist (List.drop_sublist _ _)⟩
    obtain ⟨j, hj, rfl⟩ := List.getElem_of_mem hy
    rw [List.getElem_drop]
    exact upper _ _ (by omega)
  · intro y hy z hz
    obtain ⟨j, hj, rfl⟩ := List.getElem_of_mem hy
    rw [List.getElem_take]
    rw [List.length_take] at hj
    rcases List.mem_append.1 hz with h1 | h1
    · have : z = x := by simpa using h1
      subst this
      exact lower j (by omega) (by omega)
    · obtain ⟨k, hk, rfl⟩ := List.getElem_of_mem h1
      rw [List.getElem_drop]
      rw [List.length_drop] at hk
      exact hg j (a + k) (by omega) (by omega) (by omega)
theorem sortF_aux : ∀ (xs out : SD), out.Pairwise leF → OkFs out → OkFs xs → (xs.foldl insF out).Perm (out ++ xs) ∧ (xs.foldl insF out).Pairwise leF
  | [], out, h, _, _ => by simp only [List.foldl_nil, List.append_nil]; exact ⟨List.Perm.refl _, h⟩
  | x :: xs, out, h, hv, hx => by
    have hp := insF_perm out x
    have h1 := insF_sorted h hv (hx x (by simp))
    have h2 : OkFs (insF out x) := fun f hf => by
      have := hp.subset hf
      rcases List.mem_append.1 this with h | h
      · exact hv f h
      · have : f = x := by simpa using h
        subst this; exact hx f (by simp)
    obtain ⟨a, b⟩ := sortF_aux xs (insF out x) h1 h2 (fun f hf => hx f (List.mem_cons_of_mem _ hf))
    refine ⟨?_, b⟩
    refine a.trans ((hp.append_right xs).trans ?_)
    rw [List.append_assoc]; exact List.Perm.refl _
theorem sortF_perm {xs : SD} (h : OkFs xs) : (sortF xs).Perm xs := (sortF_aux xs [] List.Pairwise.nil (fun f hf => absurd hf (by simp)) h).1
theorem sortF_sorted {xs : SD} (h : OkFs xs) : (sortF xs).Pairwise leF := (sortF_aux xs [] List.Pairwise.nil (fun f hf => absurd hf (by simp)) h).2
theorem sortF_uniq {xs ys : SD} (h : OkFs xs) (hp : ys.Perm xs) (hs : ∀ i j, i < j → j < ys.length → ¬ ltF (ys.getD j (0, 1)) (ys.getD i (0, 1))) : ys = sortF xs := by
  have hv : OkFs ys := fun f hf => h f (hp.subset hf)
  refine perm_sorted_eq2 leF ys (sortF xs) (leF_anti hv) (hp.trans (sortF_perm h).symm) ?_ (sortF_sorted h)
  rw [List.pairwise_iff_getElem]
  intro i j hi hj hij
  have := hs i j hij hj
  simpa [hi, hj, leF] using this
theorem foldl_take {xs : SD} {k : Nat} (h : k < xs.length) : (xs.take (k + 1)).foldl insF [] = insF ((xs.take k).foldl insF []) xs[k] := by
  rw [List.take_succ_eq_append_getElem h, List.foldl_append]; rfl

/-- The first difference. -/
def cmpL : SD → SD → Int
  | a :: l, b :: m => if cmpF a b = 0 then cmpL l m else cmpF a b
  | [], _ => 0
  | _ :: _, [] => 0
theorem cmpL_step {xs ys : SD} {k : Nat} (h1 : k < xs.length) (h2 : k < ys.length) : cmpL (xs.drop k) (ys.drop k) = if cmpF xs[k] ys[k] = 0 then cmpL (xs.drop (k + 1)) (ys.drop (k + 1)) else cmpF xs[k] ys[k] := by
  rw [List.drop_eq_getElem_cons h1, List.drop_eq_getElem_cons h2]; rfl
def FsE (xs : SD) : Prop := xs.length ≤ 7 ∧ OkFs xs
def CeP (xs ys : SD) : Prop := FsE xs ∧ FsE ys ∧ xs.length = ys.length
open Classical in
noncomputable def ceX (xs ys : SD) : Int := if CeP xs ys then cmpL (sortF xs) (sortF ys) else 0
end Go.Proofs.Ytoedphgoaifojaa
