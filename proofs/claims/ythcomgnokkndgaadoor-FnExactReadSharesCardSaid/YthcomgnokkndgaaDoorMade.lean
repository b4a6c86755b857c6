/- A region that draws its order: reads and calls, one operation that makes a new block out of what they found (a slice literal), and a forced tail (an append, a store). -/
import Derived.Test.YthcomgnokkndgaaDoorBox
namespace Go.Proofs.YthcomgnokkndgaaDoor
open Go.RowKit

section
variable {P : Program} {ops : Array Oper} {md : Region.Mode} {w : World}

/-- What the operands hold. -/
def Holds' (srcs : List (Operand × Value)) (ev : Operand → Value) : Prop := ∀ p ∈ srcs, ev p.1 = p.2

/-- Ahead of the making (number k). -/
def madePre (P : Program) (md : Region.Mode) (ops : Array Oper) (w : World) (n k : Nat) (t : Option Tmp) (srcs : List (Operand × Value)) (mkv : Nat → Value) (L : Nat → Array Bool → Act → Prop) : Nat → Array Bool → Act → Prop
  | 0, _, _ => False
  | f + 1, listed, a => Region.ready md ops listed ≠ [] ∧ ∀ i ∈ Region.ready md ops listed, i < n ∧
      (i = k → Holds' srcs a.eval ∧ ∀ b, boxPost P md ops w n (L b) f (listed.setIfInBounds k true) (a.put t (mkv b))) ∧
      (i ≠ k → eOp P ops w i (madePre P md ops w n k t srcs mkv L f (listed.setIfInBounds i true)) a)

theorem any_of_madePre {O : Obj} {oa : Oper} {n k g : Nat} {srcs : List (Operand × Value)} {mkv : Nat → Value} {L : Nat → Array Bool → Act → Prop} {Q' : Exit → Act → World → Prop} (hk : ops[k]? = some oa) (hguard : oa.guard = none)
    (hmake : ∀ (ev : Operand → Value) (x : World), Ext w x → Holds' srcs ev → (execOp ev oa).run P x = .ok (.value (mkv x.heap.size)) (x.alloc O))
    (hL : ∀ (g0 : Grow w) (g1 : Grow (g0.fin.alloc O)) listed a, L g0.fin.heap.size listed a → wpAny P md ops Q' g listed a g1.fin) :
    ∀ (f : Nat) (listed : Array Bool) (a : Act) (x : World), Ext w x → madePre P md ops w n k oa.dst srcs mkv L f listed a → wpAny P md ops Q' (f + g) listed a x
  | 0, _, _, _, _, h => h.elim
  | f + 1, listed, a, x, hx, h => by
    have e : f + 1 + g = (f + g) + 1 := by omega
    rw [e]
    refine ⟨fun h0 => absurd h0 h.1, fun i hi => ?_⟩
    obtain ⟨h1, h2, h3⟩ := h.2 i hi
    by_cases hik : i = k
    · subst hik
      obtain ⟨hs, h4⟩ := h2 rfl
      unfold wpOp
      simp only [hk, Region.wanted, hguard, if_true]
      left
      unfold Oper.wp
      rw [hmake a.eval x hx hs]
      show wpAny P md ops Q' (f + g) _ _ _
      obtain ⟨g0, rfl⟩ := hx.grow
      refine any_of_boxPost (C := fun y => ∃ g1 : Grow (g0.fin.alloc O), y = g1.fin) ?_ ?_ ?_ f _ _ _ ⟨⟨_, Ext.refl _⟩, rfl⟩ (h4 g0.fin.heap.size)
      · rintro y z ⟨g1, rfl⟩ hz; exact (g1.ext.trans hz).grow
      · rintro y ⟨g1, rfl⟩; exact (g0.ext.alloc O).fin g1
      · rintro listed a hl y ⟨g1, rfl⟩; exact hL g0 g1 _ _ hl
    · exact wpOp_of_eOp (C := fun y => Ext w y) (fun y z hy hz => hy.trans hz) (fun y hy => hy) hx (fun a' y hy h' => any_of_madePre hk hguard hmake hL f _ a' y hy h') (h3 hik)

theorem madePre_first {n i k : Nat} {oi oa : Oper} {srcs : List (Operand × Value)} {mkv : Nat → Value} {v : Value} {L : Nat → Array Bool → Act → Prop} (hi : ops[i]? = some oi) (hka : ops[k]? = some oa) (hik : i ≠ k)
    (hlook : ∀ p ∈ srcs, ∀ d, p.1 = .tmp d → d ∈ oa.looksAt ops) (hsel : ∀ (j : Nat) (o : Oper) cs b, ops[j]? = some o → o.op ≠ .select cs b)
    (htw : TailWaits md ops n) (hin : i < n)
    (hdone : ∀ b listed a, L b listed a → ∀ j ∈ Region.ready md ops listed, n ≤ j) (f : Nat) :
    ∀ (listed : Array Bool) (a : Act), HeadInv md ops n listed →
      (∀ j oj, ops[j]? = some oj → j ≠ i → listed.getD j true = false → (∀ e ∈ oj.after, Region.binds md e = true → e.on ≠ i) → oi.apart ops oj = true) →
      i ∈ Region.ready md ops listed → YieldsE P ops w oi v a →
      madePre P md ops w n k oa.dst srcs mkv L f (listed.setIfInBounds i true) (a.put oi.dst v) → madePre P md ops w n k oa.dst srcs mkv L (f + 1) listed a := by
  induction f with
  | zero => intro listed a _ _ _ _ H; exact H.elim
  | succ f ih =>
    intro listed a inv hfree hr hy H
    have hun := (mem_ready.1 hr).1
    refine ⟨fun h => (by rw [h] at hr; cases hr), fun j hj => ?_⟩
    have hjn : j < n := by
      by_cases h : j < n
      · exact h
      · exact absurd hj (htw listed inv i hin hun j (by omega))
    have hnot : ∀ (oj : Oper), (∀ e ∈ oj.after, Region.binds md e = true → listed.getD e.on false = true) → ∀ e ∈ oj.after, Region.binds md e = true → e.on ≠ i := by
      intro oj hall e he hb heq
      have h1 := hall e he hb
      rw [heq, getD_both hun] at h1
      cases h1
    refine ⟨hjn, ?_, ?_⟩
    · intro hjk
      subst hjk
      have hji : j ≠ i := Ne.symm hik
      obtain ⟨_, h1, _⟩ := H.2 j (ready_mono hj hji)
      obtain ⟨hs, h1⟩ := h1 rfl
      obtain ⟨hjun, oj, hoj, hall⟩ := mem_ready.1 hj
      rw [hka] at hoj
      obtain rfl := Option.some.inj hoj
      have hap := hfree j oa hka hji hjun (hnot oa hall)
      obtain ⟨_, a2, _⟩ := Oper.apart_spec hap
      refine ⟨fun p hp => by rw [← hs p hp, eval_apart hap (hlook p hp)], fun b => ?_⟩
      refine boxPost_first hi hsel htw hin (hdone b) f _ _ (inv.set hj hjn) ?_ (ready_mono hr hik) (hy.keep hap (fun cs b => hsel i oi cs b hi) _) ?_
      · intro k ok hk hki hun hno
        refine hfree k ok hk hki ?_ hno
        by_cases hjk : j = k
        · subst hjk; exact hjun
        · rw [getD_set_ne true hjk] at hun; exact hun
      · rw [Array.setIfInBounds_comm _ _ hji, ← Act.put_comm a v _ a2]
        exact h1 b
    · intro hjk
      by_cases hji : j = i
      · subst hji; exact hy.eOp hi H
      have h1 := (H.2 j (ready_mono hj hji)).2.2 hjk
      obtain ⟨hjun, oj, hoj, hall⟩ := mem_ready.1 hj
      have h2 := eOp_put hoj (hfree j oj hoj hji hjun (hnot oj hall)) (fun cs b => hsel i oi cs b hi) (fun cs b => hsel j oj cs b hoj) hy h1
      refine eOp_mono (fun a' h3 => ih (listed.setIfInBounds j true) a' (inv.set hj hjn) ?_ (ready_mono hr (Ne.symm hji)) h3.1 ?_) h2
      · intro k ok hk hki hun hno
        refine hfree k ok hk hki ?_ hno
        by_cases hjk : j = k
        · subst hjk; exact hjun
        · rw [getD_set_ne true hjk] at hun; exact hun
      · rw [Array.setIfInBounds_comm _ _ hji]
        exact h3.2

theorem made_lex {oa : Oper} {k g : Nat} {srcs : List (Operand × Value)} {mkv : Nat → Value} {Lq : Nat → Act → Prop} (hka : ops[k]? = some oa) (hlook : ∀ p ∈ srcs, ∀ d, p.1 = .tmp d → d ∈ oa.looksAt ops)
    (hsel : Region.noSelect ops = true) (htw : TailWaits md ops (k + 1)) :
    ∀ (l : List Oper) (m : Nat) (listed : Array Bool) (a : Act), (∀ j, j < l.length → l[j]? = ops[m + j]?) → m + l.length = k → HeadInv md ops (k + 1) listed → (∀ j, j < m → listed.getD j true = true) →
    Region.lexHead md ops g (l.length + 1) m listed = true → wpQuietE P ops w (fun a' => Holds' srcs a'.eval ∧ ∀ b, Lq b (a'.put oa.dst (mkv b))) l a →
    madePre P md ops w (k + 1) k oa.dst srcs mkv (fun b listed' a' => Region.seqB md ops g (k + 1) listed' = true ∧ Lq b a') (l.length + 1) listed a
  | [], m, listed, a, _, hm, inv, hin, hB, h => by
    have : m = k := by simpa using hm
    subst this
    simp only [List.length_nil, Region.lexHead, Bool.and_eq_true] at hB
    obtain ⟨⟨hr, _⟩, hB'⟩ := hB
    have hr' : m ∈ Region.ready md ops listed := by simpa using hr
    have hun := (mem_ready.1 hr').1
    refine ⟨fun h => (by rw [h] at hr'; cases hr'), fun j hj => ?_⟩
    have hjn : j < m + 1 := by
      by_cases h : j < m + 1
      · exact h
      · exact absurd hj (htw listed inv m (by omega) hun j (by omega))
    have hjm : j = m := by
      by_cases h : j < m
      · have h1 := (mem_ready.1 hj).1
        have h2 := hin j h
        rw [h1] at h2
        cases h2
      · omega
    subst hjm
    exact ⟨hjn, fun _ => ⟨h.1, fun b => ⟨hB', h.2 b⟩⟩, fun h => absurd rfl h⟩
  | o :: l, m, listed, a, hl, hm, inv, hin, hB, h => by
    have h0 : ops[m]? = some o := by simpa using (hl 0 (by simp)).symm
    rw [List.length_cons] at hB
    unfold Region.lexHead at hB
    simp only [Bool.and_eq_true] at hB
    obtain ⟨⟨hr, hf⟩, hB'⟩ := hB
    have hmk : m < k := by simp only [List.length_cons] at hm; omega
    have hr' : m ∈ Region.ready md ops listed := by simpa using hr
    have hst : eOp P ops w m (wpQuietE P ops w (fun a' => Holds' srcs a'.eval ∧ ∀ b, Lq b (a'.put oa.dst (mkv b))) l) a := by unfold eOp; simp only [h0]; exact h
    obtain ⟨v, hy, hK⟩ := yieldsE_of h0 hst
    have hl' : ∀ j, j < l.length → l[j]? = ops[m + 1 + j]? := fun j hj => by have := hl (j + 1) (by simp; omega); simpa [Nat.add_assoc, Nat.add_comm 1 j] using this
    have hm' : m + 1 + l.length = k := by simp only [List.length_cons] at hm; omega
    have hin' : ∀ j, j < m + 1 → (listed.setIfInBounds m true).getD j true = true := by
      intro j hj
      by_cases hjm : j = m
      · subst hjm; simp
      · exact getD_set_in (hin j (by omega))
    exact madePre_first h0 hka (by omega) hlook (Region.noSelect_spec hsel) htw (by omega) (fun b listed' a' hL => seqB_ready hL.1) (l.length + 1) listed a inv (Region.free_spec h0 hf) hr' hy
      (made_lex hka hlook hsel htw l (m + 1) _ _ hl' hm' (inv.set hr' (by omega)) hin' hB' hK)

/-- The order of the head is free but for what binds; the tail is forced. -/
def madeB (ops : Array Oper) (k : Nat) : Bool :=
  Region.noSelect ops && decide (k + 1 < ops.size) && Region.sinkB .any ops (k + 1) && Region.chainB .any ops (k + 1) && Region.lexHead .any ops (ops.size - (k + 1)) (k + 1) 0 (Array.replicate ops.size false)

/-- The region whole. -/
theorem wp_region_made {id : Nat} {Q : Exit → Act → World → Prop} {a : Act} {l : List Oper} {oa : Oper} (k : Nat) (srcs : List (Operand × Value)) (O : Obj) (mkv : Nat → Value) (hm : P.follows .mixedOrders = true) (hB : madeB l.toArray k = true)
    (hka : l[k]? = some oa) (hguard : oa.guard = none) (hlook : ∀ p ∈ srcs, p.1 ∈ oa.op.operands.toList)
    (hmake : ∀ (ev : Operand → Value) (x : World), Ext w x → Holds' srcs ev → (execOp ev oa).run P x = .ok (.value (mkv x.heap.size)) (x.alloc O))
    (h : wpQuietE P l.toArray w (fun a' => Holds' srcs a'.eval ∧ ∀ b, ∀ (g0 : Grow w) (g : Grow (g0.fin.alloc O)), g0.fin.heap.size = b → wpList P l.toArray Q (l.drop (k + 1)) (a'.put oa.dst (mkv b)) g.fin) (l.take k) a) : (Code.region id l.toArray true).wp P Q a w := by
  simp only [madeB, Bool.and_eq_true, decide_eq_true_eq] at hB
  obtain ⟨⟨⟨⟨hsel, hn⟩, hs⟩, hc⟩, hlex⟩ := hB
  have hn' : k + 1 < l.length := by simpa using hn
  have htw : TailWaits .any l.toArray (k + 1) := fun listed inv i hi hun j hj hjr => tail_waits hs hc hn inv _ i rfl hi hun j hj hjr
  have htl : (l.take k).length = k := by simp; omega
  have hdl : (l.drop (k + 1)).length = l.toArray.size - (k + 1) := by simp
  have inv0 : HeadInv .any l.toArray (k + 1) (Array.replicate l.toArray.size false) :=
    ⟨by simp, fun j oj _ hl => (by rw [getD_replicate_false] at hl; cases hl), fun t _ ht => getD_in (by simpa using ht) (getD_replicate_false _ _)⟩
  have hcells : ∀ j, j < (l.take k).length → (l.take k)[j]? = l.toArray[0 + j]? := fun j hj => by
    have hj' : j < k := by rw [htl] at hj; exact hj
    simp [hj']
  have hka' : l.toArray[k]? = some oa := by simpa using hka
  have hlk : ∀ p ∈ srcs, ∀ d, p.1 = .tmp d → d ∈ oa.looksAt l.toArray := by
    intro p hp d hd
    exact List.mem_append_left _ (List.mem_filterMap.2 ⟨p.1, hlook p hp, by rw [hd]⟩)
  have H := made_lex (md := .any) (g := l.toArray.size - (k + 1)) (w := w) (mkv := mkv) (Lq := fun (b : Nat) (a2 : Act) => ∀ (g0 : Grow w) (g : Grow (g0.fin.alloc O)), g0.fin.heap.size = b → wpList P l.toArray Q (l.drop (k + 1)) a2 g.fin) hka' hlk hsel htw (l.take k) 0 _ a hcells (by simpa using htl) inv0 (fun j hj => by omega) (by rw [htl]; exact hlex) h
  refine wp_region_any hm ?_
  have hC : Ext w ({ w with drawn := w.drawn + 1 } : World) := (Ext.refl w).drew
  have := any_of_madePre (Q' := Q) (O := O) (g := l.toArray.size - (k + 1)) hka' hguard hmake (fun g0 g1 listed a' hL => by
    have := wpAny_of_seq (md := .any) (Q' := Q) (l.drop (k + 1)) (k + 1) listed a' g1.fin (fun j => by simp [List.getElem?_drop]) (by rw [hdl]; exact hL.1) (hL.2 g0 g1 rfl)
    rwa [hdl] at this) _ _ _ _ hC H
  rw [htl, show k + 1 + (l.toArray.size - (k + 1)) = l.toArray.size by omega] at this
  exact this
end
end Go.Proofs.YthcomgnokkndgaaDoor
