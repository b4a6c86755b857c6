/- A region that draws its order and makes one new variable (an alloc, that may come up at any time among reads and calls); behind them a forced tail (the store into it). -/
import Derived.Test.YthcomgnokkndgaaDoorTail
namespace Go.Proofs.YthcomgnokkndgaaDoor
open Go.RowKit

section
variable {P : Program} {ops : Array Oper} {md : Region.Mode} {w : World}

/-- One value, in every world that has grown out of w; what is left has grown out of THAT world. -/
def Oper.quietE (P : Program) (o : Oper) (a : Act) (w : World) (next : Act → Prop) : Prop :=
  ∃ v, (∀ g : Grow w, o.quietAt P a (fun x => ∃ g' : Grow g.fin, x = g'.fin) g.fin v) ∧ next (a.put o.dst v)
attribute [go_sem] Oper.quietE
def wpQuietE (P : Program) (ops : Array Oper) (w : World) (Q : Act → Prop) : List Oper → Act → Prop
  | [], a => Q a
  | o :: rest, a => if Region.wanted o (yielded ops a.tmps) then Oper.quietE P o a w (wpQuietE P ops w Q rest) else wpQuietE P ops w Q rest (a.put o.dst undef)
theorem wpQuietE_nil {Q : Act → Prop} {a : Act} (h : Q a) : wpQuietE P ops w Q [] a := h
theorem wpQuietE_step {Q : Act → Prop} {a : Act} {o : Oper} {rest : List Oper}
    (h : ∀ K : Act → Prop, (∀ a, wpQuietE P ops w Q rest a → K a) → if Region.wanted o (yielded ops a.tmps) then Oper.quietE P o a w K else K (a.put o.dst undef)) : wpQuietE P ops w Q (o :: rest) a :=
  h _ (fun _ h => h)
theorem wpQuietE_mono {K K' : Act → Prop} : ∀ (l : List Oper) (a : Act), (∀ a, K a → K' a) → wpQuietE P ops w K l a → wpQuietE P ops w K' l a
  | [], _, hk, h => hk _ h
  | o :: l, a, hk, h => by
    unfold wpQuietE at *
    split
    · rename_i hw; rw [if_pos hw] at h; obtain ⟨v, h1, h2⟩ := h; exact ⟨v, h1, wpQuietE_mono l _ hk h2⟩
    · rename_i hw; rw [if_neg hw] at h; exact wpQuietE_mono l _ hk h
def eOp (P : Program) (ops : Array Oper) (w : World) (i : Nat) (K : Act → Prop) (a : Act) : Prop :=
  match ops[i]? with
  | none => K a
  | some o => if Region.wanted o (yielded ops a.tmps) then Oper.quietE P o a w K else K (a.put o.dst undef)

theorem eOp_mono {i : Nat} {a : Act} {K K' : Act → Prop} (h : ∀ a, K a → K' a) (hh : eOp P ops w i K a) : eOp P ops w i K' a := by
  unfold eOp at *
  split
  · rename_i ho; simp only [ho] at hh; exact h _ hh
  · rename_i o ho
    simp only [ho] at hh
    split
    · rename_i hw; simp only [hw, if_true] at hh; obtain ⟨v, h1, h2⟩ := hh; exact ⟨v, h1, h _ h2⟩
    · rename_i hw; simp only [hw] at hh; exact h _ hh

def YieldsE (P : Program) (ops : Array Oper) (w : World) (o : Oper) (v : Value) (a : Act) : Prop :=
  (Region.wanted o (yielded ops a.tmps) = true ∧ ∀ g : Grow w, o.quietAt P a (fun x => ∃ g' : Grow g.fin, x = g'.fin) g.fin v) ∨ (Region.wanted o (yielded ops a.tmps) = false ∧ v = undef)

theorem YieldsE.of_same {o : Oper} {v : Value} {a a' : Act} (hy : YieldsE P ops w o v a) (he : execOp a'.eval o = execOp a.eval o)
    (hw : Region.wanted o (yielded ops a'.tmps) = Region.wanted o (yielded ops a.tmps)) : YieldsE P ops w o v a' := by
  unfold YieldsE Oper.quietAt at *
  rw [he, hw]
  exact hy
theorem YieldsE.eOp {i : Nat} {o : Oper} {v : Value} {a : Act} (hi : ops[i]? = some o) (hy : YieldsE P ops w o v a) {K : Act → Prop} (h : K (a.put o.dst v)) : eOp P ops w i K a := by
  unfold Proofs.YthcomgnokkndgaaDoor.eOp
  simp only [hi]
  rcases hy with ⟨hw, hv⟩ | ⟨hw, rfl⟩
  · simp only [hw, if_true]; exact ⟨v, hv, h⟩
  · simp only [hw, Bool.false_eq_true, if_false]; exact h
theorem yieldsE_of {i : Nat} {o : Oper} {a : Act} {K : Act → Prop} (hi : ops[i]? = some o) (h : eOp P ops w i K a) : ∃ v, YieldsE P ops w o v a ∧ K (a.put o.dst v) := by
  unfold eOp at h
  simp only [hi] at h
  by_cases hw : Region.wanted o (yielded ops a.tmps) = true
  · simp only [hw, if_true] at h
    obtain ⟨v, h1, h2⟩ := h
    exact ⟨v, .inl ⟨hw, h1⟩, h2⟩
  · simp only [hw] at h
    exact ⟨undef, .inr ⟨by simpa using hw, rfl⟩, h⟩
theorem YieldsE.keep {oi oj : Oper} {v : Value} (hap : oi.apart ops oj = true) (hsi : ∀ cs b, oi.op ≠ .select cs b) {a : Act} (hy : YieldsE P ops w oi v a) (u : Value) : YieldsE P ops w oi v (a.put oj.dst u) := by
  obtain ⟨h1, h2, h3⟩ := Oper.apart_spec hap
  exact hy.of_same (execOp_put oi hsi a oj.dst u h3) (wanted_put oi a oj.dst u h3)
theorem eOp_put {j : Nat} {oi oj : Oper} {v : Value} (hj : ops[j]? = some oj) (hap : oi.apart ops oj = true)
    (hsi : ∀ cs b, oi.op ≠ .select cs b) (hsj : ∀ cs b, oj.op ≠ .select cs b) {K : Act → Prop} {a : Act}
    (hy : YieldsE P ops w oi v a) (h : eOp P ops w j K (a.put oi.dst v)) :
    eOp P ops w j (fun a' => YieldsE P ops w oi v a' ∧ K (a'.put oi.dst v)) a := by
  obtain ⟨h1, h2, h3⟩ := Oper.apart_spec hap
  unfold eOp at *
  simp only [hj] at *
  rw [wanted_put oj a oi.dst v h1] at h
  split
  · rename_i hw
    simp only [hw, if_true] at h
    obtain ⟨u, hu, hn⟩ := h
    refine ⟨u, fun g => ?_, hy.keep hap hsi u, by rw [← Act.put_comm a v u h2]; exact hn⟩
    have := hu g
    unfold Oper.quietAt at *
    rwa [execOp_put oj hsj a oi.dst v h1] at this
  · rename_i hw
    simp only [hw] at h
    exact ⟨hy.keep hap hsi _, by rw [← Act.put_comm a v undef h2]; exact h⟩

/-- What a world must be for an operation of the region to come up in it: closed under growing, and grown out of w. -/
theorem wpOp_of_eOp {C : World → Prop} (hcl : ∀ x y, C x → Ext x y → C y) (hC : ∀ x, C x → Ext w x) {i : Nat} {a : Act} {K : Act → Prop} {K' : Act → World → Prop} {Q' : Exit → Act → World → Prop} {x : World} (hx : C x)
    (h : ∀ a y, C y → K a → K' a y) (hh : eOp P ops w i K a) : wpOp P ops Q' i K' a x := by
  unfold eOp at hh
  unfold wpOp
  split
  · rename_i ho; simp only [ho] at hh; exact h _ _ hx hh
  · rename_i o ho
    simp only [ho] at hh
    split
    · rename_i hw
      simp only [hw, if_true] at hh
      left
      obtain ⟨v, h1, h2⟩ := hh
      obtain ⟨g, rfl⟩ := (hC x hx).grow
      have h3 := h1 g
      unfold Oper.quietAt at h3
      unfold Oper.wp
      generalize (execOp a.eval o).run P g.fin = r at *
      cases r with
      | ok n w' =>
        cases n <;> simp only [Oper.quietUpon] at h3 <;> simp only [Oper.upon]
        case value u => obtain ⟨e1, e2⟩ := h3; rw [e1, e2]; exact h _ _ hx h2
        case skip => obtain ⟨e1, e2⟩ := h3; rw [e1, ← e2]; exact h _ _ hx h2
        case enter f args =>
          obtain ⟨e1, hc⟩ := h3
          rw [e1]
          exact hc.mono fun e w'' ⟨he, g', hw''⟩ => by subst he hw''; exact h _ _ (hcl _ _ hx g'.ext) h2
      | halt x w' => simp only [Oper.quietUpon] at h3
    · rename_i hw; simp only [hw] at hh; exact h _ _ hx hh

def ptrTo (b : Nat) : Value := .pointer (some ⟨b, 0, none⟩)

/-- Behind the store. -/
def boxPost (P : Program) (md : Region.Mode) (ops : Array Oper) (w : World) (n : Nat) (L : Array Bool → Act → Prop) : Nat → Array Bool → Act → Prop
  | 0, listed, a => L listed a
  | f + 1, listed, a => Region.ready md ops listed ≠ [] ∧ ∀ i ∈ Region.ready md ops listed, i < n ∧ eOp P ops w i (boxPost P md ops w n L f (listed.setIfInBounds i true)) a
/-- Behind the alloc, ahead of the store (number s, of what src holds, through what dst holds). -/
def boxMid (P : Program) (md : Region.Mode) (ops : Array Oper) (w : World) (n s : Nat) (src dst : Operand) (V : Value) (b : Nat) (L : Array Bool → Act → Prop) : Nat → Array Bool → Act → Prop
  | 0, _, _ => False
  | f + 1, listed, a => Region.ready md ops listed ≠ [] ∧ ∀ i ∈ Region.ready md ops listed, i < n ∧
      (i = s → a.eval src = V ∧ a.eval dst = ptrTo b ∧ boxPost P md ops w n L f (listed.setIfInBounds s true) a) ∧
      (i ≠ s → eOp P ops w i (boxMid P md ops w n s src dst V b L f (listed.setIfInBounds i true)) a)
/-- Ahead of the alloc (number k). -/
def boxPre (P : Program) (md : Region.Mode) (ops : Array Oper) (w : World) (n k s : Nat) (t : Option Tmp) (src dst : Operand) (V : Value) (L : Nat → Array Bool → Act → Prop) : Nat → Array Bool → Act → Prop
  | 0, _, _ => False
  | f + 1, listed, a => Region.ready md ops listed ≠ [] ∧ ∀ i ∈ Region.ready md ops listed, i < n ∧
      (i = k → ∀ b, boxMid P md ops w n s src dst V b (L b) f (listed.setIfInBounds k true) (a.put t (ptrTo b))) ∧
      (i ≠ k → i ≠ s ∧ eOp P ops w i (boxPre P md ops w n k s t src dst V L f (listed.setIfInBounds i true)) a)

theorem any_of_boxPost {C : World → Prop} (hcl : ∀ x y, C x → Ext x y → C y) (hC : ∀ x, C x → Ext w x) {n g : Nat} {L : Array Bool → Act → Prop} {Q' : Exit → Act → World → Prop}
    (hL : ∀ listed a, L listed a → ∀ x, C x → wpAny P md ops Q' g listed a x) :
    ∀ (f : Nat) (listed : Array Bool) (a : Act) (x : World), C x → boxPost P md ops w n L f listed a → wpAny P md ops Q' (f + g) listed a x
  | 0, listed, a, x, hx, h => by rw [Nat.zero_add]; exact hL _ _ h x hx
  | f + 1, listed, a, x, hx, h => by
    have e : f + 1 + g = (f + g) + 1 := by omega
    rw [e]
    refine ⟨fun h0 => absurd h0 h.1, fun i hi => ?_⟩
    exact wpOp_of_eOp hcl hC hx (fun a' y hy h' => any_of_boxPost hcl hC hL f _ a' y hy h') (h.2 i hi).2

theorem any_of_boxMid {C C' : World → Prop} (hcl : ∀ x y, C x → Ext x y → C y) (hC : ∀ x, C x → Ext w x) (hcl' : ∀ x y, C' x → Ext x y → C' y) (hC' : ∀ x, C' x → Ext w x) {os : Oper} {n s g b : Nat} {src dst : Operand} {V : Value}
    {L : Array Bool → Act → Prop} {Q' : Exit → Act → World → Prop} (hs : ops[s]? = some os) (hguard : os.guard = none) (hdst : os.dst = none)
    (hst : ∀ (a : Act) (x : World), C x → a.eval src = V → a.eval dst = ptrTo b → ∃ y, (execOp a.eval os).run P x = .ok .skip y ∧ C' y)
    (hL : ∀ listed a, L listed a → ∀ x, C' x → wpAny P md ops Q' g listed a x) :
    ∀ (f : Nat) (listed : Array Bool) (a : Act) (x : World), C x → boxMid P md ops w n s src dst V b L f listed a → wpAny P md ops Q' (f + g) listed a x
  | 0, _, _, _, _, h => h.elim
  | f + 1, listed, a, x, hx, h => by
    have e : f + 1 + g = (f + g) + 1 := by omega
    rw [e]
    refine ⟨fun h0 => absurd h0 h.1, fun i hi => ?_⟩
    obtain ⟨_, h2, h3⟩ := h.2 i hi
    by_cases his : i = s
    · subst his
      obtain ⟨v1, v2, h4⟩ := h2 rfl
      obtain ⟨y, hy, hcy⟩ := hst a x hx v1 v2
      unfold wpOp
      simp only [hs, Region.wanted, hguard, if_true]
      left
      unfold Oper.wp
      rw [hy, Oper.upon_skip, hdst]
      exact any_of_boxPost hcl' hC' hL f _ _ _ hcy h4
    · exact wpOp_of_eOp hcl hC hx (fun a' y hy h' => any_of_boxMid hcl hC hcl' hC' hs hguard hdst hst hL f _ a' y hy h') (h3 his)

theorem any_of_boxPre {O : Obj} {oa os : Oper} {n k s g : Nat} {src dst : Operand} {V : Value} {st : World → Nat → World} {L : Nat → Array Bool → Act → Prop} {Q' : Exit → Act → World → Prop} (hk : ops[k]? = some oa) (hguard : oa.guard = none)
    (halloc : ∀ (a : Act) (x : World), (execOp a.eval oa).run P x = .ok (.value (ptrTo x.heap.size)) (x.alloc O))
    (hs : ops[s]? = some os) (hguard' : os.guard = none) (hdst : os.dst = none)
    (hst : ∀ (ev : Operand → Value) (g0 : Grow w) (g1 : Grow (g0.fin.alloc O)), ev src = V → ev dst = ptrTo g0.fin.heap.size → (execOp ev os).run P g1.fin = .ok .skip (st g1.fin g0.fin.heap.size))
    (hext : ∀ (g0 : Grow w) (g1 : Grow (g0.fin.alloc O)), Ext w (st g1.fin g0.fin.heap.size))
    (hL : ∀ (g0 : Grow w) (g1 : Grow (g0.fin.alloc O)) (g2 : Grow (st g1.fin g0.fin.heap.size)) listed a, L g0.fin.heap.size listed a → wpAny P md ops Q' g listed a g2.fin) :
    ∀ (f : Nat) (listed : Array Bool) (a : Act) (x : World), Ext w x → boxPre P md ops w n k s oa.dst src dst V L f listed a → wpAny P md ops Q' (f + g) listed a x
  | 0, _, _, _, _, h => h.elim
  | f + 1, listed, a, x, hx, h => by
    have e : f + 1 + g = (f + g) + 1 := by omega
    rw [e]
    refine ⟨fun h0 => absurd h0 h.1, fun i hi => ?_⟩
    obtain ⟨h1, h2, h3⟩ := h.2 i hi
    by_cases hik : i = k
    · subst hik
      have h4 := h2 rfl
      unfold wpOp
      simp only [hk, Region.wanted, hguard, if_true]
      left
      unfold Oper.wp
      rw [halloc]
      show wpAny P md ops Q' (f + g) _ _ _
      obtain ⟨g0, rfl⟩ := hx.grow
      refine any_of_boxMid (C := fun y => ∃ g1 : Grow (g0.fin.alloc O), y = g1.fin) (C' := fun y => ∃ (g1 : Grow (g0.fin.alloc O)) (g2 : Grow (st g1.fin g0.fin.heap.size)), y = g2.fin) ?_ ?_ ?_ ?_ hs hguard' hdst ?_ ?_ f _ _ _ ⟨⟨_, Ext.refl _⟩, rfl⟩ (h4 g0.fin.heap.size)
      · rintro y z ⟨g1, rfl⟩ hz; exact (g1.ext.trans hz).grow
      · rintro y ⟨g1, rfl⟩; exact (g0.ext.alloc O).fin g1
      · rintro y z ⟨g1, g2, rfl⟩ hz; exact ⟨g1, (g2.ext.trans hz).grow⟩
      · rintro y ⟨g1, g2, rfl⟩; exact (hext g0 g1).fin g2
      · rintro a y ⟨g1, rfl⟩ v1 v2; exact ⟨_, hst a.eval g0 g1 v1 v2, g1, (Ext.refl _).grow⟩
      · rintro listed a hl y ⟨g1, g2, rfl⟩; exact hL g0 g1 g2 _ _ hl
    · exact wpOp_of_eOp (C := fun y => Ext w y) (fun y z hy hz => hy.trans hz) (fun y hy => hy) hx (fun a' y hy h' => any_of_boxPre hk hguard halloc hs hguard' hdst hst hext hL f _ a' y hy h') (h3 hik).2

def TailWaits (md : Region.Mode) (ops : Array Oper) (n : Nat) : Prop := ∀ listed, HeadInv md ops n listed → ∀ i, i < n → listed.getD i true = false → ∀ j, n ≤ j → j ∉ Region.ready md ops listed

theorem boxPost_first {n i : Nat} {oi : Oper} {v : Value} {L : Array Bool → Act → Prop} (hi : ops[i]? = some oi) (hsel : ∀ (j : Nat) (o : Oper) cs b, ops[j]? = some o → o.op ≠ .select cs b)
    (htw : TailWaits md ops n) (hin : i < n)
    (hdone : ∀ listed a, L listed a → ∀ j ∈ Region.ready md ops listed, n ≤ j) (f : Nat) :
    ∀ (listed : Array Bool) (a : Act), HeadInv md ops n listed →
      (∀ j oj, ops[j]? = some oj → j ≠ i → listed.getD j true = false → (∀ e ∈ oj.after, Region.binds md e = true → e.on ≠ i) → oi.apart ops oj = true) →
      i ∈ Region.ready md ops listed → YieldsE P ops w oi v a →
      boxPost P md ops w n L f (listed.setIfInBounds i true) (a.put oi.dst v) → boxPost P md ops w n L (f + 1) listed a := by
  induction f with
  | zero =>
    intro listed a inv hfree hr hy H
    have hun := (mem_ready.1 hr).1
    refine ⟨fun h => (by rw [h] at hr; cases hr), fun j hj => ?_⟩
    have hjn : j < n := by
      by_cases h : j < n
      · exact h
      · exact absurd hj (htw listed inv i hin hun j (by omega))
    refine ⟨hjn, ?_⟩
    by_cases hji : j = i
    · subst hji; exact hy.eOp hi H
    · have := hdone _ _ H j (ready_mono hj hji)
      omega
  | succ f ih =>
    intro listed a inv hfree hr hy H
    have hun := (mem_ready.1 hr).1
    refine ⟨fun h => (by rw [h] at hr; cases hr), fun j hj => ?_⟩
    have hjn : j < n := by
      by_cases h : j < n
      · exact h
      · exact absurd hj (htw listed inv i hin hun j (by omega))
    have hnot : ∀ (oj : Oper), (∀ e ∈ oj.after, Region.binds md e = true → listed.getD e.on false = true) → ∀ e ∈ oj.after, Region.binds md e = true → e.on ≠ i := by
      intro oj hall e he hb heq
      have h1 := hall e he hb
      rw [heq, getD_both hun] at h1
      cases h1
    refine ⟨hjn, ?_⟩
    by_cases hji : j = i
    · subst hji; exact hy.eOp hi H
    have h1 := (H.2 j (ready_mono hj hji)).2
    obtain ⟨hjun, oj, hoj, hall⟩ := mem_ready.1 hj
    have h2 := eOp_put hoj (hfree j oj hoj hji hjun (hnot oj hall)) (fun cs b => hsel i oi cs b hi) (fun cs b => hsel j oj cs b hoj) hy h1
    refine eOp_mono (fun a' h3 => ih (listed.setIfInBounds j true) a' (inv.set hj hjn) ?_ (ready_mono hr (Ne.symm hji)) h3.1 ?_) h2
    · intro k ok hk hki hun hno
      refine hfree k ok hk hki ?_ hno
      by_cases hjk : j = k
      · subst hjk; exact hjun
      · rw [getD_set_ne true hjk] at hun; exact hun
    · rw [Array.setIfInBounds_comm _ _ hji]
      exact h3.2

theorem eval_apart {oi oj : Oper} {x : Operand} (hap : oi.apart ops oj = true) (hx : ∀ d, x = .tmp d → d ∈ oj.looksAt ops) (a : Act) (v : Value) : (a.put oi.dst v).eval x = a.eval x := by
  obtain ⟨h1, _, _⟩ := Oper.apart_spec hap
  exact Act.eval_put fun d hd hxd => h1 d hd (hx d hxd)

theorem boxMid_first {n i s b : Nat} {oi os : Oper} {src dst : Operand} {V v : Value} {L : Array Bool → Act → Prop} (hi : ops[i]? = some oi) (hos : ops[s]? = some os) (his : i ≠ s)
    (hlook : ∀ d, src = .tmp d → d ∈ os.looksAt ops) (hlook' : ∀ d, dst = .tmp d → d ∈ os.looksAt ops) (hsel : ∀ (j : Nat) (o : Oper) cs b, ops[j]? = some o → o.op ≠ .select cs b)
    (htw : TailWaits md ops n) (hin : i < n)
    (hdone : ∀ listed a, L listed a → ∀ j ∈ Region.ready md ops listed, n ≤ j) (f : Nat) :
    ∀ (listed : Array Bool) (a : Act), HeadInv md ops n listed →
      (∀ j oj, ops[j]? = some oj → j ≠ i → listed.getD j true = false → (∀ e ∈ oj.after, Region.binds md e = true → e.on ≠ i) → oi.apart ops oj = true) →
      i ∈ Region.ready md ops listed → YieldsE P ops w oi v a →
      boxMid P md ops w n s src dst V b L f (listed.setIfInBounds i true) (a.put oi.dst v) → boxMid P md ops w n s src dst V b L (f + 1) listed a := by
  induction f with
  | zero => intro listed a _ _ _ _ H; exact H.elim
  | succ f ih =>
    intro listed a inv hfree hr hy H
    have hun := (mem_ready.1 hr).1
    refine ⟨fun h => (by rw [h] at hr; cases hr), fun j hj => ?_⟩
    have hjn : j < n := by
      by_cases h : j < n
      · exact h
      · exact absurd hj (htw listed inv i hin hun j (by omega))
    have hnot : ∀ (oj : Oper), (∀ e ∈ oj.after, Region.binds md e = true → listed.getD e.on false = true) → ∀ e ∈ oj.after, Region.binds md e = true → e.on ≠ i := by
      intro oj hall e he hb heq
      have h1 := hall e he hb
      rw [heq, getD_both hun] at h1
      cases h1
    refine ⟨hjn, ?_, ?_⟩
    · intro hjs
      subst hjs
      have hji : j ≠ i := Ne.symm his
      obtain ⟨v1, v2, h1⟩ := (H.2 j (ready_mono hj hji)).2.1 rfl
      obtain ⟨hjun, oj, hoj, hall⟩ := mem_ready.1 hj
      rw [hos] at hoj
      obtain rfl := Option.some.inj hoj
      have hap := hfree j os hos hji hjun (hnot os hall)
      refine ⟨by rw [← v1, eval_apart hap hlook], by rw [← v2, eval_apart hap hlook'], ?_⟩
      refine boxPost_first hi hsel htw hin hdone f _ _ (inv.set hj hjn) ?_ (ready_mono hr his) hy ?_
      · intro k ok hk hki hun hno
        refine hfree k ok hk hki ?_ hno
        by_cases hjk : j = k
        · subst hjk; exact hjun
        · rw [getD_set_ne true hjk] at hun; exact hun
      · rw [Array.setIfInBounds_comm _ _ hji]
        exact h1
    · intro hjs
      by_cases hji : j = i
      · subst hji; exact hy.eOp hi H
      have h1 := (H.2 j (ready_mono hj hji)).2.2 hjs
      obtain ⟨hjun, oj, hoj, hall⟩ := mem_ready.1 hj
      have h2 := eOp_put hoj (hfree j oj hoj hji hjun (hnot oj hall)) (fun cs b => hsel i oi cs b hi) (fun cs b => hsel j oj cs b hoj) hy h1
      refine eOp_mono (fun a' h3 => ih (listed.setIfInBounds j true) a' (inv.set hj hjn) ?_ (ready_mono hr (Ne.symm hji)) h3.1 ?_) h2
      · intro k ok hk hki hun hno
        refine hfree k ok hk hki ?_ hno
        by_cases hjk : j = k
        · subst hjk; exact hjun
        · rw [getD_set_ne true hjk] at hun; exact hun
      · rw [Array.setIfInBounds_comm _ _ hji]
        exact h3.2

theorem boxPre_first {n i k s : Nat} {oi oa os : Oper} {src dst : Operand} {V v : Value} {L : Nat → Array Bool → Act → Prop} (hi : ops[i]? = some oi) (hka : ops[k]? = some oa) (hos : ops[s]? = some os) (hik : i ≠ k) (his : i ≠ s)
    (hlook : ∀ d, src = .tmp d → d ∈ os.looksAt ops) (hlook' : ∀ d, dst = .tmp d → d ∈ os.looksAt ops) (hsel : ∀ (j : Nat) (o : Oper) cs b, ops[j]? = some o → o.op ≠ .select cs b)
    (htw : TailWaits md ops n) (hin : i < n)
    (hdone : ∀ b listed a, L b listed a → ∀ j ∈ Region.ready md ops listed, n ≤ j) (f : Nat) :
    ∀ (listed : Array Bool) (a : Act), HeadInv md ops n listed →
      (∀ j oj, ops[j]? = some oj → j ≠ i → listed.getD j true = false → (∀ e ∈ oj.after, Region.binds md e = true → e.on ≠ i) → oi.apart ops oj = true) →
      i ∈ Region.ready md ops listed → YieldsE P ops w oi v a →
      boxPre P md ops w n k s oa.dst src dst V L f (listed.setIfInBounds i true) (a.put oi.dst v) → boxPre P md ops w n k s oa.dst src dst V L (f + 1) listed a := by
  induction f with
  | zero => intro listed a _ _ _ _ H; exact H.elim
  | succ f ih =>
    intro listed a inv hfree hr hy H
    have hun := (mem_ready.1 hr).1
    refine ⟨fun h => (by rw [h] at hr; cases hr), fun j hj => ?_⟩
    have hjn : j < n := by
      by_cases h : j < n
      · exact h
      · exact absurd hj (htw listed inv i hin hun j (by omega))
    have hnot : ∀ (oj : Oper), (∀ e ∈ oj.after, Region.binds md e = true → listed.getD e.on false = true) → ∀ e ∈ oj.after, Region.binds md e = true → e.on ≠ i := by
      intro oj hall e he hb heq
      have h1 := hall e he hb
      rw [heq, getD_both hun] at h1
      cases h1
    refine ⟨hjn, ?_, ?_⟩
    · intro hjk b
      subst hjk
      have hji : j ≠ i := Ne.symm hik
      obtain ⟨_, h1, _⟩ := H.2 j (ready_mono hj hji)
      have h1 := h1 rfl b
      obtain ⟨hjun, oj, hoj, hall⟩ := mem_ready.1 hj
      rw [hka] at hoj
      obtain rfl := Option.some.inj hoj
      have hap := hfree j oa hka hji hjun (hnot oa hall)
      obtain ⟨_, a2, _⟩ := Oper.apart_spec hap
      refine boxMid_first hi hos his hlook hlook' hsel htw hin (hdone b) f _ _ (inv.set hj hjn) ?_ (ready_mono hr hik) (hy.keep hap (fun cs b => hsel i oi cs b hi) _) ?_
      · intro k ok hk hki hun hno
        refine hfree k ok hk hki ?_ hno
        by_cases hjk : j = k
        · subst hjk; exact hjun
        · rw [getD_set_ne true hjk] at hun; exact hun
      · rw [Array.setIfInBounds_comm _ _ hji, ← Act.put_comm a v _ a2]
        exact h1
    · intro hjk
      by_cases hji : j = i
      · subst hji; exact ⟨his, hy.eOp hi H⟩
      obtain ⟨hjs, h1⟩ := (H.2 j (ready_mono hj hji)).2.2 hjk
      obtain ⟨hjun, oj, hoj, hall⟩ := mem_ready.1 hj
      have h2 := eOp_put hoj (hfree j oj hoj hji hjun (hnot oj hall)) (fun cs b => hsel i oi cs b hi) (fun cs b => hsel j oj cs b hoj) hy h1
      refine ⟨hjs, eOp_mono (fun a' h3 => ih (listed.setIfInBounds j true) a' (inv.set hj hjn) ?_ (ready_mono hr (Ne.symm hji)) h3.1 ?_) h2⟩
      · intro k ok hk hki hun hno
        refine hfree k ok hk hki ?_ hno
        by_cases hjk : j = k
        · subst hjk; exact hjun
        · rw [getD_set_ne true hjk] at hun; exact hun
      · rw [Array.setIfInBounds_comm _ _ hji]
        exact h3.2

theorem getD_set_in {listed : Array Bool} {i j : Nat} (h : listed.getD j true = true) : (listed.setIfInBounds i true).getD j true = true := by
  by_cases hij : i = j
  · subst hij
    simp
  · rw [getD_set_ne true hij]; exact h

theorem box_lex {oa os : Oper} {k g : Nat} {src dst : Operand} {V : Value} {Lq : Nat → Act → Prop} (hka : ops[k]? = some oa) (hos : ops[k + 1]? = some os)
    (hlook : ∀ d, src = .tmp d → d ∈ os.looksAt ops) (hlook' : ∀ d, dst = .tmp d → d ∈ os.looksAt ops) (hwait : ∃ e ∈ os.after, Region.binds md e = true ∧ e.on = k)
    (hsel : Region.noSelect ops = true) (htw : TailWaits md ops (k + 2)) :
    ∀ (l : List Oper) (m : Nat) (listed : Array Bool) (a : Act), (∀ j, j < l.length → l[j]? = ops[m + j]?) → m + l.length = k → HeadInv md ops (k + 2) listed → (∀ j, j < m → listed.getD j true = true) →
    Region.lexHead md ops g (l.length + 2) m listed = true → wpQuietE P ops w (fun a' => ∀ b, (a'.put oa.dst (ptrTo b)).eval src = V ∧ (a'.put oa.dst (ptrTo b)).eval dst = ptrTo b ∧ Lq b (a'.put oa.dst (ptrTo b))) l a →
    boxPre P md ops w (k + 2) k (k + 1) oa.dst src dst V (fun b listed' a' => Region.seqB md ops g (k + 2) listed' = true ∧ Lq b a') (l.length + 2) listed a
  | [], m, listed, a, _, hm, inv, hin, hB, h => by
    have : m = k := by simpa using hm
    subst this
    simp only [List.length_nil, Region.lexHead, Bool.and_eq_true] at hB
    obtain ⟨⟨hr, _⟩, ⟨⟨hr2, _⟩, hB'⟩⟩ := hB
    have hr' : m ∈ Region.ready md ops listed := by simpa using hr
    have hr2' : m + 1 ∈ Region.ready md ops (listed.setIfInBounds m true) := by simpa using hr2
    have hun := (mem_ready.1 hr').1
    refine ⟨fun h => (by rw [h] at hr'; cases hr'), fun j hj => ?_⟩
    have hjn : j < m + 2 := by
      by_cases h : j < m + 2
      · exact h
      · exact absurd hj (htw listed inv m (by omega) hun j (by omega))
    have hjm : j = m := by
      by_cases h : j < m
      · have h1 := (mem_ready.1 hj).1
        have h2 := hin j h
        rw [h1] at h2
        cases h2
      · by_cases hj1 : j = m + 1
        · subst hj1
          obtain ⟨_, oj, hoj, hall⟩ := mem_ready.1 hj
          rw [hos] at hoj
          obtain rfl := Option.some.inj hoj
          obtain ⟨e, he, hb, hon⟩ := hwait
          have h1 := hall e he hb
          rw [hon, getD_both hun] at h1
          cases h1
        · omega
    subst hjm
    refine ⟨hjn, fun _ b => ?_, fun h => absurd rfl h⟩
    refine ⟨fun h => (by rw [h] at hr2'; cases hr2'), fun i hi => ?_⟩
    have hun2 := (mem_ready.1 hr2').1
    have hin2 : i < j + 2 := by
      by_cases h : i < j + 2
      · exact h
      · exact absurd hi (htw _ (inv.set hr' (by omega)) (j + 1) (by omega) hun2 i (by omega))
    have hij : i = j + 1 := by
      have h1 := (mem_ready.1 hi).1
      by_cases h : i < j
      · have h2 := getD_set_in (i := j) (hin i h)
        rw [h1] at h2; cases h2
      · by_cases hij : i = j
        · subst hij; simp at h1
        · omega
    subst hij
    obtain ⟨v1, v2, v3⟩ := h b
    exact ⟨hin2, fun _ => ⟨v1, v2, hB', v3⟩, fun h => absurd rfl h⟩
  | o :: l, m, listed, a, hl, hm, inv, hin, hB, h => by
    have h0 : ops[m]? = some o := by simpa using (hl 0 (by simp)).symm
    rw [List.length_cons] at hB
    have e2 : l.length + 1 + 2 = (l.length + 2) + 1 := by omega
    rw [e2] at hB
    unfold Region.lexHead at hB
    simp only [Bool.and_eq_true] at hB
    obtain ⟨⟨hr, hf⟩, hB'⟩ := hB
    have hmk : m < k := by simp only [List.length_cons] at hm; omega
    have hr' : m ∈ Region.ready md ops listed := by simpa using hr
    have hst : eOp P ops w m (wpQuietE P ops w (fun a' => ∀ b, (a'.put oa.dst (ptrTo b)).eval src = V ∧ (a'.put oa.dst (ptrTo b)).eval dst = ptrTo b ∧ Lq b (a'.put oa.dst (ptrTo b))) l) a := by unfold eOp; simp only [h0]; exact h
    obtain ⟨v, hy, hK⟩ := yieldsE_of h0 hst
    have hl' : ∀ j, j < l.length → l[j]? = ops[m + 1 + j]? := fun j hj => by have := hl (j + 1) (by simp; omega); simpa [Nat.add_assoc, Nat.add_comm 1 j] using this
    have hm' : m + 1 + l.length = k := by simp only [List.length_cons] at hm; omega
    have hin' : ∀ j, j < m + 1 → (listed.setIfInBounds m true).getD j true = true := by
      intro j hj
      by_cases hjm : j = m
      · subst hjm; simp
      · exact getD_set_in (hin j (by omega))
    rw [List.length_cons, e2]
    exact boxPre_first h0 hka hos (by omega) (by omega) hlook hlook' (Region.noSelect_spec hsel) htw (by omega) (fun b listed' a' hL => seqB_ready hL.1) (l.length + 2) listed a inv (Region.free_spec h0 hf) hr' hy
      (box_lex hka hos hlook hlook' hwait hsel htw l (m + 1) _ _ hl' hm' (inv.set hr' (by omega)) hin' hB' hK)

/-- The order of the region's head is free but for what binds; its tail (perhaps nothing) is forced. -/
def boxB (ops : Array Oper) (k : Nat) : Bool :=
  Region.noSelect ops && (decide (k + 2 = ops.size) || (decide (k + 2 < ops.size) && Region.sinkB .any ops (k + 2) && Region.chainB .any ops (k + 2))) && Region.waitsFor .any ops (k + 1) k && Region.lexHead .any ops (ops.size - (k + 2)) (k + 2) 0 (Array.replicate ops.size false)

/-- The region whole: the operations ahead of number k are quiet, number k makes the new variable, number k + 1 stores what src holds into it, the rest is forced. -/
theorem wp_region_box {id : Nat} {Q : Exit → Act → World → Prop} {a : Act} {l : List Oper} {oa os : Oper} {src dst : Operand} {V : Value} {ty : TypeId} (k : Nat) (O : Obj) (st : World → Nat → World) (hm : P.follows .mixedOrders = true) (hB : boxB l.toArray k = true)
    (hka : l[k]? = some oa) (hguard : oa.guard = none) (halloc : ∀ (a : Act) (x : World), (execOp a.eval oa).run P x = .ok (.value (ptrTo x.heap.size)) (x.alloc O))
    (hos : l[k + 1]? = some os) (hguard' : os.guard = none) (hdst : os.dst = none) (hop : os.op = .store ty dst src)
    (hst : ∀ (ev : Operand → Value) (g0 : Grow w) (g1 : Grow (g0.fin.alloc O)), ev src = V → ev dst = ptrTo g0.fin.heap.size → (execOp ev os).run P g1.fin = .ok .skip (st g1.fin g0.fin.heap.size))
    (hext : ∀ (g0 : Grow w) (g1 : Grow (g0.fin.alloc O)), Ext w (st g1.fin g0.fin.heap.size))
    (h : wpQuietE P l.toArray w (fun a' => ∀ b, (a'.put oa.dst (ptrTo b)).eval src = V ∧ (a'.put oa.dst (ptrTo b)).eval dst = ptrTo b ∧ ∀ (g0 : Grow w) (g1 : Grow (g0.fin.alloc O)) (g : Grow (st g1.fin g0.fin.heap.size)), g0.fin.heap.size = b → wpList P l.toArray Q (l.drop (k + 2)) (a'.put oa.dst (ptrTo b)) g.fin) (l.take k) a) : (Code.region id l.toArray true).wp P Q a w := by
  simp only [boxB, Bool.and_eq_true, Bool.or_eq_true, decide_eq_true_eq] at hB
  obtain ⟨⟨⟨hsel, hn⟩, hwait⟩, hlex⟩ := hB
  have hn' : k + 2 ≤ l.length := by
    rcases hn with h | h
    · simp at h; omega
    · have := h.1.1; simp at this; omega
  have htw : TailWaits .any l.toArray (k + 2) := by
    intro listed inv i hi hun j hj hjr
    rcases hn with h | h
    · obtain ⟨_, oj, hoj, _⟩ := mem_ready.1 hjr
      have : j < l.toArray.size := by
        by_cases hlt : j < l.toArray.size
        · exact hlt
        · rw [Array.getElem?_eq_none (by omega)] at hoj; cases hoj
      omega
    · exact tail_waits h.1.2 h.2 h.1.1 inv _ i rfl hi hun j hj hjr
  have htl : (l.take k).length = k := by simp; omega
  have hdl : (l.drop (k + 2)).length = l.toArray.size - (k + 2) := by simp
  have inv0 : HeadInv .any l.toArray (k + 2) (Array.replicate l.toArray.size false) :=
    ⟨by simp, fun j oj _ hl => (by rw [getD_replicate_false] at hl; cases hl), fun t _ ht => getD_in (by simpa using ht) (getD_replicate_false _ _)⟩
  have hcells : ∀ j, j < (l.take k).length → (l.take k)[j]? = l.toArray[0 + j]? := fun j hj => by
    have hj' : j < k := by rw [htl] at hj; exact hj
    simp [hj']
  have hka' : l.toArray[k]? = some oa := by simpa using hka
  have hos' : l.toArray[k + 1]? = some os := by simpa using hos
  obtain ⟨oj, hoj, hwait'⟩ := Region.waitsFor_spec hwait
  rw [hos'] at hoj
  obtain rfl := Option.some.inj hoj
  have hlook : ∀ d, src = .tmp d → d ∈ os.looksAt l.toArray := by
    intro d hd
    subst hd
    exact List.mem_append_left _ (List.mem_filterMap.2 ⟨.tmp d, by simp [hop, Op.operands], rfl⟩)
  have hlook' : ∀ d, dst = .tmp d → d ∈ os.looksAt l.toArray := by
    intro d hd
    subst hd
    exact List.mem_append_left _ (List.mem_filterMap.2 ⟨.tmp d, by simp [hop, Op.operands], rfl⟩)
  have H := box_lex (md := .any) (g := l.toArray.size - (k + 2)) (w := w) (V := V) (Lq := fun (b : Nat) (a2 : Act) => ∀ (g0 : Grow w) (g1 : Grow (g0.fin.alloc O)) (g : Grow (st g1.fin g0.fin.heap.size)), g0.fin.heap.size = b → wpList P l.toArray Q (l.drop (k + 2)) a2 g.fin) hka' hos' hlook hlook' hwait' hsel htw (l.take k) 0 _ a hcells (by simpa using htl) inv0 (fun j hj => by omega) (by rw [htl]; exact hlex) h
  refine wp_region_any hm ?_
  have hC : Ext w ({ w with drawn := w.drawn + 1 } : World) := (Ext.refl w).drew
  have := any_of_boxPre (Q' := Q) (O := O) (g := l.toArray.size - (k + 2)) hka' hguard halloc hos' hguard' hdst hst hext (fun g0 g1 g2 listed a' hL => by
    have := wpAny_of_seq (md := .any) (Q' := Q) (l.drop (k + 2)) (k + 2) listed a' g2.fin (fun j => by simp [List.getElem?_drop]) (by rw [hdl]; exact hL.1) (hL.2 g0 g1 g2 rfl)
    rwa [hdl] at this) _ _ _ _ hC H
  rw [htl, show k + 2 + (l.toArray.size - (k + 2)) = l.toArray.size by omega] at this
  exact this

theorem growE_of {P : Program} {f : FuncId} {args : Array Value} {w : World} {v : Value}
    (h : Calls P f args w fun e w' => e = .returned v ∧ Ext w w') : Calls P f args w fun e w'' => e = .returned v ∧ ∃ g' : Grow w, w'' = g'.fin :=
  h.mono fun _ _ ⟨he, hx⟩ => ⟨he, hx.grow⟩
end
end Go.Proofs.YthcomgnokkndgaaDoor
