/- A region that draws its order: reads and calls in whatever order, and some operations that make or write memory, each of which comes up alone when its turn is; behind them a forced tail, or nothing. -/
import Derived.Test.YthcomgnokkndgaaDoorBox
namespace Go.Proofs.YthcomgnokkndgaaDoor
open Go.RowKit

section
variable {P : Program} {ops : Array Oper} {md : Region.Mode} {w : World}

/-- What an operation yields and leaves. -/
def opMakes (P : Program) (o : Oper) (a : Act) (x : World) (R : Value → World → Prop) : Prop :=
  match (execOp a.eval o).run P x with
  | .ok (.value v) x' => R v x'
  | .ok .skip x' => R undef x'
  | .ok (.enter f args) x' => Calls P f args x' fun e x'' => ∃ v, e = .returned v ∧ R v x''
  | _ => False
attribute [go_sem] opMakes
theorem opMakes_mono {o : Oper} {a : Act} {x : World} {R R' : Value → World → Prop} (h : opMakes P o a x R) (hr : ∀ v y, R v y → R' v y) : opMakes P o a x R' := by
  unfold opMakes at *
  split at h <;> first | exact hr _ _ h | exact h.mono fun e y ⟨v, he, hv⟩ => ⟨v, he, hr _ _ hv⟩ | exact h
theorem opMakes_wp {o : Oper} {a : Act} {x : World} {R : Value → World → Prop} {K : Act → World → Prop} {Q : Exit → Act → World → Prop} (h : opMakes P o a x R) (hk : ∀ v y, R v y → K (a.put o.dst v) y) : o.wp P a x K Q := by
  unfold opMakes at h
  unfold Oper.wp
  generalize (execOp a.eval o).run P x = r at *
  cases r with
  | ok n w' =>
    cases n <;> simp only [Oper.upon] at h ⊢
    case value u => exact hk _ _ h
    case skip => exact hk _ _ h
    case enter f args => exact h.mono fun e w'' ⟨v, he, hv⟩ => by subst he; exact hk _ _ hv
  | halt y w' => simp only at h
theorem opMakes_put {oi oj : Oper} (hap : oi.apart ops oj = true) (hsj : ∀ cs b, oj.op ≠ .select cs b) {a : Act} {x : World} {v : Value} {R : Value → World → Prop} (h : opMakes P oj (a.put oi.dst v) x R) : opMakes P oj a x R := by
  obtain ⟨h1, _, _⟩ := Oper.apart_spec hap
  unfold opMakes at *
  rwa [execOp_put oj hsj a oi.dst v h1] at h

/-- The makers that are left, in their order, and what holds of the world. -/
def mPre (P : Program) (md : Region.Mode) (ops : Array Oper) (w : World) (n : Nat) (L : (World → Prop) → Array Bool → Act → Prop) : Nat → List Nat → (World → Prop) → Array Bool → Act → Prop
  | 0, ms, C, listed, a => ms = [] ∧ L C listed a
  | f + 1, ms, C, listed, a => Region.ready md ops listed ≠ [] ∧ ∀ i ∈ Region.ready md ops listed, i < n ∧
      (∀ rest, ms = i :: rest → ∃ o, ops[i]? = some o ∧
        ((Region.wanted o (yielded ops a.tmps) = true ∧ ∃ (F : Value → Prop) (C' : Value → World → Prop), (∀ v x y, C' v x → Ext x y → C' v y) ∧ (∀ v x, C' v x → Ext w x) ∧ (∀ x, C x → opMakes P o a x fun v y => F v ∧ C' v y) ∧
            ∀ v, F v → mPre P md ops w n L f rest (C' v) (listed.setIfInBounds i true) (a.put o.dst v)) ∨
         (Region.wanted o (yielded ops a.tmps) = false ∧ mPre P md ops w n L f rest C (listed.setIfInBounds i true) (a.put o.dst undef)))) ∧
      ((∀ rest, ms ≠ i :: rest) → eOp P ops w i (mPre P md ops w n L f ms C (listed.setIfInBounds i true)) a)

theorem any_of_mPre {n g : Nat} {L : (World → Prop) → Array Bool → Act → Prop} {Q' : Exit → Act → World → Prop} (hL : ∀ C listed a x, L C listed a → C x → wpAny P md ops Q' g listed a x) :
    ∀ (f : Nat) (ms : List Nat) (C : World → Prop) (listed : Array Bool) (a : Act) (x : World), (∀ x y, C x → Ext x y → C y) → (∀ x, C x → Ext w x) → C x → mPre P md ops w n L f ms C listed a → wpAny P md ops Q' (f + g) listed a x
  | 0, ms, C, listed, a, x, _, _, hx, h => by rw [Nat.zero_add]; exact hL C listed a x h.2 hx
  | f + 1, ms, C, listed, a, x, hcl, hC, hx, h => by
    have e : f + 1 + g = (f + g) + 1 := by omega
    rw [e]
    refine ⟨fun h0 => absurd h0 h.1, fun i hi => ?_⟩
    obtain ⟨h1, h2, h3⟩ := h.2 i hi
    by_cases hms : ∃ rest, ms = i :: rest
    · obtain ⟨rest, hms⟩ := hms
      obtain ⟨o, ho, h4⟩ := h2 rest hms
      unfold wpOp
      simp only [ho]
      rcases h4 with ⟨hw, F, C', c1, c2, c3, c4⟩ | ⟨hw, h4⟩
      · simp only [hw, if_true]
        left
        exact opMakes_wp (c3 x hx) fun v y ⟨hF, hy⟩ => any_of_mPre hL f rest (C' v) _ _ y (c1 v) (c2 v) hy (c4 v hF)
      · simp only [hw, Bool.false_eq_true, if_false]
        exact any_of_mPre hL f rest C _ _ x hcl hC hx h4
    · exact wpOp_of_eOp (C := C) hcl hC hx (fun a' y hy h' => any_of_mPre hL f ms C _ a' y hcl hC hy h') (h3 fun rest e => hms ⟨rest, e⟩)

theorem mPre_first {n i : Nat} {oi : Oper} {v : Value} {L : (World → Prop) → Array Bool → Act → Prop} (hi : ops[i]? = some oi) (hsel : ∀ (j : Nat) (o : Oper) cs b, ops[j]? = some o → o.op ≠ .select cs b)
    (htw : TailWaits md ops n) (hin : i < n)
    (hdone : ∀ C listed a, L C listed a → ∀ j ∈ Region.ready md ops listed, n ≤ j) (f : Nat) :
    ∀ (ms : List Nat) (C : World → Prop) (listed : Array Bool) (a : Act), i ∉ ms → HeadInv md ops n listed →
      (∀ j oj, ops[j]? = some oj → j ≠ i → listed.getD j true = false → (∀ e ∈ oj.after, Region.binds md e = true → e.on ≠ i) → oi.apart ops oj = true) →
      i ∈ Region.ready md ops listed → YieldsE P ops w oi v a →
      mPre P md ops w n L f ms C (listed.setIfInBounds i true) (a.put oi.dst v) → mPre P md ops w n L (f + 1) ms C listed a := by
  induction f with
  | zero =>
    intro ms C listed a hnm inv hfree hr hy H
    have hun := (mem_ready.1 hr).1
    refine ⟨fun h => (by rw [h] at hr; cases hr), fun j hj => ?_⟩
    have hjn : j < n := by
      by_cases h : j < n
      · exact h
      · exact absurd hj (htw listed inv i hin hun j (by omega))
    refine ⟨hjn, fun rest e => ?_, fun _ => ?_⟩
    · have := H.1; rw [this] at e; cases e
    · by_cases hji : j = i
      · subst hji; exact hy.eOp hi H
      · have := hdone _ _ _ H.2 j (ready_mono hj hji)
        omega
  | succ f ih =>
    intro ms C listed a hnm inv hfree hr hy H
    have hun := (mem_ready.1 hr).1
    refine ⟨fun h => (by rw [h] at hr; cases hr), fun j hj => ?_⟩
    have hjn : j < n := by
      by_cases h : j < n
      · exact h
      · exact absurd hj (htw listed inv i hin hun j (by omega))
    have hnot : ∀ (oj : Oper), (∀ e ∈ oj.after, Region.binds md e = true → listed.getD e.on false = true) → ∀ e ∈ oj.after, Region.binds md e = true → e.on ≠ i := by
      intro oj hall e he hb heq
      have h1 := hall e he hb
      rw [heq, getD_both hun] at h1
      cases h1
    obtain ⟨hjun, oj, hoj, hall⟩ := mem_ready.1 hj
    have hfree' : ∀ k ok, ops[k]? = some ok → k ≠ i → (listed.setIfInBounds j true).getD k true = false → (∀ e ∈ ok.after, Region.binds md e = true → e.on ≠ i) → oi.apart ops ok = true := by
      intro k ok hk hki hun hno
      refine hfree k ok hk hki ?_ hno
      by_cases hjk : j = k
      · subst hjk; exact hjun
      · rw [getD_set_ne true hjk] at hun; exact hun
    refine ⟨hjn, fun rest e => ?_, fun hnh => ?_⟩
    · have hji : j ≠ i := fun e' => hnm (by rw [e, e']; exact List.mem_cons_self ..)
      have hnm' : i ∉ rest := fun h => hnm (by rw [e]; exact List.mem_cons_of_mem _ h)
      have hap := hfree j oj hoj hji hjun (hnot oj hall)
      obtain ⟨a1, a2, a3⟩ := Oper.apart_spec hap
      obtain ⟨o, ho, h4⟩ := (H.2 j (ready_mono hj hji)).2.1 rest e
      rw [hoj] at ho
      obtain rfl := Option.some.inj ho
      rw [wanted_put oj a oi.dst v a1] at h4
      refine ⟨oj, hoj, ?_⟩
      rcases h4 with ⟨hw, F, C', c1, c2, c3, c4⟩ | ⟨hw, h4⟩
      · refine .inl ⟨hw, F, C', c1, c2, fun x hx => opMakes_put hap (fun cs b => hsel j oj cs b hoj) (c3 x hx), fun u hu => ?_⟩
        refine ih rest (C' u) _ _ hnm' (inv.set hj hjn) hfree' (ready_mono hr (Ne.symm hji)) (hy.keep hap (fun cs b => hsel i oi cs b hi) u) ?_
        rw [Array.setIfInBounds_comm _ _ hji, ← Act.put_comm a v u a2]
        exact c4 u hu
      · refine .inr ⟨hw, ?_⟩
        refine ih rest C _ _ hnm' (inv.set hj hjn) hfree' (ready_mono hr (Ne.symm hji)) (hy.keep hap (fun cs b => hsel i oi cs b hi) undef) ?_
        rw [Array.setIfInBounds_comm _ _ hji, ← Act.put_comm a v undef a2]
        exact h4
    · by_cases hji : j = i
      · subst hji; exact hy.eOp hi H
      have h1 := (H.2 j (ready_mono hj hji)).2.2 hnh
      have h2 := eOp_put hoj (hfree j oj hoj hji hjun (hnot oj hall)) (fun cs b => hsel i oi cs b hi) (fun cs b => hsel j oj cs b hoj) hy h1
      refine eOp_mono (fun a' h3 => ih ms C (listed.setIfInBounds j true) a' hnm (inv.set hj hjn) hfree' (ready_mono hr (Ne.symm hji)) h3.1 ?_) h2
      rw [Array.setIfInBounds_comm _ _ hji]
      exact h3.2

/-- The operations in the order told; a maker is marked. -/
def pickOps (l : List Oper) : List (Nat × Bool) → List (Bool × Oper)
  | [] => []
  | (i, b) :: r => match l[i]? with | some o => (b, o) :: pickOps l r | none => pickOps l r
def wpMk (P : Program) (ops : Array Oper) (w : World) (Fin : (World → Prop) → Act → Prop) : List (Bool × Oper) → (World → Prop) → Act → Prop
  | [], C, a => Fin C a
  | (false, o) :: r, C, a => if Region.wanted o (yielded ops a.tmps) then Oper.quietE P o a w (wpMk P ops w Fin r C) else wpMk P ops w Fin r C (a.put o.dst undef)
  | (true, o) :: r, C, a => if Region.wanted o (yielded ops a.tmps) then ∃ (F : Value → Prop) (C' : Value → World → Prop), (∀ v x y, C' v x → Ext x y → C' v y) ∧ (∀ v x, C' v x → Ext w x) ∧ (∀ x, C x → opMakes P o a x fun v y => F v ∧ C' v y) ∧ ∀ v, F v → wpMk P ops w Fin r (C' v) (a.put o.dst v) else wpMk P ops w Fin r C (a.put o.dst undef)
theorem wpMk_nil {Fin : (World → Prop) → Act → Prop} {C : World → Prop} {a : Act} (h : Fin C a) : wpMk P ops w Fin [] C a := h
theorem wpMk_q {Fin : (World → Prop) → Act → Prop} {C : World → Prop} {a : Act} {o : Oper} {r : List (Bool × Oper)}
    (h : ∀ K : Act → Prop, (∀ a, wpMk P ops w Fin r C a → K a) → if Region.wanted o (yielded ops a.tmps) then Oper.quietE P o a w K else K (a.put o.dst undef)) : wpMk P ops w Fin ((false, o) :: r) C a :=
  h _ (fun _ h => h)
theorem wpMk_m {Fin : (World → Prop) → Act → Prop} {C : World → Prop} {a : Act} {o : Oper} {r : List (Bool × Oper)} (hw : Region.wanted o (yielded ops a.tmps) = true) (F : Value → Prop) (C' : Value → World → Prop)
    (h1 : ∀ v x y, C' v x → Ext x y → C' v y) (h2 : ∀ v x, C' v x → Ext w x) (h3 : ∀ x, C x → opMakes P o a x fun v y => F v ∧ C' v y) (h4 : ∀ v, F v → ∀ K : Act → Prop, (∀ a, wpMk P ops w Fin r (C' v) a → K a) → K (a.put o.dst v)) : wpMk P ops w Fin ((true, o) :: r) C a := by
  simp only [wpMk, hw, if_true]
  exact ⟨F, C', h1, h2, h3, fun v hv => h4 v hv _ fun _ h => h⟩
theorem wpMk_no {Fin : (World → Prop) → Act → Prop} {C : World → Prop} {a : Act} {o : Oper} {r : List (Bool × Oper)} (hw : Region.wanted o (yielded ops a.tmps) = false) (h4 : ∀ K : Act → Prop, (∀ a, wpMk P ops w Fin r C a → K a) → K (a.put o.dst undef)) : wpMk P ops w Fin ((true, o) :: r) C a := by
  simp only [wpMk, hw, Bool.false_eq_true, if_false]
  exact h4 _ fun _ h => h
/-- The same, shut: a goal that nothing unfolds. -/
structure MkS (P : Program) (ops : Array Oper) (w : World) (Fin : (World → Prop) → Act → Prop) (l : List (Bool × Oper)) (C : World → Prop) (a : Act) : Prop where
  out : wpMk P ops w Fin l C a
theorem mks_nil {Fin : (World → Prop) → Act → Prop} {C : World → Prop} {a : Act} (h : Fin C a) : MkS P ops w Fin [] C a := ⟨h⟩
theorem mks_q {Fin : (World → Prop) → Act → Prop} {C : World → Prop} {a : Act} {o : Oper} {r : List (Bool × Oper)}
    (h : ∀ K : Act → Prop, (∀ a, MkS P ops w Fin r C a → K a) → if Region.wanted o (yielded ops a.tmps) then Oper.quietE P o a w K else K (a.put o.dst undef)) : MkS P ops w Fin ((false, o) :: r) C a :=
  ⟨wpMk_q fun K hK => h K fun a h' => hK a h'.out⟩
theorem mks_m {Fin : (World → Prop) → Act → Prop} {C : World → Prop} {a : Act} {o : Oper} {r : List (Bool × Oper)} (hw : Region.wanted o (yielded ops a.tmps) = true) (F : Value → Prop) (C' : Value → World → Prop)
    (h1 : ∀ v x y, C' v x → Ext x y → C' v y) (h2 : ∀ v x, C' v x → Ext w x) (h3 : ∀ x, C x → opMakes P o a x fun v y => F v ∧ C' v y) (h4 : ∀ v, F v → ∀ K : Act → Prop, (∀ a, MkS P ops w Fin r (C' v) a → K a) → K (a.put o.dst v)) : MkS P ops w Fin ((true, o) :: r) C a :=
  ⟨wpMk_m hw F C' h1 h2 h3 fun v hv K hK => h4 v hv K fun a h' => hK a h'.out⟩
theorem mks_no {Fin : (World → Prop) → Act → Prop} {C : World → Prop} {a : Act} {o : Oper} {r : List (Bool × Oper)} (hw : Region.wanted o (yielded ops a.tmps) = false) (h4 : ∀ K : Act → Prop, (∀ a, MkS P ops w Fin r C a → K a) → K (a.put o.dst undef)) : MkS P ops w Fin ((true, o) :: r) C a :=
  ⟨wpMk_no hw fun K hK => h4 K fun a h' => hK a h'.out⟩

def makersOf (ord : List (Nat × Bool)) : List Nat := (ord.filter Prod.snd).map Prod.fst
/-- The order told is one of the region's, and what it passes over is free of it. -/
def ordB (md : Region.Mode) (ops : Array Oper) (n g : Nat) : List (Nat × Bool) → Array Bool → Bool
  | [], listed => Region.seqB md ops g n listed
  | (i, false) :: r, listed => (Region.ready md ops listed).contains i && Region.free md ops listed i && decide (i < n) && decide (i ∉ makersOf r) && ordB md ops n g r (listed.setIfInBounds i true)
  | (i, true) :: r, listed => decide (Region.ready md ops listed = [i]) && decide (i < n) && ordB md ops n g r (listed.setIfInBounds i true)
def mkB (ops : Array Oper) (n : Nat) (ord : List (Nat × Bool)) : Bool :=
  Region.noSelect ops && (decide (n = ops.size) || (decide (n < ops.size) && Region.sinkB .any ops n && Region.chainB .any ops n)) && decide (ord.length = n) && ordB .any ops n (ops.size - n) ord (Array.replicate ops.size false)

theorem mk_lex {n g : Nat} {Fin : (World → Prop) → Act → Prop} (hsel : Region.noSelect ops = true) (htw : TailWaits md ops n) :
    ∀ (ord : List (Nat × Bool)) (C : World → Prop) (listed : Array Bool) (a : Act) (l : List Oper), l.toArray = ops → HeadInv md ops n listed → ordB md ops n g ord listed = true → wpMk P ops w Fin (pickOps l ord) C a →
    mPre P md ops w n (fun C' listed' a' => Region.seqB md ops g n listed' = true ∧ Fin C' a') ord.length (makersOf ord) C listed a
  | [], C, listed, a, l, hl, inv, hB, h => ⟨rfl, by simpa [ordB] using hB, h⟩
  | (i, false) :: r, C, listed, a, l, hl, inv, hB, h => by
    simp only [ordB, Bool.and_eq_true, decide_eq_true_eq] at hB
    obtain ⟨⟨⟨⟨hr, hf⟩, hin⟩, hnm⟩, hB'⟩ := hB
    have hr' : i ∈ Region.ready md ops listed := by simpa using hr
    obtain ⟨_, oi, hoi, _⟩ := mem_ready.1 hr'
    have hoi' : l[i]? = some oi := by rw [← hl] at hoi; simpa using hoi
    simp only [pickOps, hoi'] at h
    have hst : eOp P ops w i (wpMk P ops w Fin (pickOps l r) C) a := by unfold eOp; simp only [hoi]; exact h
    obtain ⟨v, hy, hK⟩ := yieldsE_of hoi hst
    have hms : makersOf ((i, false) :: r) = makersOf r := by simp [makersOf]
    rw [hms]
    exact mPre_first hoi (Region.noSelect_spec hsel) htw hin (fun C listed' a' hL => seqB_ready hL.1) r.length (makersOf r) C listed a hnm inv (Region.free_spec hoi hf) hr' hy
      (mk_lex hsel htw r C _ _ l hl (inv.set hr' hin) hB' hK)
  | (i, true) :: r, C, listed, a, l, hl, inv, hB, h => by
    simp only [ordB, Bool.and_eq_true, decide_eq_true_eq] at hB
    obtain ⟨⟨hr, hin⟩, hB'⟩ := hB
    have hr' : i ∈ Region.ready md ops listed := by rw [hr]; exact List.mem_singleton.2 rfl
    obtain ⟨_, oi, hoi, _⟩ := mem_ready.1 hr'
    have hoi' : l[i]? = some oi := by rw [← hl] at hoi; simpa using hoi
    simp only [pickOps, hoi', wpMk] at h
    have hms : makersOf ((i, true) :: r) = i :: makersOf r := by simp [makersOf]
    rw [hms]
    refine ⟨fun h => (by rw [h] at hr'; cases hr'), fun j hj => ?_⟩
    have hji : j = i := by rw [hr] at hj; exact List.mem_singleton.1 hj
    subst hji
    refine ⟨hin, fun rest e => ?_, fun hne => absurd rfl (hne _)⟩
    have : rest = makersOf r := by injection e with _ e; exact e.symm
    subst this
    refine ⟨oi, hoi, ?_⟩
    by_cases hw : Region.wanted oi (yielded ops a.tmps) = true
    · simp only [hw, if_true] at h
      obtain ⟨F, C', c1, c2, c3, c4⟩ := h
      exact .inl ⟨hw, F, C', c1, c2, c3, fun v hv => mk_lex hsel htw r (C' v) _ _ l hl (inv.set hr' hin) hB' (c4 v hv)⟩
    · simp only [hw] at h
      exact .inr ⟨by simpa using hw, mk_lex hsel htw r C _ _ l hl (inv.set hr' hin) hB' h⟩

/-- The region whole. -/
theorem wp_region_mk {id : Nat} {Q : Exit → Act → World → Prop} {a : Act} {l : List Oper} (n : Nat) (ord : List (Nat × Bool)) (hm : P.follows .mixedOrders = true) (hB : mkB l.toArray n ord = true)
    (h : MkS P l.toArray w (fun C a' => ∀ x, C x → wpList P l.toArray Q (l.drop n) a' x) (pickOps l ord) (fun x => Ext w x) a) : (Code.region id l.toArray true).wp P Q a w := by
  simp only [mkB, Bool.and_eq_true, decide_eq_true_eq, Bool.or_eq_true] at hB
  obtain ⟨⟨⟨hsel, hn⟩, hlen⟩, hord⟩ := hB
  have htw : TailWaits .any l.toArray n := by
    intro listed inv i hi hun j hj hjr
    rcases hn with hn | ⟨⟨hn, hs⟩, hc⟩
    · obtain ⟨_, oj, hoj, _⟩ := mem_ready.1 hjr
      have := (Array.getElem?_eq_some_iff.1 hoj).1
      omega
    · exact tail_waits hs hc hn inv _ i rfl hi hun j hj hjr
  have hns : n ≤ l.toArray.size := by
    rcases hn with hn | ⟨⟨hn, _⟩, _⟩
    · exact Nat.le_of_eq hn
    · exact Nat.le_of_lt hn
  have hdl : (l.drop n).length = l.toArray.size - n := by simp
  have inv0 : HeadInv .any l.toArray n (Array.replicate l.toArray.size false) :=
    ⟨by simp, fun j oj _ hl => (by rw [getD_replicate_false] at hl; cases hl), fun t _ ht => getD_in (by simpa using ht) (getD_replicate_false _ _)⟩
  have H := mk_lex (md := .any) (g := l.toArray.size - n) (w := w) hsel htw ord (fun x => Ext w x) _ a l rfl inv0 hord h.out
  refine wp_region_any hm ?_
  have hC : Ext w ({ w with drawn := w.drawn + 1 } : World) := (Ext.refl w).drew
  have := any_of_mPre (Q' := Q) (g := l.toArray.size - n) (fun C listed a' x hL hx => by
    have := wpAny_of_seq (md := .any) (Q' := Q) (l.drop n) n listed a' x (fun j => by simp [List.getElem?_drop]) (by rw [hdl]; exact hL.1) (hL.2 x hx)
    rwa [hdl] at this) _ _ _ _ _ _ (fun x y h k => h.trans k) (fun x h => h) hC H
  rw [hlen, show n + (l.toArray.size - n) = l.toArray.size by omega] at this
  exact this
end
end Go.Proofs.YthcomgnokkndgaaDoor
