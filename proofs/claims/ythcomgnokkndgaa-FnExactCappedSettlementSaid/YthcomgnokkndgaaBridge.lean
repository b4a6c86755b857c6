/- The program's way to a settlement with a limit against the reference's: what is told of some ballots is room taken away, in plain Lean. -/
import Derived.Test.YthcomgnokkndgaaCappedP
namespace Go.Proofs.Ythcomgnokkndgaa

def emod (E : List (List Int)) (Td : List Int) : List (List Int) := (List.range E.length).map fun j => if FnF Td j = -2 then E.getD j [] else []
def roomF (sp : Int → Bool) (n : Nat) (Td : List Int) (lim : Int) : Int → Int := fun e => if sp e = true then lim - cnt n (FnF Td) e else 0
def toldN (n : Nat) (Td : List Int) : Nat := ct n fun j => decide (0 ≤ FnF Td j)
theorem emod_length (E : List (List Int)) (Td : List Int) : (emod E Td).length = E.length := by simp [emod]
theorem emod_at {E : List (List Int)} {Td : List Int} {i : Nat} (h : i < E.length) : (emod E Td).getD i [] = if FnF Td i = -2 then E.getD i [] else [] := by simp [emod, h]
section
variable {n : Nat} {E : List (List Int)} {Td Td0 : List Int} {lim : Int} {sp : Int → Bool}

theorem cnt_mix (Td : List Int) {f g : Nat → Int} {e : Int} (he : 0 ≤ e) (h1 : ∀ j, j < n → FnF Td j = -2 → g j = f j) (h2 : ∀ j, j < n → FnF Td j ≠ -2 → g j = FnF Td j) (h3 : ∀ j, j < n → FnF Td j ≠ -2 → f j = -1) : cnt n g e = cnt n f e + cnt n (FnF Td) e := by
  unfold cnt
  rw [ct_split (fun i => decide (g i = e)) (fun i => decide (FnF Td i = -2))]
  congr 1
  · refine ct_congr fun i hi => ?_
    by_cases h : FnF Td i = -2
    · rw [h1 i hi h]; simp [h]
    · rw [h3 i hi h]
      have : ¬ (-1 : Int) = e := by omega
      simp [h, this]
  · refine ct_congr fun i hi => ?_
    by_cases h : FnF Td i = -2
    · have : ¬ FnF Td i = e := by omega
      simp [h]; omega
    · rw [h2 i hi h]; simp [h]
theorem sz_mix (K : TdOk n E Td) {f g : Nat → Int} (h1 : ∀ j, j < n → FnF Td j = -2 → g j = f j) (h2 : ∀ j, j < n → FnF Td j ≠ -2 → g j = FnF Td j) (h3 : ∀ j, j < n → FnF Td j ≠ -2 → f j = -1) : sz n g = sz n f + toldN n Td := by
  unfold sz toldN
  rw [ct_split (fun i => decide (g i ≠ -1)) (fun i => decide (FnF Td i = -2))]
  congr 1
  · refine ct_congr fun i hi => ?_
    by_cases h : FnF Td i = -2
    · rw [h1 i hi h]; simp [h]
    · rw [h3 i hi h]; simp [h]
  · refine ct_congr fun i hi => ?_
    by_cases h : FnF Td i = -2
    · simp [h]
    · rw [h2 i hi h]
      have := K.at hi
      by_cases h0 : 0 ≤ FnF Td i
      · have : ¬ FnF Td i = -1 := by omega
        simp [h0, this, h]
      · have : FnF Td i = -1 := by omega
        simp [h, this]
theorem bridge (K : TdOk n E Td) (hsp : ∀ i, i < n → ∀ e, e ∈ E.getD i [] → sp e = true) (ho : ¬ Over n Td lim) {v : Nat} (hv : IsMax n (fun i => (emod E Td).getD i []) (roomF sp n Td lim) v) : MaxT n E Td lim (v + toldN n Td) := by
  have hel := K.el
  have hcap : ∀ e, 0 ≤ e → (cnt n (FnF Td) e : Int) ≤ lim := fun e he => Int.not_lt.1 fun hh => ho ⟨e, he, hh⟩
  obtain ⟨⟨f, hf, rfl⟩, hmax⟩ := hv
  have hf3 : ∀ j, j < n → FnF Td j ≠ -2 → f j = -1 := fun j hj h => by
    rcases hf.ok j hj with a | a
    · exact a
    · rw [emod_at (by omega), if_neg h] at a; cases a
  refine ⟨⟨fun j => if FnF Td j = -2 then f j else FnF Td j, ⟨fun i _ h => if_neg h, fun i hi h => ?_, fun e he => ?_⟩, ?_⟩, fun g hg => ?_⟩
  · rw [if_pos h]
    have := hf.ok i hi
    rw [emod_at (by omega), if_pos h] at this
    exact this
  · rw [cnt_mix Td he (f := f) (fun j _ h => if_pos h) (fun j _ h => if_neg h) hf3]
    have a := hf.room e he
    unfold roomF at a
    split at a
    · omega
    · have := hcap e he; omega
  · exact sz_mix K (fun j _ h => if_pos h) (fun j _ h => if_neg h) hf3
  · have k1 : ∀ j, j < n → FnF Td j = -2 → g j = (fun j => if FnF Td j = -2 then g j else -1) j := fun j _ h => (if_pos h).symm
    have k3 : ∀ j, j < n → FnF Td j ≠ -2 → (fun j => if FnF Td j = -2 then g j else -1) j = -1 := fun j _ h => if_neg h
    rw [sz_mix K k1 hg.told k3]
    refine Nat.add_le_add_right (hmax _ ⟨fun i hi => ?_, fun e he => ?_⟩) _
    · by_cases h : FnF Td i = -2
      · show (if FnF Td i = -2 then g i else -1) = -1 ∨ _
        rw [if_pos h, emod_at (by omega), if_pos h]
        exact hg.free i hi h
      · exact .inl (if_neg h)
    · have a := cnt_mix Td he k1 hg.told k3
      have b := hg.room e he
      unfold roomF
      split
      · omega
      · rename_i hse
        have : cnt n (fun j => if FnF Td j = -2 then g j else -1) e = 0 := ct_none fun i hi => decide_eq_false fun q0 => by
          have q : (if FnF Td i = -2 then g i else -1) = e := q0
          by_cases h : FnF Td i = -2
          · rw [if_pos h] at q
            rcases hg.free i hi h with z | z
            · omega
            · rw [q] at z; exact hse (hsp i hi e z)
          · rw [if_neg h] at q; omega
        rw [this]; exact Int.le_refl _

/-- What is told later leaves what was told first. -/
def Refi (n : Nat) (E : List (List Int)) (Td0 Td : List Int) : Prop := ∀ j, j < n → (FnF Td0 j ≠ -2 → FnF Td j = FnF Td0 j) ∧ (FnF Td0 j = -2 → FnF Td j = -2 ∨ FnF Td j = -1 ∨ FnF Td j ∈ E.getD j [])
theorem Refi.refl : Refi n E Td Td := fun _ _ => ⟨fun _ => rfl, fun h => .inl h⟩
theorem Refi.feas (h : Refi n E Td0 Td) {g : Nat → Int} (k : FeasT n E Td lim g) : FeasT n E Td0 lim g :=
  ⟨fun i hi hne => by
    have e := (h i hi).1 hne
    rw [← e]; exact k.told i hi (by rw [e]; exact hne), fun i hi he => by
    rcases (h i hi).2 he with a | a | a
    · exact k.free i hi a
    · left; rw [k.told i hi (by omega), a]
    · by_cases h2 : FnF Td i = -2
      · exact k.free i hi h2
      · right; rw [k.told i hi h2]; exact a, k.room⟩
theorem Refi.max_le (h : Refi n E Td0 Td) {u v : Nat} (k : MaxT n E Td lim u) (k0 : MaxT n E Td0 lim v) : u ≤ v := by
  obtain ⟨⟨g, hg, rfl⟩, -⟩ := k
  exact k0.2 g (h.feas hg)
theorem Refi.set (h : Refi n E Td0 Td) {i : Nat} {e : Int} (hi : i < Td.length) (h0 : FnF Td0 i = -2) (he : e = -1 ∨ e ∈ E.getD i []) : Refi n E Td0 (Td.set i e) := fun j hj => by
  rw [FnF_set _ hi]
  by_cases hji : j = i
  · subst hji
    rw [upd_same]
    exact ⟨fun q => absurd h0 q, fun _ => .inr he⟩
  · rw [upd_other _ hji]; exact h j hj
theorem cnt_set {i : Nat} {e : Int} (hi : i < n) (hl : i < Td.length) (ht : FnF Td i = -2) {x : Int} (hx : 0 ≤ x) : cnt n (FnF (Td.set i e)) x = cnt n (FnF Td) x + if e = x then 1 else 0 := by
  rw [FnF_set _ hl]
  have := cnt_upd (FnF Td) e x hi
  rw [if_neg (by omega)] at this
  exact this
theorem told_set {i : Nat} {e : Int} (hi : i < n) (hl : i < Td.length) (ht : FnF Td i = -2) : toldN n (Td.set i e) = toldN n Td + if 0 ≤ e then 1 else 0 := by
  unfold toldN
  rw [FnF_set _ hl]
  have := ct_upd (p := fun j => decide (0 ≤ FnF Td j)) (q := fun j => decide (0 ≤ upd (FnF Td) i e j)) hi fun j _ hj => by rw [upd_other _ hj]
  rw [upd_same, ht] at this
  simpa using this
theorem over_set {i : Nat} {e : Int} (hi : i < n) (hl : i < Td.length) (ht : FnF Td i = -2) (ho : ¬ Over n Td lim) (he : 0 ≤ e) : Over n (Td.set i e) lim ↔ lim ≤ cnt n (FnF Td) e := by
  have hcap : ∀ e, 0 ≤ e → (cnt n (FnF Td) e : Int) ≤ lim := fun e he => Int.not_lt.1 fun hh => ho ⟨e, he, hh⟩
  constructor
  · rintro ⟨x, hx, hlt⟩
    rw [cnt_set hi hl ht hx] at hlt
    have := hcap x hx
    by_cases hex : e = x
    · subst hex; rw [if_pos rfl] at hlt; omega
    · rw [if_neg hex] at hlt; omega
  · intro h
    exact ⟨e, he, by rw [cnt_set hi hl ht he, if_pos rfl]; omega⟩
theorem over_none {i : Nat} (hi : i < n) (hl : i < Td.length) (ht : FnF Td i = -2) (ho : ¬ Over n Td lim) : ¬ Over n (Td.set i (-1)) lim := by
  rintro ⟨x, hx, hlt⟩
  rw [cnt_set hi hl ht hx, if_neg (by omega)] at hlt
  exact ho ⟨x, hx, hlt⟩
theorem room_set {i : Nat} {e : Int} (hi : i < n) (hl : i < Td.length) (ht : FnF Td i = -2) (he : 0 ≤ e) (hse : sp e = true) (hs0 : ∀ x, sp x = true → 0 ≤ x) : roomF sp n (Td.set i e) lim = fun x => if x = e then roomF sp n Td lim e - 1 else roomF sp n Td lim x := by
  funext x
  by_cases hxe : x = e
  · subst hxe
    rw [if_pos rfl]
    unfold roomF
    rw [if_pos hse, if_pos hse, cnt_set hi hl ht he, if_pos rfl]; omega
  · rw [if_neg hxe]
    unfold roomF
    by_cases hx : 0 ≤ x
    · have h9 : ¬ e = x := fun q => hxe q.symm
      rw [cnt_set hi hl ht hx]; simp [h9]
    · have : ¬ sp x = true := fun q => hx (hs0 x q)
      rw [if_neg this, if_neg this]
theorem room_none {i : Nat} (hi : i < n) (hl : i < Td.length) (ht : FnF Td i = -2) (hs0 : ∀ x, sp x = true → 0 ≤ x) : roomF sp n (Td.set i (-1)) lim = roomF sp n Td lim := by
  funext x
  unfold roomF
  split
  · rename_i h
    have h9 : ¬ (-1 : Int) = x := by have := hs0 x h; omega
    rw [cnt_set hi hl ht (hs0 x h), if_neg h9]; rfl
  · rfl
theorem emod_set {i : Nat} {e : Int} (hl : i < Td.length) (he : e ≠ -2) : emod E (Td.set i e) = (emod E Td).set i [] := by
  refine List.ext_getElem (by simp [emod_length]) fun j h1 h2 => ?_
  rw [List.getElem_set]
  simp only [emod, List.getElem_map, List.getElem_range]
  rw [FnF_set _ hl]
  by_cases hji : j = i
  · subst hji; rw [upd_same, if_neg he, if_pos rfl]
  · have h9 : ¬ i = j := fun q => hji q.symm
    rw [upd_other _ hji]; simp [h9]
end
end Go.Proofs.Ythcomgnokkndgaa
