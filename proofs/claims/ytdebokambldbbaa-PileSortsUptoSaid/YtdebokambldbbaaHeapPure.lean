/- A heap in a list: the two ways of mending, what they keep, what lies on top. Plain Lean, no program in sight. -/
namespace Go.Proofs.Ytdebokambldbbaa.Heap
set_option linter.unusedVariables false
set_option linter.unusedSectionVars false

section
variable {ε : Type} [Inhabited ε]
def nth (es : List ε) (k : Nat) : ε := es[k]?.getD default
theorem nth_eq {es : List ε} {k : Nat} (h : k < es.length) : nth es k = es[k] := by unfold nth; rw [List.getElem?_eq_getElem h]; rfl
theorem nth_mem {es : List ε} {k : Nat} (h : k < es.length) : nth es k ∈ es := by rw [nth_eq h]; exact List.getElem_mem h
def swp (es : List ε) (i j : Nat) : List ε := (es.set i (nth es j)).set j (nth es i)
theorem swp_len (es : List ε) (i j : Nat) : (swp es i j).length = es.length := by unfold swp; simp
theorem swp_nth {es : List ε} {i j : Nat} (hi : i < es.length) (hj : j < es.length) (k : Nat) : nth (swp es i j) k = if k = j then nth es i else if k = i then nth es j else nth es k := by
  unfold swp
  by_cases h1 : k = j
  · subst h1; rw [if_pos rfl]; unfold nth; rw [List.getElem?_set_self (by simpa using hj)]; rfl
  · rw [if_neg h1]
    unfold nth
    rw [List.getElem?_set_ne (fun e => h1 e.symm)]
    by_cases h2 : k = i
    · subst h2; rw [if_pos rfl, List.getElem?_set_self hi]; rfl
    · rw [if_neg h2, List.getElem?_set_ne (fun e => h2 e.symm)]
theorem swp_perm {es : List ε} {i j : Nat} (hi : i < es.length) (hj : j < es.length) : (swp es i j).Perm es := by
  have h := (Array.swap_perm (xs := es.toArray) (i := i) (j := j) (by simpa using hi) (by simpa using hj))
  have h2 := h.toList
  rw [Array.toList_swap] at h2
  unfold swp
  rw [nth_eq hi, nth_eq hj]
  simpa using h2

/-! ### mending -/
variable (ah : ε → ε → Bool)
def up (es : List ε) (i : Nat) : List ε :=
  if h : 0 < i then if ah (nth es i) (nth es ((i - 1) / 2)) then up (swp es i ((i - 1) / 2)) ((i - 1) / 2) else es else es
termination_by i
decreasing_by omega
def kid1 (es : List ε) (i : Nat) : Nat := if 2 * i + 1 < es.length ∧ ah (nth es (2 * i + 1)) (nth es i) = true then 2 * i + 1 else i
def kid2 (es : List ε) (i : Nat) : Nat := if 2 * i + 2 < es.length ∧ ah (nth es (2 * i + 2)) (nth es (kid1 ah es i)) = true then 2 * i + 2 else kid1 ah es i
theorem kid1_cases (es : List ε) (i : Nat) : kid1 ah es i = i ∨ (kid1 ah es i = 2 * i + 1 ∧ 2 * i + 1 < es.length) := by
  unfold kid1
  split
  · rename_i h; exact .inr ⟨rfl, h.1⟩
  · exact .inl rfl
theorem kid2_cases (es : List ε) (i : Nat) : kid2 ah es i = i ∨ (i < kid2 ah es i ∧ kid2 ah es i < es.length) := by
  have h1 := kid1_cases ah es i
  unfold kid2
  split
  · rename_i h; exact .inr ⟨by omega, h.1⟩
  · rcases h1 with h1 | ⟨h1, h2⟩
    · exact .inl h1
    · rw [h1]; exact .inr ⟨by omega, h2⟩
def down (es : List ε) (i : Nat) : List ε :=
  if h : kid2 ah es i = i then es else down (swp es i (kid2 ah es i)) (kid2 ah es i)
termination_by es.length - i
decreasing_by
  have := kid2_cases ah es i
  rw [swp_len]
  omega
variable {ah}
theorem up_len : ∀ (i : Nat) (es : List ε), (up ah es i).length = es.length := fun i => by
  induction i using Nat.strongRecOn with
  | ind i ih =>
    intro es
    rw [up]
    split
    · split
      · rw [ih _ (by omega), swp_len]
      · rfl
    · rfl
theorem up_perm : ∀ (i : Nat) (es : List ε), i < es.length → (up ah es i).Perm es := fun i => by
  induction i using Nat.strongRecOn with
  | ind i ih =>
    intro es hi
    rw [up]
    split
    · split
      · exact (ih _ (by omega) _ (by rw [swp_len]; omega)).trans (swp_perm hi (by omega))
      · exact .refl _
    · exact .refl _
theorem down_len (es : List ε) (i : Nat) : (down ah es i).length = es.length := by
  induction es, i using down.induct (ah := ah) with
  | case1 es i h => rw [down, dif_pos h]
  | case2 es i h ih => rw [down, dif_neg h, ih, swp_len]
theorem down_perm (es : List ε) (i : Nat) : (down ah es i).Perm es := by
  induction es, i using down.induct (ah := ah) with
  | case1 es i h => rw [down, dif_pos h]
  | case2 es i h ih =>
    rw [down, dif_neg h]
    have := kid2_cases ah es i
    exact ih.trans (swp_perm (by omega) (by omega))

/-! ### a right order -/
structure Ord (ah : ε → ε → Bool) (S : ε → Prop) : Prop where
  irr : ∀ a, S a → ah a a = false
  tot : ∀ a b, S a → S b → ah a b = false → ah b a = false → a = b
  tr : ∀ a b c, S a → S b → S c → ah a b = true → ah b c = true → ah a c = true
variable {S : ε → Prop}
theorem Ord.le_tr (o : Ord ah S) {a b c : ε} (ha : S a) (hb : S b) (hc : S c) (h1 : ah b a = false) (h2 : ah c b = false) : ah c a = false := by
  cases h3 : ah c a with
  | false => rfl
  | true =>
    cases h4 : ah a b with
    | false => have := o.tot a b ha hb h4 h1; subst this; rw [h2] at h3; cases h3
    | true => have := o.tr c a b hc ha hb h3 h4; rw [h2] at this; cases this
theorem Ord.asym (o : Ord ah S) {a b : ε} (ha : S a) (hb : S b) (h : ah a b = true) : ah b a = false := by
  cases h2 : ah b a with
  | false => rfl
  | true => have := o.tr a b a ha hb ha h h2; rw [o.irr a ha] at this; cases this

def Heap (ah : ε → ε → Bool) (es : List ε) : Prop := ∀ k, 0 < k → k < es.length → ah (nth es k) (nth es ((k - 1) / 2)) = false
/-- a heap but for i's place beneath the one above it -/
def HeapUp (ah : ε → ε → Bool) (es : List ε) (i : Nat) : Prop :=
  (∀ k, 0 < k → k < es.length → k ≠ i → ah (nth es k) (nth es ((k - 1) / 2)) = false) ∧
  (∀ k, 0 < k → k < es.length → (k - 1) / 2 = i → 0 < i → ah (nth es k) (nth es ((i - 1) / 2)) = false)
theorem up_heap : ∀ (i : Nat) (es : List ε), (∀ e ∈ es, S e) → Ord ah S → i < es.length → HeapUp ah es i → Heap ah (up ah es i) := fun i => by
  induction i using Nat.strongRecOn with
  | ind i ih =>
    intro es hS o hi ⟨h1, h2⟩
    have s : ∀ k, k < es.length → S (nth es k) := fun k hk => hS _ (nth_mem hk)
    rw [up]
    split
    · rename_i hpos
      split
      · rename_i ha
        have hp : (i - 1) / 2 < es.length := by omega
        refine ih _ (by omega) _ (fun e he => hS e ((swp_perm hi hp).mem_iff.1 he)) o (by rw [swp_len]; exact hp) ⟨fun k hk hkl hne => ?_, fun k hk hkl hpk hpos2 => ?_⟩
        · rw [swp_len] at hkl
          rw [swp_nth hi hp, swp_nth hi hp, if_neg hne]
          by_cases e1 : k = i
          · subst e1
            rw [if_pos rfl, if_pos rfl]
            exact o.asym (s _ hi) (s _ hp) ha
          · rw [if_neg e1]
            by_cases e2 : (k - 1) / 2 = (i - 1) / 2
            · rw [if_pos e2]
              have := h1 k hk hkl e1
              rw [e2] at this
              exact o.le_tr (s _ hi) (s _ hp) (s _ hkl) (o.asym (s _ hi) (s _ hp) ha) this
            · rw [if_neg e2]
              by_cases e3 : (k - 1) / 2 = i
              · rw [if_pos e3]
                exact h2 k hk hkl e3 hpos
              · rw [if_neg e3]
                exact h1 k hk hkl e1
        · rw [swp_len] at hkl
          rw [swp_nth hi hp, swp_nth hi hp, if_neg (show ¬ ((i - 1) / 2 - 1) / 2 = (i - 1) / 2 by omega), if_neg (show ¬ ((i - 1) / 2 - 1) / 2 = i by omega), if_neg (show ¬ k = (i - 1) / 2 by omega)]
          have hpp := h1 ((i - 1) / 2) hpos2 hp (by omega)
          by_cases e1 : k = i
          · rw [if_pos e1]; exact hpp
          · rw [if_neg e1]
            have := h1 k hk hkl e1
            rw [hpk] at this
            exact o.le_tr (s _ (by omega)) (s _ hp) (s _ hkl) hpp this
      · rename_i ha
        intro k hk hkl
        by_cases e : k = i
        · subst e; simpa using ha
        · exact h1 k hk hkl e
    · intro k hk hkl
      exact h1 k hk hkl (by omega)
/-- a heap but for what lies beneath i -/
def HeapDown (ah : ε → ε → Bool) (es : List ε) (i : Nat) : Prop :=
  (∀ k, 0 < k → k < es.length → (k - 1) / 2 ≠ i → ah (nth es k) (nth es ((k - 1) / 2)) = false) ∧
  (∀ k, 0 < k → k < es.length → (k - 1) / 2 = i → 0 < i → ah (nth es k) (nth es ((i - 1) / 2)) = false)
theorem down_heap (es : List ε) (i : Nat) : (∀ e ∈ es, S e) → Ord ah S → HeapDown ah es i → Heap ah (down ah es i) := by
  induction es, i using down.induct (ah := ah) with
  | case1 es i h =>
    intro hS o ⟨h1, h2⟩
    rw [down, dif_pos h]
    have s : ∀ k, k < es.length → S (nth es k) := fun k hk => hS _ (nth_mem hk)
    intro k hk hkl
    by_cases e : (k - 1) / 2 = i
    · have hk12 : k = 2 * i + 1 ∨ k = 2 * i + 2 := by omega
      unfold kid2 at h
      split at h
      · omega
      · rename_i hc
        unfold kid1 at h hc
        split at h
        · omega
        · rename_i hc1
          rw [if_neg hc1] at hc
          rw [e]
          rcases hk12 with rfl | rfl
          · cases hh : ah (nth es (2 * i + 1)) (nth es i) with
            | false => rfl
            | true => exact absurd ⟨hkl, hh⟩ hc1
          · cases hh : ah (nth es (2 * i + 2)) (nth es i) with
            | false => rfl
            | true => exact absurd ⟨hkl, hh⟩ hc
    · exact h1 k hk hkl e
  | case2 es i h ih =>
    intro hS o ⟨h1, h2⟩
    rw [down, dif_neg h]
    have hc := (kid2_cases ah es i).resolve_left h
    obtain ⟨f, hf⟩ : ∃ f, f = kid2 ah es i := ⟨_, rfl⟩
    rw [← hf] at hc ih h ⊢
    have hi : i < es.length := by omega
    have s : ∀ k, k < es.length → S (nth es k) := fun k hk => hS _ (nth_mem hk)
    -- f is a kid of i, stands ahead of i, and no kid stands ahead of f
    have key : (f - 1) / 2 = i ∧ ah (nth es f) (nth es i) = true ∧ ∀ k, 0 < k → k < es.length → (k - 1) / 2 = i → ah (nth es k) (nth es f) = false := by
      unfold kid2 at hf
      split at hf
      · rename_i c2
        subst hf
        refine ⟨by omega, ?_, fun k hk hkl hp => ?_⟩
        · unfold kid1 at c2
          split at c2
          · rename_i c1
            exact o.tr _ _ _ (s _ c2.1) (s _ c1.1) (s _ hi) c2.2 c1.2
          · exact c2.2
        · have hk12 : k = 2 * i + 1 ∨ k = 2 * i + 2 := by omega
          rcases hk12 with rfl | rfl
          · unfold kid1 at c2
            split at c2
            · exact o.asym (s _ c2.1) (s _ hkl) c2.2
            · rename_i c1
              have : ah (nth es (2 * i + 1)) (nth es i) = false := by
                cases hh : ah (nth es (2 * i + 1)) (nth es i) with
                | false => rfl
                | true => exact absurd ⟨hkl, hh⟩ c1
              exact o.le_tr (s _ c2.1) (s _ hi) (s _ hkl) (o.asym (s _ c2.1) (s _ hi) c2.2) this
          · exact o.irr _ (s _ hkl)
      · rename_i c2
        unfold kid1 at hf c2
        split at hf
        · rename_i c1
          rw [if_pos c1] at c2
          subst hf
          refine ⟨by omega, c1.2, fun k hk hkl hp => ?_⟩
          have hk12 : k = 2 * i + 1 ∨ k = 2 * i + 2 := by omega
          rcases hk12 with rfl | rfl
          · exact o.irr _ (s _ hkl)
          · cases hh : ah (nth es (2 * i + 2)) (nth es (2 * i + 1)) with
            | false => rfl
            | true => exact absurd ⟨hkl, hh⟩ c2
        · omega
    obtain ⟨kp, ka, kk⟩ := key
    have hf2 : f < es.length := hc.2
    refine ih (fun e he => hS e ((swp_perm hi hf2).mem_iff.1 he)) o ⟨fun k hk hkl hne => ?_, fun k hk hkl hpk hpos => ?_⟩
    · rw [swp_len] at hkl
      rw [swp_nth hi hf2, swp_nth hi hf2, if_neg hne]
      by_cases e1 : k = f
      · subst e1
        rw [if_pos rfl, kp, if_pos rfl]
        exact o.asym (s _ hf2) (s _ hi) ka
      · rw [if_neg e1]
        by_cases e2 : k = i
        · subst e2
          rw [if_pos rfl, if_neg (by omega)]
          exact h2 f (by omega) hf2 kp hk
        · rw [if_neg e2]
          by_cases e3 : (k - 1) / 2 = i
          · rw [if_pos e3]
            exact kk k hk hkl e3
          · rw [if_neg e3]
            exact h1 k hk hkl e3
    · rw [swp_len] at hkl
      rw [swp_nth hi hf2, swp_nth hi hf2, if_neg (by omega), if_neg (by omega), if_neg (by omega), kp, if_pos rfl]
      have := h1 k hk hkl (by omega)
      rw [hpk] at this
      exact this
theorem heap_top : ∀ (k : Nat) {es : List ε}, (∀ e ∈ es, S e) → Ord ah S → Heap ah es → k < es.length → ah (nth es k) (nth es 0) = false := fun k => by
  induction k using Nat.strongRecOn with
  | ind k ih =>
    intro es hS o hh hk
    have s : ∀ k, k < es.length → S (nth es k) := fun k hk => hS _ (nth_mem hk)
    by_cases h0 : k = 0
    · subst h0; exact o.irr _ (s _ hk)
    · exact o.le_tr (s _ (by omega)) (s ((k - 1) / 2) (by omega)) (s _ hk) (ih _ (by omega) hS o hh (by omega)) (hh k (by omega) hk)
end
end Go.Proofs.Ytdebokambldbbaa.Heap
