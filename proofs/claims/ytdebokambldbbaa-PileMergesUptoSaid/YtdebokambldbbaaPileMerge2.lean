/- Merging: how much is left. Plain Lean. -/

/- A heap in a list: the two ways of mending, what they keep, what lies on top. Plain Lean, no program in sight. -/
namespace Go.Proofs.Ytdebokambldbbaa.Heap
set_option linter.unusedVariables false
set_option linter.unusedSectionVars false

section
variable {ε : Type} [Inhabited ε]
def nth (es : List ε) (k : Nat) : ε := es[k]?.getD default
theorem nth_eq {es : List ε} {k : Nat} (h : k < es.length) : nth es k = es[k] := by unfold nth; rw [List.getElem?_eq_getElem h]; rfl
theorem nth_mem {es : List ε} {k : Nat} (h : k < es.length) : nth es k ∈ es := by rw [nth_eq h]; exact List.getElem_mem h
def swp (es : List ε) (i j : Nat) : List ε := (es.set i (nth es j)).set j (nth es i)
theorem swp_len (es : List ε) (i j : Nat) : (swp es i j).length = es.length := by unfold swp; simp
theorem swp_nth {es : List ε} {i j : Nat} (hi : i < es.length) (hj : j < es.length) (k : Nat) : nth (swp es i j) k = if k = j then nth es i else if k = i then nth es j else nth es k := by
  unfold swp
  by_cases h1 : k = j
  · subst h1; rw [if_pos rfl]; unfold nth; rw [List.getElem?_set_self (by simpa using hj)]; rfl
  · rw [if_neg h1]
    unfold nth
    rw [List.getElem?_set_ne (fun e => h1 e.symm)]
    by_cases h2 : k = i
    · subst h2; rw [if_pos rfl, List.getElem?_set_self hi]; rfl
    · rw [if_neg h2, List.getElem?_set_ne (fun e => h2 e.symm)]
theorem swp_perm {es : List ε} {i j : Nat} (hi : i < es.length) (hj : j < es.length) : (swp es i j).Perm es := by
  have h := (Array.swap_perm (xs := es.toArray) (i := i) (j := j) (by simpa using hi) (by simpa using hj))
  have h2 := h.toList
  rw [Array.toList_swap] at h2
  unfold swp
  rw [nth_eq hi, nth_eq hj]
  simpa using h2

/-! ### mending -/
variable (ah : ε → ε → Bool)
def up (es : List ε) (i : Nat) : List ε :=
  if h : 0 < i then if ah (nth es i) (nth es ((i - 1) / 2)) then up (swp es i ((i - 1) / 2)) ((i - 1) / 2) else es else es
termination_by i
decreasing_by omega
def kid1 (es : List ε) (i : Nat) : Nat := if 2 * i + 1 < es.length ∧ ah (nth es (2 * i + 1)) (nth es i) = true then 2 * i + 1 else i
def kid2 (es : List ε) (i : Nat) : Nat := if 2 * i + 2 < es.length ∧ ah (nth es (2 * i + 2)) (nth es (kid1 ah es i)) = true then 2 * i + 2 else kid1 ah es i
theorem kid1_cases (es : List ε) (i : Nat) : kid1 ah es i = i ∨ (kid1 ah es i = 2 * i + 1 ∧ 2 * i + 1 < es.length) := by
  unfold kid1
  split
  · rename_i h; exact .inr ⟨rfl, h.1⟩
  · exact .inl rfl
theorem kid2_cases (es : List ε) (i : Nat) : kid2 ah es i = i ∨ (i < kid2 ah es i ∧ kid2 ah es i < es.length) := by
  have h1 := kid1_cases ah es i
  unfold kid2
  split
  · rename_i h; exact .inr ⟨by omega, h.1⟩
  · rcases h1 with h1 | ⟨h1, h2⟩
    · exact .inl h1
    · rw [h1]; exact .inr ⟨by omega, h2⟩
def down (es : List ε) (i : Nat) : List ε :=
  if h : kid2 ah es i = i then es else down (swp es i (kid2 ah es i)) (kid2 ah es i)
termination_by es.length - i
decreasing_by
  have := kid2_cases ah es i
  rw [swp_len]
  omega
variable {ah}
theorem up_len : ∀ (i : Nat) (es : List ε), (up ah es i).length = es.length := fun i => by
  induction i using Nat.strongRecOn with
  | ind i ih =>
    intro es
    rw [up]
    split
    · split
      · rw [ih _ (by omega), swp_len]
      · rfl
    · rfl
theorem up_perm : ∀ (i : Nat) (es : List ε), i < es.length → (up ah es i).Perm es := fun i => by
  induction i using Nat.strongRecOn with
  | ind i ih =>
    intro es hi
    rw [up]
    split
    · split
      · exact (ih _ (by omega) _ (by rw [swp_len]; omega)).trans (swp_perm hi (by omega))
      · exact .refl _
    · exact .refl _
theorem down_len (es : List ε) (i : Nat) : (down ah es i).length = es.length := by
  induction es, i using down.induct (ah := ah) with
  | case1 es i h => rw [down, dif_pos h]
  | case2 es i h ih => rw [down, dif_neg h, ih, swp_len]
theorem down_perm (es : List ε) (i : Nat) : (down ah es i).Perm es := by
  induction es, i using down.induct (ah := ah) with
  | case1 es i h => rw [down, dif_pos h]
  | case2 es i h ih =>
    rw [down, dif_neg h]
    have := kid2_cases ah es i
    exact ih.trans (swp_perm (by omega) (by omega))

/-! ### a right order -/
structure Ord (ah : ε → ε → Bool) (S : ε → Prop) : Prop where
  irr : ∀ a, S a → ah a a = false
  tot : ∀ a b, S a → S b → ah a b = false → ah b a = false → a = b
  tr : ∀ a b c, S a → S b → S c → ah a b = true → ah b c = true → ah a c = true
variable {S : ε → Prop}
theorem Ord.le_tr (o : Ord ah S) {a b c : ε} (ha : S a) (hb : S b) (hc : S c) (h1 : ah b a = false) (h2 : ah c b = false) : ah c a = false := by
  cases h3 : ah c a with
  | false => rfl
  | true =>
    cases h4 : ah a b with
    | false => have := o.tot a b ha hb h4 h1; subst this; rw [h2] at h3; cases h3
    | true => have := o.tr c a b hc ha hb h3 h4; rw [h2] at this; cases this
theorem Ord.asym (o : Ord ah S) {a b : ε} (ha : S a) (hb : S b) (h : ah a b = true) : ah b a = false := by
  cases h2 : ah b a with
  | false => rfl
  | true => have := o.tr a b a ha hb ha h h2; rw [o.irr a ha] at this; cases this

def Heap (ah : ε → ε → Bool) (es : List ε) : Prop := ∀ k, 0 < k → k < es.length → ah (nth es k) (nth es ((k - 1) / 2)) = false
/-- a heap but for i's place beneath the one above it -/
def HeapUp (ah : ε → ε → Bool) (es : List ε) (i : Nat) : Prop :=
  (∀ k, 0 < k → k < es.length → k ≠ i → ah (nth es k) (nth es ((k - 1) / 2)) = false) ∧
  (∀ k, 0 < k → k < es.length → (k - 1) / 2 = i → 0 < i → ah (nth es k) (nth es ((i - 1) / 2)) = false)
theorem up_heap : ∀ (i : Nat) (es : List ε), (∀ e ∈ es, S e) → Ord ah S → i < es.length → HeapUp ah es i → Heap ah (up ah es i) := fun i => by
  induction i using Nat.strongRecOn with
  | ind i ih =>
    intro es hS o hi ⟨h1, h2⟩
    have s : ∀ k, k < es.length → S (nth es k) := fun k hk => hS _ (nth_mem hk)
    rw [up]
    split
    · rename_i hpos
      split
      · rename_i ha
        have hp : (i - 1) / 2 < es.length := by omega
        refine ih _ (by omega) _ (fun e he => hS e ((swp_perm hi hp).mem_iff.1 he)) o (by rw [swp_len]; exact hp) ⟨fun k hk hkl hne => ?_, fun k hk hkl hpk hpos2 => ?_⟩
        · rw [swp_len] at hkl
          rw [swp_nth hi hp, swp_nth hi hp, if_neg hne]
          by_cases e1 : k = i
          · subst e1
            rw [if_pos rfl, if_pos rfl]
            exact o.asym (s _ hi) (s _ hp) ha
          · rw [if_neg e1]
            by_cases e2 : (k - 1) / 2 = (i - 1) / 2
            · rw [if_pos e2]
              have := h1 k hk hkl e1
              rw [e2] at this
              exact o.le_tr (s _ hi) (s _ hp) (s _ hkl) (o.asym (s _ hi) (s _ hp) ha) this
            · rw [if_neg e2]
              by_cases e3 : (k - 1) / 2 = i
              · rw [if_pos e3]
                exact h2 k hk hkl e3 hpos
              · rw [if_neg e3]
                exact h1 k hk hkl e1
        · rw [swp_len] at hkl
          rw [swp_nth hi hp, swp_nth hi hp, if_neg (show ¬ ((i - 1) / 2 - 1) / 2 = (i - 1) / 2 by omega), if_neg (show ¬ ((i - 1) / 2 - 1) / 2 = i by omega), if_neg (show ¬ k = (i - 1) / 2 by omega)]
          have hpp := h1 ((i - 1) / 2) hpos2 hp (by omega)
          by_cases e1 : k = i
          · rw [if_pos e1]; exact hpp
          · rw [if_neg e1]
            have := h1 k hk hkl e1
            rw [hpk] at this
            exact o.le_tr (s _ (by omega)) (s _ hp) (s _ hkl) hpp this
      · rename_i ha
        intro k hk hkl
        by_cases e : k = i
        · subst e; simpa using ha
        · exact h1 k hk hkl e
    · intro k hk hkl
      exact h1 k hk hkl (by omega)
/-- a heap but for what lies beneath i -/
def HeapDown (ah : ε → ε → Bool) (es : List ε) (i : Nat) : Prop :=
  (∀ k, 0 < k → k < es.length → (k - 1) / 2 ≠ i → ah (nth es k) (nth es ((k - 1) / 2)) = false) ∧
  (∀ k, 0 < k → k < es.length → (k - 1) / 2 = i → 0 < i → ah (nth es k) (nth es ((i - 1) / 2)) = false)
theorem down_heap (es : List ε) (i : Nat) : (∀ e ∈ es, S e) → Ord ah S → HeapDown ah es i → Heap ah (down ah es i) := by
  induction es, i using down.induct (ah := ah) with
  | case1 es i h =>
    intro hS o ⟨h1, h2⟩
    rw [down, dif_pos h]
    have s : ∀ k, k < es.length → S (nth es k) := fun k hk => hS _ (nth_mem hk)
    intro k hk hkl
    by_cases e : (k - 1) / 2 = i
    · have hk12 : k = 2 * i + 1 ∨ k = 2 * i + 2 := by omega
      unfold kid2 at h
      split at h
      · omega
      · rename_i hc
        unfold kid1 at h hc
        split at h
        · omega
        · rename_i hc1
          rw [if_neg hc1] at hc
          rw [e]
          rcases hk12 with rfl | rfl
          · cases hh : ah (nth es (2 * i + 1)) (nth es i) with
            | false => rfl
            | true => exact absurd ⟨hkl, hh⟩ hc1
          · cases hh : ah (nth es (2 * i + 2)) (nth es i) with
            | false => rfl
            | true => exact absurd ⟨hkl, hh⟩ hc
    · exact h1 k hk hkl e
  | case2 es i h ih =>
    intro hS o ⟨h1, h2⟩
    rw [down, dif_neg h]
    have hc := (kid2_cases ah es i).resolve_left h
    obtain ⟨f, hf⟩ : ∃ f, f = kid2 ah es i := ⟨_, rfl⟩
    rw [← hf] at hc ih h ⊢
    have hi : i < es.length := by omega
    have s : ∀ k, k < es.length → S (nth es k) := fun k hk => hS _ (nth_mem hk)
    -- f is a kid of i, stands ahead of i, and no kid stands ahead of f
    have key : (f - 1) / 2 = i ∧ ah (nth es f) (nth es i) = true ∧ ∀ k, 0 < k → k < es.length → (k - 1) / 2 = i → ah (nth es k) (nth es f) = false := by
      unfold kid2 at hf
      split at hf
      · rename_i c2
        subst hf
        refine ⟨by omega, ?_, fun k hk hkl hp => ?_⟩
        · unfold kid1 at c2
          split at c2
          · rename_i c1
            exact o.tr _ _ _ (s _ c2.1) (s _ c1.1) (s _ hi) c2.2 c1.2
          · exact c2.2
        · have hk12 : k = 2 * i + 1 ∨ k = 2 * i + 2 := by omega
          rcases hk12 with rfl | rfl
          · unfold kid1 at c2
            split at c2
            · exact o.asym (s _ c2.1) (s _ hkl) c2.2
            · rename_i c1
              have : ah (nth es (2 * i + 1)) (nth es i) = false := by
                cases hh : ah (nth es (2 * i + 1)) (nth es i) with
                | false => rfl
                | true => exact absurd ⟨hkl, hh⟩ c1
              exact o.le_tr (s _ c2.1) (s _ hi) (s _ hkl) (o.asym (s _ c2.1) (s _ hi) c2.2) this
          · exact o.irr _ (s _ hkl)
      · rename_i c2
        unfold kid1 at hf c2
        split at hf
        · rename_i c1
          rw [if_pos c1] at c2
          subst hf
          refine ⟨by omega, c1.2, fun k hk hkl hp => ?_⟩
          have hk12 : k = 2 * i + 1 ∨ k = 2 * i + 2 := by omega
          rcases hk12 with rfl | rfl
          · exact o.irr _ (s _ hkl)
          · cases hh : ah (nth es (2 * i + 2)) (nth es (2 * i + 1)) with
            | false => rfl
            | true => exact absurd ⟨hkl, hh⟩ c2
        · omega
    obtain ⟨kp, ka, kk⟩ := key
    have hf2 : f < es.length := hc.2
    refine ih (fun e he => hS e ((swp_perm hi hf2).mem_iff.1 he)) o ⟨fun k hk hkl hne => ?_, fun k hk hkl hpk hpos => ?_⟩
    · rw [swp_len] at hkl
      rw [swp_nth hi hf2, swp_nth hi hf2, if_neg hne]
      by_cases e1 : k = f
      · subst e1
        rw [if_pos rfl, kp, if_pos rfl]
        exact o.asym (s _ hf2) (s _ hi) ka
      · rw [if_neg e1]
        by_cases e2 : k = i
        · subst e2
          rw [if_pos rfl, if_neg (by omega)]
          exact h2 f (by omega) hf2 kp hk
        · rw [if_neg e2]
          by_cases e3 : (k - 1) / 2 = i
          · rw [if_pos e3]
            exact kk k hk hkl e3
          · rw [if_neg e3]
            exact h1 k hk hkl e3
    · rw [swp_len] at hkl
      rw [swp_nth hi hf2, swp_nth hi hf2, if_neg (by omega), if_neg (by omega), if_neg (by omega), kp, if_pos rfl]
      have := h1 k hk hkl (by omega)
      rw [hpk] at this
      exact this
theorem heap_top : ∀ (k : Nat) {es : List ε}, (∀ e ∈ es, S e) → Ord ah S → Heap ah es → k < es.length → ah (nth es k) (nth es 0) = false := fun k => by
  induction k using Nat.strongRecOn with
  | ind k ih =>
    intro es hS o hh hk
    have s : ∀ k, k < es.length → S (nth es k) := fun k hk => hS _ (nth_mem hk)
    by_cases h0 : k = 0
    · subst h0; exact o.irr _ (s _ hk)
    · exact o.le_tr (s _ (by omega)) (s ((k - 1) / 2) (by omega)) (s _ hk) (ih _ (by omega) hS o hh (by omega)) (hh k (by omega) hk)
end
end Go.Proofs.Ytdebokambldbbaa.Heap

/- A pile and the list of what is in it, in the order in which it came. Plain Lean. -/
namespace Go.Proofs.Ytdebokambldbbaa.Heap
set_option linter.unusedVariables false
set_option linter.unusedSectionVars false

section
variable {ε : Type} [Inhabited ε] {ah : ε → ε → Bool} {S : ε → Prop}
def push (ah : ε → ε → Bool) (es : List ε) (e : ε) : List ε := up ah (es ++ [e]) es.length
def cut (es : List ε) : List ε := (swp es 0 (es.length - 1)).take (es.length - 1)
def pop (ah : ε → ε → Bool) (es : List ε) : List ε := down ah (cut es) 0
theorem push_len (es : List ε) (e : ε) : (push ah es e).length = es.length + 1 := by unfold push; rw [up_len]; simp
theorem push_perm (es : List ε) (e : ε) : (push ah es e).Perm (es ++ [e]) := up_perm _ _ (by simp)
theorem nth_app {es : List ε} {e : ε} {k : Nat} (h : k < es.length) : nth (es ++ [e]) k = nth es k := by unfold nth; rw [List.getElem?_append_left h]
theorem push_heap {es : List ε} {e : ε} (hS : ∀ x ∈ es ++ [e], S x) (o : Ord ah S) (h : Heap ah es) : Heap ah (push ah es e) := by
  refine up_heap _ _ hS o (by simp) ⟨fun k hk hkl hne => ?_, fun k hk hkl hp hpos => ?_⟩
  · simp at hkl
    rw [nth_app (by omega), nth_app (by omega)]
    exact h k hk (by omega)
  · simp at hkl
    omega
theorem cut_len (es : List ε) : (cut es).length = es.length - 1 := by unfold cut; rw [List.length_take, swp_len]; omega
theorem pop_len (es : List ε) : (pop ah es).length = es.length - 1 := by unfold pop; rw [down_len, cut_len]
theorem cut_perm {es : List ε} (h : 0 < es.length) : (nth es 0 :: cut es).Perm es := by
  have h1 : (swp es 0 (es.length - 1)).Perm es := swp_perm h (by omega)
  have h2 : swp es 0 (es.length - 1) = cut es ++ [nth es 0] := by
    have hl : es.length - 1 < (swp es 0 (es.length - 1)).length := by rw [swp_len]; omega
    have h3 := swp_nth h (show es.length - 1 < es.length by omega) (es.length - 1)
    rw [if_pos rfl, nth_eq hl] at h3
    have h4 : (swp es 0 (es.length - 1)).take (es.length - 1 + 1) = swp es 0 (es.length - 1) := by rw [List.take_of_length_le]; rw [swp_len]; omega
    rw [List.take_add_one, List.getElem?_eq_getElem hl, h3] at h4
    exact h4.symm
  rw [h2] at h1
  exact (List.perm_append_comm (l₁ := [nth es 0]) (l₂ := cut es)).trans h1
theorem pop_perm {es : List ε} (h : 0 < es.length) : (nth es 0 :: pop ah es).Perm es := ((down_perm (ah := ah) (cut es) 0).cons _).trans (cut_perm h)
theorem cut_nth {es : List ε} {k : Nat} (hk : 0 < k) (h : k < es.length - 1) : nth (cut es) k = nth es k := by
  have := swp_nth (show 0 < es.length by omega) (show es.length - 1 < es.length by omega) k
  rw [if_neg (by omega), if_neg (by omega)] at this
  rw [← this]
  unfold cut nth
  rw [List.getElem?_take_of_lt h]
theorem pop_heap {es : List ε} (hS : ∀ x ∈ es, S x) (o : Ord ah S) (hl : 0 < es.length) (h : Heap ah es) : Heap ah (pop ah es) := by
  refine down_heap _ _ (fun e he => hS e ((cut_perm hl).mem_iff.1 (List.mem_cons_of_mem _ he))) o ⟨fun k hk hkl hne => ?_, fun k hk hkl hp hpos => by omega⟩
  rw [cut_len] at hkl
  rw [cut_nth hk hkl, cut_nth (by omega) (by omega)]
  exact h k hk (by omega)
end

/-- the loop over the two kids, after r of them -/
def kidR {ε : Type} [Inhabited ε] (ah : ε → ε → Bool) (es : List ε) (k : Nat) : Nat → Nat
  | 0 => k
  | r + 1 => if 2 * k + 1 + r < es.length ∧ ah (nth es (2 * k + 1 + r)) (nth es (kidR ah es k r)) = true then 2 * k + 1 + r else kidR ah es k r
theorem kidR_two {ε : Type} [Inhabited ε] (ah : ε → ε → Bool) (es : List ε) (k : Nat) : kidR ah es k 2 = kid2 ah es k := rfl
theorem kidR_cases {ε : Type} [Inhabited ε] (ah : ε → ε → Bool) (es : List ε) (k : Nat) : ∀ r, kidR ah es k r = k ∨ (k < kidR ah es k r ∧ kidR ah es k r < es.length)
  | 0 => .inl rfl
  | r + 1 => by
    rw [kidR]
    split
    · rename_i h; exact .inr ⟨by omega, h.1⟩
    · exact kidR_cases ah es k r
theorem kidR_yes {ε : Type} [Inhabited ε] {ah : ε → ε → Bool} {es : List ε} {k r : Nat} (h1 : 2 * k + 1 + r < es.length) (h2 : ah (nth es (2 * k + 1 + r)) (nth es (kidR ah es k r)) = true) : kidR ah es k (r + 1) = 2 * k + 1 + r := by rw [kidR, if_pos ⟨h1, h2⟩]
theorem kidR_no1 {ε : Type} [Inhabited ε] {ah : ε → ε → Bool} {es : List ε} {k r : Nat} (h1 : ¬ 2 * k + 1 + r < es.length) : kidR ah es k (r + 1) = kidR ah es k r := by rw [kidR, if_neg (fun h => h1 h.1)]
theorem kidR_no2 {ε : Type} [Inhabited ε] {ah : ε → ε → Bool} {es : List ε} {k r : Nat} (h2 : ah (nth es (2 * k + 1 + r)) (nth es (kidR ah es k r)) = false) : kidR ah es k (r + 1) = kidR ah es k r := by rw [kidR, if_neg (fun h => by rw [h2] at h; cases h.2)]

/-! ### things with the number of their coming -/
section
variable {α : Type} [Inhabited α]
def ahead (lt : α → α → Bool) (a b : α × Nat) : Bool := if lt a.1 b.1 then true else if lt b.1 a.1 then false else decide (a.2 < b.2)
structure Swo (lt : α → α → Bool) : Prop where
  irr : ∀ a, lt a a = false
  ntr : ∀ a b c, lt a b = false → lt b c = false → lt a c = false
  asym : ∀ a b, lt a b = true → lt b a = false
variable {lt : α → α → Bool}
theorem ahead_true {a b : α × Nat} : ahead lt a b = true ↔ lt a.1 b.1 = true ∨ (lt b.1 a.1 = false ∧ lt a.1 b.1 = false ∧ a.2 < b.2) := by
  unfold ahead
  cases h1 : lt a.1 b.1 <;> cases h2 : lt b.1 a.1 <;> simp
theorem ahead_false (o : Swo lt) {a b : α × Nat} : ahead lt a b = false ↔ lt a.1 b.1 = false ∧ (lt b.1 a.1 = true ∨ b.2 ≤ a.2) := by
  unfold ahead
  cases h1 : lt a.1 b.1 <;> cases h2 : lt b.1 a.1 <;> simp
theorem ahead_ord (o : Swo lt) {L : List (α × Nat)} (hL : L.Pairwise fun a b => a.2 < b.2) : Ord (ahead lt) (· ∈ L) := by
  have inj : ∀ a b, a ∈ L → b ∈ L → a.2 = b.2 → a = b := by
    intro a b ha hb he
    obtain ⟨i, hi, rfl⟩ := List.mem_iff_getElem.1 ha
    obtain ⟨j, hj, rfl⟩ := List.mem_iff_getElem.1 hb
    rw [List.pairwise_iff_getElem] at hL
    rcases Nat.lt_trichotomy i j with h | h | h
    · have := hL i j hi hj h; omega
    · subst h; rfl
    · have := hL j i hj hi h; omega
  refine ⟨fun a _ => ?_, fun a b ha hb h1 h2 => ?_, fun a b c _ _ _ h1 h2 => ?_⟩
  · rw [ahead_false o]; exact ⟨o.irr _, .inr (Nat.le_refl _)⟩
  · rw [ahead_false o] at h1 h2
    refine inj a b ha hb ?_
    rcases h1.2 with h | h
    · rw [h2.1] at h; cases h
    · rcases h2.2 with h' | h'
      · rw [h1.1] at h'; cases h'
      · omega
  · rw [ahead_true] at h1 h2 ⊢
    have tr : ∀ x y z, lt x y = true → lt y z = true → lt x z = true := fun x y z hxy hyz => by
      cases h : lt x z with
      | true => rfl
      | false => have := o.ntr x z y h (o.asym _ _ hyz); rw [hxy] at this; cases this
    rcases h1 with h1 | ⟨h1, h1', h1''⟩ <;> rcases h2 with h2 | ⟨h2, h2', h2''⟩
    · exact .inl (tr _ _ _ h1 h2)
    · left
      cases h : lt a.1 c.1 with
      | true => rfl
      | false => have := o.ntr _ _ _ h h2; rw [h1] at this; cases this
    · left
      cases h : lt a.1 c.1 with
      | true => rfl
      | false => have := o.ntr _ _ _ h1 h; rw [h2] at this; cases this
    · exact .inr ⟨o.ntr _ _ _ h2 h1, o.ntr _ _ _ h1' h2', by omega⟩

/-- the place of the first: the document's loop -/
def firstF (lt : α → α → Bool) (l : List α) : Nat → Option Nat
  | 0 => none
  | k + 1 => match firstF lt l k with
    | none => some k
    | some b => if lt (nth l k) (nth l b) then some k else some b
def first (lt : α → α → Bool) (l : List α) : Option Nat := firstF lt l l.length
theorem firstF_spec (o : Swo lt) (l : List α) : ∀ (k : Nat), k ≤ l.length → (k = 0 ∧ firstF lt l k = none) ∨ ∃ b, firstF lt l k = some b ∧ b < k ∧ (∀ j, j < k → lt (nth l j) (nth l b) = false) ∧ ∀ j, j < b → lt (nth l b) (nth l j) = true := fun k => by
  induction k with
  | zero => intro _; exact .inl ⟨rfl, rfl⟩
  | succ k ih =>
    intro hk
    right
    rw [firstF]
    rcases ih (by omega) with ⟨h0, h1⟩ | ⟨b, h1, h2, h3, h4⟩
    · rw [h1]
      subst h0
      refine ⟨0, rfl, by omega, fun j hj => ?_, fun j hj => by omega⟩
      obtain rfl : j = 0 := by omega
      exact o.irr _
    · rw [h1]
      simp only
      split
      · rename_i h
        refine ⟨k, rfl, by omega, fun j hj => ?_, fun j hj => ?_⟩
        · by_cases e : j = k
          · subst e; exact o.irr _
          · exact o.ntr _ _ _ (h3 j (by omega)) (o.asym _ _ h)
        · cases hh : lt (nth l k) (nth l j) with
          | true => rfl
          | false => have := o.ntr _ _ _ hh (h3 j (by omega)); rw [h] at this; cases this
      · rename_i h
        refine ⟨b, rfl, by omega, fun j hj => ?_, h4⟩
        by_cases e : j = k
        · subst e; simpa using h
        · exact h3 j (by omega)
theorem first_none (o : Swo lt) {l : List α} (h : l.length = 0) : first lt l = none := by
  unfold first; rw [h]; rfl
theorem first_some (o : Swo lt) {l : List α} (h : 0 < l.length) : ∃ b, first lt l = some b ∧ b < l.length ∧ (∀ j, j < l.length → lt (nth l j) (nth l b) = false) ∧ ∀ j, j < b → lt (nth l b) (nth l j) = true := by
  rcases firstF_spec o l l.length (Nat.le_refl _) with ⟨h0, _⟩ | h1
  · omega
  · exact h1
end

/-- a pile's entries es over the book L: what is in it, in the order of coming -/
structure Book {α : Type} [Inhabited α] (lt : α → α → Bool) (es L : List (α × Nat)) (nx : Nat) : Prop where
  perm : es.Perm L
  rise : L.Pairwise fun a b => a.2 < b.2
  low : ∀ e ∈ L, e.2 < nx
  heap : Heap (ahead lt) es
section
variable {α : Type} [Inhabited α] {lt : α → α → Bool} {es L : List (α × Nat)} {nx : Nat}
theorem erase_perm {β : Type} : ∀ (l : List β) {i : Nat} (h : i < l.length), (l[i] :: l.eraseIdx i).Perm l
  | [], _, h => by simp at h
  | a :: r, 0, _ => .refl _
  | a :: r, i + 1, h => by
    have h' : i < r.length := by simpa using h
    rw [List.eraseIdx_cons_succ, List.getElem_cons_succ]
    exact (List.Perm.swap a r[i] _).trans ((erase_perm r h').cons a)
theorem Book.nil (lt : α → α → Bool) (nx : Nat) : Book lt [] [] nx := ⟨.refl _, .nil, fun _ h => by simp at h, fun k _ h => by simp at h⟩
theorem Book.len (b : Book lt es L nx) : es.length = L.length := b.perm.length_eq
theorem Book.push (o : Swo lt) (b : Book lt es L nx) (x : α) : Book lt (push (ahead lt) es (x, nx)) (L ++ [(x, nx)]) (nx + 1) := by
  have hr : (L ++ [(x, nx)]).Pairwise fun a b => a.2 < b.2 := by
    rw [List.pairwise_append]
    exact ⟨b.rise, by simp, fun a ha c hc => by simp at hc; subst hc; exact b.low a ha⟩
  have hp : (es ++ [(x, nx)]).Perm (L ++ [(x, nx)]) := b.perm.append_right _
  refine ⟨(push_perm _ _).trans hp, hr, fun e he => ?_, push_heap (fun e he => hp.mem_iff.1 he) (ahead_ord o hr) b.heap⟩
  rcases List.mem_append.1 he with h | h
  · exact Nat.lt_succ_of_lt (b.low e h)
  · simp at h; subst h; exact Nat.lt_succ_self _
theorem nth_map {k : Nat} (h : k < L.length) : nth (L.map (·.1)) k = (nth L k).1 := by
  rw [nth_eq (by simpa using h), nth_eq h, List.getElem_map]
theorem Book.pop (o : Swo lt) (b : Book lt es L nx) (h : 0 < es.length) : ∃ m, first lt (L.map (·.1)) = some m ∧ m < L.length ∧ nth es 0 = nth L m ∧ Book lt (pop (ahead lt) es) (L.eraseIdx m) nx := by
  have hl := b.len
  obtain ⟨m, h1, h2, h3, h4⟩ := first_some o (l := L.map (·.1)) (by rw [List.length_map]; omega)
  rw [List.length_map] at h2 h3
  have hmem : ∀ e ∈ es, e ∈ L := fun e he => b.perm.mem_iff.1 he
  have O := ahead_ord o b.rise
  have top : ∀ e ∈ L, ahead lt e (nth es 0) = false := fun e he => by
    obtain ⟨k, hk, rfl⟩ := List.mem_iff_getElem.1 (b.perm.mem_iff.2 he)
    rw [← nth_eq hk]
    exact heap_top k hmem O b.heap hk
  have hm : nth L m ∈ L := nth_mem h2
  have min : ∀ e ∈ L, ahead lt e (nth L m) = false := fun e he => by
    obtain ⟨k, hk, rfl⟩ := List.mem_iff_getElem.1 he
    rw [ahead_false o, ← nth_eq hk]
    have e1 := h3 k hk
    rw [nth_map hk, nth_map h2] at e1
    refine ⟨e1, ?_⟩
    by_cases hkm : k < m
    · have := h4 k hkm
      rw [nth_map hk, nth_map h2] at this
      exact .inl this
    · right
      by_cases e : k = m
      · subst e; exact Nat.le_refl _
      · have := List.pairwise_iff_getElem.1 b.rise m k h2 hk (by omega)
        rw [← nth_eq h2, ← nth_eq hk] at this
        omega
  have ht : nth es 0 ∈ L := hmem _ (nth_mem h)
  have heq : nth es 0 = nth L m := O.tot _ _ ht hm (min _ ht) (top _ hm)
  refine ⟨m, h1, h2, heq, ?_, ?_, fun e he => b.low e (List.mem_of_mem_eraseIdx he), pop_heap hmem O h b.heap⟩
  · have p1 : (nth es 0 :: Heap.pop (ahead lt) es).Perm (nth L m :: L.eraseIdx m) := by
      refine (pop_perm h).trans (b.perm.trans ?_)
      rw [nth_eq h2]
      exact (erase_perm L h2).symm
    rw [heq] at p1
    exact p1.cons_inv
  · exact b.rise.sublist (List.eraseIdx_sublist _ _)
end
end Go.Proofs.Ytdebokambldbbaa.Heap

/- Taking all out of a pile is sorting; the document's Sorted, Best, Merge in plain words. Plain Lean. -/
namespace Go.Proofs.Ytdebokambldbbaa.Heap
set_option linter.unusedVariables false
set_option linter.unusedSectionVars false

section
variable {ε : Type} [Inhabited ε] {ah : ε → ε → Bool} {S : ε → Prop}
/-- the things in the order in which they come out -/
def popAll (ah : ε → ε → Bool) : Nat → List ε → List ε
  | 0, _ => []
  | n + 1, es => nth es 0 :: popAll ah n (pop ah es)
theorem popAll_len : ∀ (n : Nat) (es : List ε), (popAll ah n es).length = n
  | 0, _ => rfl
  | n + 1, es => by rw [popAll, List.length_cons, popAll_len n]
theorem popAll_perm : ∀ (n : Nat) (es : List ε), n = es.length → (popAll ah n es).Perm es
  | 0, es, h => by
    have : es = [] := List.eq_nil_of_length_eq_zero h.symm
    subst this; exact .refl _
  | n + 1, es, h => by
    rw [popAll]
    exact ((popAll_perm n (pop ah es) (by rw [pop_len]; omega)).cons _).trans (pop_perm (by omega))
theorem popAll_sorted : ∀ (n : Nat) (es : List ε), n = es.length → (∀ e ∈ es, S e) → Ord ah S → es.Nodup → Heap ah es → (popAll ah n es).Pairwise fun a b => ah a b = true
  | 0, es, h, _, _, _, _ => .nil
  | n + 1, es, h, hS, o, hd, hh => by
    have hpos : 0 < es.length := by omega
    have hp := pop_perm (ah := ah) hpos
    have hd2 := hp.nodup_iff.2 hd
    have hS2 : ∀ e ∈ pop ah es, S e := fun e he => hS e (hp.mem_iff.1 (List.mem_cons_of_mem _ he))
    rw [popAll, List.pairwise_cons]
    refine ⟨fun b hb => ?_, popAll_sorted n _ (by rw [pop_len]; omega) hS2 o (List.nodup_cons.1 hd2).2 (pop_heap hS o hpos hh)⟩
    have hb' : b ∈ pop ah es := (popAll_perm n _ (by rw [pop_len]; omega)).mem_iff.1 hb
    have hbe : b ∈ es := hp.mem_iff.1 (List.mem_cons_of_mem _ hb')
    obtain ⟨k, hk, rfl⟩ := List.mem_iff_getElem.1 hbe
    have ht := heap_top k hS o hh hk
    rw [nth_eq hk] at ht
    cases h1 : ah (nth es 0) es[k] with
    | true => rfl
    | false =>
      have := o.tot _ _ (hS _ (nth_mem hpos)) (hS _ hbe) h1 ht
      exact absurd (this ▸ hb') (List.nodup_cons.1 hd2).1
theorem sort_uniq (o : Ord ah S) : ∀ (a b : List ε), (∀ x ∈ a, S x) → a.Perm b → (a.Pairwise fun x y => ah x y = true) → (b.Pairwise fun x y => ah x y = true) → a = b
  | [], b, _, hp, _, _ => (List.nil_perm.1 hp).symm
  | x :: a, [], _, hp, _, _ => absurd hp.length_eq (by simp)
  | x :: a, y :: b, hS, hp, ha, hb => by
    rw [List.pairwise_cons] at ha hb
    have hxy : x = y := by
      rcases List.mem_cons.1 (hp.mem_iff.1 (List.mem_cons_self (a := x))) with h | h
      · exact h
      · have h1 := hb.1 x h
        rcases List.mem_cons.1 (hp.mem_iff.2 (List.mem_cons_self (a := y))) with h2 | h2
        · exact h2.symm
        · have h3 := ha.1 y h2
          have := o.asym (hS x List.mem_cons_self) (hS y (List.mem_cons_of_mem _ h2)) h3
          rw [h1] at this; cases this
    subst hxy
    rw [sort_uniq o a b (fun z hz => hS z (List.mem_cons_of_mem _ hz)) hp.cons_inv ha.2 hb.2]
end

/-! ### the document's Sorted -/
section
variable {α : Type} [Inhabited α]
def mrg (lt : α → α → Bool) : List α → List α → List α
  | [], b => b
  | x :: a, [] => x :: a
  | x :: a, y :: b => if lt y x then y :: mrg lt (x :: a) b else x :: mrg lt a (y :: b)
termination_by a b => a.length + b.length
def msortF (lt : α → α → Bool) : Nat → List α → List α
  | 0, l => l
  | n + 1, l => if l.length < 2 then l else mrg lt (msortF lt n (l.take (l.length / 2))) (msortF lt n (l.drop (l.length / 2)))
def msort (lt : α → α → Bool) (l : List α) : List α := msortF lt l.length l
theorem mrg_nil (lt : α → α → Bool) (a : List α) : mrg lt a [] = a := by cases a <;> rw [mrg]
theorem mrg_perm (lt : α → α → Bool) : ∀ (a b : List α), (mrg lt a b).Perm (a ++ b)
  | [], b => by rw [mrg]; exact .refl _
  | x :: a, [] => by rw [mrg, List.append_nil]
  | x :: a, y :: b => by
    rw [mrg]
    split
    · exact ((mrg_perm lt (x :: a) b).cons y).trans (List.perm_middle (a := y) (l₁ := x :: a) (l₂ := b)).symm
    · exact (mrg_perm lt a (y :: b)).cons x
termination_by a b => a.length + b.length
theorem mrg_len (lt : α → α → Bool) (a b : List α) : (mrg lt a b).length = a.length + b.length := by rw [(mrg_perm lt a b).length_eq, List.length_append]
theorem msortF_perm (lt : α → α → Bool) : ∀ (n : Nat) (l : List α), (msortF lt n l).Perm l
  | 0, l => .refl _
  | n + 1, l => by
    rw [msortF]
    split
    · exact .refl _
    · refine (mrg_perm _ _ _).trans (((msortF_perm lt n _).append (msortF_perm lt n _)).trans ?_)
      rw [List.take_append_drop]
theorem msort_perm (lt : α → α → Bool) (l : List α) : (msort lt l).Perm l := msortF_perm lt _ l
theorem msort_len (lt : α → α → Bool) (l : List α) : (msort lt l).length = l.length := (msort_perm lt l).length_eq
theorem msortF_fuel (lt : α → α → Bool) : ∀ (n m : Nat) (l : List α), l.length ≤ n → l.length ≤ m → msortF lt n l = msortF lt m l
  | 0, 0, l, _, _ => rfl
  | 0, m + 1, l, h, _ => by rw [msortF, msortF, if_pos (by omega)]
  | n + 1, 0, l, _, h => by rw [msortF, msortF, if_pos (by omega)]
  | n + 1, m + 1, l, h1, h2 => by
    rw [msortF, msortF]
    split
    · rfl
    · rw [msortF_fuel lt n m _ (by rw [List.length_take]; omega) (by rw [List.length_take]; omega), msortF_fuel lt n m _ (by rw [List.length_drop]; omega) (by rw [List.length_drop]; omega)]
theorem msort_step (lt : α → α → Bool) {l : List α} (h : 2 ≤ l.length) : msort lt l = mrg lt (msort lt (l.take (l.length / 2))) (msort lt (l.drop (l.length / 2))) := by
  unfold msort
  obtain ⟨n, hn⟩ : ∃ n, l.length = n + 1 := ⟨l.length - 1, by omega⟩
  rw [hn, msortF, if_neg (by omega), hn]
  rw [msortF_fuel lt n (l.take ((n + 1) / 2)).length _ (by rw [List.length_take]; omega) (Nat.le_refl _), msortF_fuel lt n (l.drop ((n + 1) / 2)).length _ (by rw [List.length_drop]; omega) (Nat.le_refl _)]
theorem msort_short (lt : α → α → Bool) {l : List α} (h : l.length < 2) : msort lt l = l := by
  unfold msort
  match l, h with
  | [], _ => rfl
  | [x], _ => rfl

/-- with the number of coming beside -/
def lt2 (lt : α → α → Bool) (a b : α × Nat) : Bool := lt a.1 b.1
theorem mrg_map (lt : α → α → Bool) : ∀ (a b : List (α × Nat)), (mrg (lt2 lt) a b).map (·.1) = mrg lt (a.map (·.1)) (b.map (·.1))
  | [], b => by simp [mrg]
  | x :: a, [] => by simp [mrg]
  | x :: a, y :: b => by
    simp only [List.map_cons]
    rw [mrg, mrg]
    have e : lt2 lt y x = lt y.1 x.1 := rfl
    rw [e]
    split
    · rw [List.map_cons, mrg_map lt (x :: a) b]; rfl
    · rw [List.map_cons, mrg_map lt a (y :: b)]; rfl
termination_by a b => a.length + b.length
theorem msortF_map (lt : α → α → Bool) : ∀ (n : Nat) (l : List (α × Nat)), (msortF (lt2 lt) n l).map (·.1) = msortF lt n (l.map (·.1))
  | 0, l => rfl
  | n + 1, l => by
    rw [msortF, msortF, List.length_map]
    split
    · rfl
    · rw [mrg_map, msortF_map lt n, msortF_map lt n, List.map_take, List.map_drop]
theorem mrg_sorted {lt : α → α → Bool} (o : Swo lt) : ∀ (a b : List (α × Nat)), (a.Pairwise fun x y => ahead lt x y = true) → (b.Pairwise fun x y => ahead lt x y = true) → (∀ x ∈ a, ∀ y ∈ b, x.2 < y.2) →
    (mrg (lt2 lt) a b).Pairwise fun x y => ahead lt x y = true
  | [], b, _, hb, _ => by rw [mrg]; exact hb
  | x :: a, [], ha, _, _ => by rw [mrg]; exact ha
  | x :: a, y :: b, ha, hb, hlt => by
    have tr : ∀ p q r, ahead lt p q = true → ahead lt q r = true → ahead lt p r = true := fun p q r h1 h2 => by
      rw [ahead_true] at h1 h2 ⊢
      have tr' : ∀ u v w, lt u v = true → lt v w = true → lt u w = true := fun u v w huv hvw => by
        cases h : lt u w with
        | true => rfl
        | false => have := o.ntr u w v h (o.asym _ _ hvw); rw [huv] at this; cases this
      rcases h1 with h1 | ⟨h1, h1', h1''⟩ <;> rcases h2 with h2 | ⟨h2, h2', h2''⟩
      · exact .inl (tr' _ _ _ h1 h2)
      · left
        cases h : lt p.1 r.1 with
        | true => rfl
        | false => have := o.ntr _ _ _ h h2; rw [h1] at this; cases this
      · left
        cases h : lt p.1 r.1 with
        | true => rfl
        | false => have := o.ntr _ _ _ h1 h; rw [h2] at this; cases this
      · exact .inr ⟨o.ntr _ _ _ h2 h1, o.ntr _ _ _ h1' h2', by omega⟩
    rw [mrg]
    rw [List.pairwise_cons] at ha hb
    split
    · rename_i h
      have hyx : ahead lt y x = true := ahead_true.2 (.inl h)
      rw [List.pairwise_cons]
      refine ⟨fun z hz => ?_, mrg_sorted o (x :: a) b (List.pairwise_cons.2 ha) hb.2 (fun p hp q hq => hlt p hp q (List.mem_cons_of_mem _ hq))⟩
      rcases List.mem_append.1 ((mrg_perm _ _ _).mem_iff.1 hz) with hz | hz
      · rcases List.mem_cons.1 hz with rfl | hz
        · exact hyx
        · exact tr _ _ _ hyx (ha.1 z hz)
      · exact hb.1 z hz
    · rename_i h
      have h : lt y.1 x.1 = false := by simpa [lt2] using h
      have hxy : ahead lt x y = true := by
        rw [ahead_true]
        cases h1 : lt x.1 y.1 with
        | true => exact .inl rfl
        | false => exact .inr ⟨h, rfl, hlt x List.mem_cons_self y List.mem_cons_self⟩
      rw [List.pairwise_cons]
      refine ⟨fun z hz => ?_, mrg_sorted o a (y :: b) ha.2 (List.pairwise_cons.2 hb) (fun p hp q hq => hlt p (List.mem_cons_of_mem _ hp) q hq)⟩
      rcases List.mem_append.1 ((mrg_perm _ _ _).mem_iff.1 hz) with hz | hz
      · exact ha.1 z hz
      · rcases List.mem_cons.1 hz with rfl | hz
        · exact hxy
        · exact tr _ _ _ hxy (hb.1 z hz)
termination_by a b => a.length + b.length
theorem msortF_sorted {lt : α → α → Bool} (o : Swo lt) : ∀ (n : Nat) (l : List (α × Nat)), l.length ≤ n → (l.Pairwise fun a b => a.2 < b.2) → (msortF (lt2 lt) n l).Pairwise fun x y => ahead lt x y = true
  | 0, l, h, _ => by
    have : l = [] := List.eq_nil_of_length_eq_zero (by omega)
    subst this; exact .nil
  | n + 1, l, h, hr => by
    rw [msortF]
    split
    · rename_i hs
      rcases l with _ | ⟨x, _ | ⟨y, r⟩⟩
      · exact .nil
      · exact List.pairwise_singleton _ _
      · exact absurd hs (by simp)
    · have hta := hr.sublist (List.take_sublist (l.length / 2) l)
      have htd := hr.sublist (List.drop_sublist (l.length / 2) l)
      refine mrg_sorted o _ _ (msortF_sorted o n _ (by rw [List.length_take]; omega) hta) (msortF_sorted o n _ (by rw [List.length_drop]; omega) htd) fun x hx y hy => ?_
      have hx := (msortF_perm _ _ _).mem_iff.1 hx
      have hy := (msortF_perm _ _ _).mem_iff.1 hy
      rw [← List.take_append_drop (l.length / 2) l] at hr
      exact (List.pairwise_append.1 hr).2.2 x hx y hy
theorem rise_nodup {L : List (α × Nat)} (h : L.Pairwise fun a b => a.2 < b.2) : L.Nodup := h.imp fun {a b} hab e => by subst e; exact absurd hab (Nat.lt_irrefl _)
/-- the list with its numbers, sorted -/
def tsort (lt : α → α → Bool) (L : List (α × Nat)) : List (α × Nat) := msortF (lt2 lt) L.length L
theorem tsort_map (lt : α → α → Bool) (L : List (α × Nat)) : (tsort lt L).map (·.1) = msort lt (L.map (·.1)) := by
  unfold tsort msort
  rw [msortF_map, List.length_map]
theorem tsort_perm (lt : α → α → Bool) (L : List (α × Nat)) : (tsort lt L).Perm L := msortF_perm _ _ _
theorem tsort_sorted {lt : α → α → Bool} (o : Swo lt) {L : List (α × Nat)} (h : L.Pairwise fun a b => a.2 < b.2) : (tsort lt L).Pairwise fun x y => ahead lt x y = true := msortF_sorted o _ _ (Nat.le_refl _) h
theorem tsort_uniq {lt : α → α → Bool} (o : Swo lt) {L out : List (α × Nat)} (h : L.Pairwise fun a b => a.2 < b.2) (hp : out.Perm L) (hs : out.Pairwise fun x y => ahead lt x y = true) : out = tsort lt L :=
  sort_uniq (ahead_ord o h) out (tsort lt L) (fun x hx => hp.mem_iff.1 hx) (hp.trans (tsort_perm lt L).symm) hs (tsort_sorted o h)
/-- what comes out of a pile -/
theorem Book.all {lt : α → α → Bool} (o : Swo lt) {es L : List (α × Nat)} {nx : Nat} (b : Book lt es L nx) : popAll (ahead lt) es.length es = tsort lt L := by
  have hp := popAll_perm (ah := ahead lt) es.length es rfl
  exact tsort_uniq o b.rise (hp.trans b.perm) (popAll_sorted es.length es rfl (fun e he => b.perm.mem_iff.1 he) (ahead_ord o b.rise) (b.perm.nodup_iff.2 (rise_nodup b.rise)) b.heap)
theorem Book.all_map {lt : α → α → Bool} (o : Swo lt) {es L : List (α × Nat)} {nx : Nat} (b : Book lt es L nx) : (popAll (ahead lt) es.length es).map (·.1) = msort lt (L.map (·.1)) := by rw [b.all o, tsort_map]

/-! ### all pushed, one by one -/
def pushAll (lt : α → α → Bool) : List (α × Nat) → Nat → List α → List (α × Nat)
  | es, _, [] => es
  | es, nx, x :: l => pushAll lt (push (ahead lt) es (x, nx)) (nx + 1) l
def tag (nx : Nat) : List α → List (α × Nat)
  | [] => []
  | x :: l => (x, nx) :: tag (nx + 1) l
theorem tag_map : ∀ (nx : Nat) (l : List α), (tag nx l).map (·.1) = l
  | _, [] => rfl
  | nx, x :: l => by rw [tag, List.map_cons, tag_map]
theorem tag_len (nx : Nat) (l : List α) : (tag nx l).length = l.length := by rw [← List.length_map (f := (·.1)), tag_map]
theorem tag_app : ∀ (nx : Nat) (a b : List α), tag nx (a ++ b) = tag nx a ++ tag (nx + a.length) b
  | nx, [], b => by simp [tag]
  | nx, x :: a, b => by rw [List.cons_append, tag, tag, tag_app, List.cons_append, List.length_cons]; congr 3; omega
theorem Book.pushAll {lt : α → α → Bool} (o : Swo lt) : ∀ (l : List α) {es L : List (α × Nat)} {nx : Nat}, Book lt es L nx → Book lt (Heap.pushAll lt es nx l) (L ++ tag nx l) (nx + l.length)
  | [], es, L, nx, b => by simpa [Heap.pushAll, tag] using b
  | x :: l, es, L, nx, b => by
    have := Book.pushAll o l (b.push o x)
    rw [List.append_assoc] at this
    rw [Heap.pushAll, tag, List.length_cons, show nx + (l.length + 1) = nx + 1 + l.length by omega]
    exact this
theorem pushAll_app (lt : α → α → Bool) : ∀ (a b : List α) (es : List (α × Nat)) (nx : Nat), pushAll lt es nx (a ++ b) = pushAll lt (pushAll lt es nx a) (nx + a.length) b
  | [], b, es, nx => by simp [pushAll]
  | x :: a, b, es, nx => by rw [List.cons_append, pushAll, pushAll_app lt a b, pushAll, List.length_cons]; congr 1; omega
theorem pushAll_len (lt : α → α → Bool) : ∀ (l : List α) (es : List (α × Nat)) (nx : Nat), (pushAll lt es nx l).length = es.length + l.length
  | [], es, nx => rfl
  | x :: l, es, nx => by rw [pushAll, pushAll_len lt l, push_len, List.length_cons]; omega
theorem pushAll_perm (lt : α → α → Bool) : ∀ (l : List α) (es : List (α × Nat)) (nx : Nat), (pushAll lt es nx l).Perm (es ++ tag nx l)
  | [], es, nx => by simp [pushAll, tag]
  | x :: l, es, nx => by
    rw [pushAll, tag]
    refine (pushAll_perm lt l _ _).trans ?_
    have := (push_perm (ah := ahead lt) es (x, nx)).append_right (tag (nx + 1) l)
    rwa [List.append_assoc] at this
/-- Sorted, as the program reckons it -/
def sorted (lt : α → α → Bool) (l : List α) : List α := (popAll (ahead lt) l.length (pushAll lt [] 0 l)).map (·.1)
theorem sorted_eq {lt : α → α → Bool} (o : Swo lt) (l : List α) : sorted lt l = msort lt l := by
  have b := Book.pushAll o l (Book.nil lt 0)
  have h := b.all_map o
  rw [pushAll_len, List.nil_append, tag_map] at h
  simpa [sorted] using h
theorem sorted_perm (lt : α → α → Bool) (l : List α) : (sorted lt l).Perm l := by
  have h1 := popAll_perm (ah := ahead lt) l.length (pushAll lt [] 0 l) (by rw [pushAll_len]; simp)
  have h2 := (h1.trans (pushAll_perm lt l [] 0)).map (·.1)
  rw [List.nil_append, tag_map] at h2
  exact h2
theorem sorted_len (lt : α → α → Bool) (l : List α) : (sorted lt l).length = l.length := (sorted_perm lt l).length_eq
theorem swo_flat : Swo (fun _ _ : α => false) := ⟨fun _ => rfl, fun _ _ _ _ _ => rfl, fun _ _ h => by cases h⟩
theorem mrg_flat : ∀ (a b : List α), mrg (fun _ _ => false) a b = a ++ b
  | [], b => by rw [mrg]; rfl
  | x :: a, [] => by rw [mrg, List.append_nil]
  | x :: a, y :: b => by rw [mrg, if_neg (by simp), mrg_flat a (y :: b)]; rfl
theorem msortF_flat : ∀ (n : Nat) (l : List α), msortF (fun _ _ => false) n l = l
  | 0, l => rfl
  | n + 1, l => by
    rw [msortF]
    split
    · rfl
    · rw [mrg_flat, msortF_flat n, msortF_flat n, List.take_append_drop]
theorem msort_flat (l : List α) : msort (fun _ _ => false) l = l := msortF_flat _ l
end
end Go.Proofs.Ytdebokambldbbaa.Heap

/- The first k by a pile of the worst; merging by a pile of heads: in plain words. Plain Lean. -/
namespace Go.Proofs.Ytdebokambldbbaa.Heap
set_option linter.unusedVariables false
set_option linter.unusedSectionVars false

section
variable {α : Type} [Inhabited α] {lt : α → α → Bool}
theorem swo_ahead (o : Swo lt) : Swo (ahead lt) := by
  have tr : ∀ u v w, lt u v = true → lt v w = true → lt u w = true := fun u v w huv hvw => by
    cases h : lt u w with
    | true => rfl
    | false => have := o.ntr u w v h (o.asym _ _ hvw); rw [huv] at this; cases this
  refine ⟨fun a => ?_, fun a b c h1 h2 => ?_, fun a b h => ?_⟩
  · rw [ahead_false o]; exact ⟨o.irr _, .inr (Nat.le_refl _)⟩
  · rw [ahead_false o] at h1 h2 ⊢
    refine ⟨o.ntr _ _ _ h1.1 h2.1, ?_⟩
    rcases h1.2 with h3 | h3
    · left
      cases h : lt c.1 a.1 with
      | true => rfl
      | false => have := o.ntr _ _ _ h2.1 h; rw [h3] at this; cases this
    · rcases h2.2 with h4 | h4
      · left
        cases h : lt c.1 a.1 with
        | true => rfl
        | false => have := o.ntr _ _ _ h h1.1; rw [h4] at this; cases this
      · exact .inr (by omega)
  · rw [ahead_true] at h
    rw [ahead_false o]
    rcases h with h | ⟨h1, h2, h3⟩
    · exact ⟨o.asym _ _ h, .inl h⟩
    · exact ⟨h1, .inr (by omega)⟩
theorem swo_pull {β : Type} (o : Swo lt) (f : β → α) : Swo (fun x y => lt (f x) (f y)) := ⟨fun _ => o.irr _, fun _ _ _ h1 h2 => o.ntr _ _ _ h1 h2, fun _ _ h => o.asym _ _ h⟩
theorem swo_rev (o : Swo lt) : Swo (fun x y => lt y x) := ⟨fun _ => o.irr _, fun a b c h1 h2 => o.ntr c b a h2 h1, fun _ _ h => o.asym _ _ h⟩
theorem ahead_tot (o : Swo lt) {a b : α × Nat} (h : a.2 ≠ b.2) (h2 : ahead lt b a = false) : ahead lt a b = true := by
  rw [ahead_false o] at h2
  rw [ahead_true]
  cases h1 : lt a.1 b.1 with
  | true => exact .inl rfl
  | false =>
    rcases h2.2 with h3 | h3
    · rw [h1] at h3; cases h3
    · exact .inr ⟨h2.1, rfl, by omega⟩
theorem ahead_tr (o : Swo lt) {a b c : α × Nat} (h1 : ahead lt a b = true) (h2 : ahead lt b c = true) : ahead lt a c = true := by
  have oo := swo_ahead o
  cases h : ahead lt a c with
  | true => rfl
  | false => have := oo.ntr a c b h (oo.asym _ _ h2); rw [h1] at this; cases this

/-! ### Best -/
/-- the worst first: of places -/
def wlt (lt : α → α → Bool) (x y : α × Nat) : Bool := ahead lt y x
theorem swo_wlt (o : Swo lt) : Swo (wlt lt) := swo_rev (swo_ahead o)
def bestStep (lt : α → α → Bool) (k : Nat) (es : List ((α × Nat) × Nat)) (x : α) (i nx : Nat) : List ((α × Nat) × Nat) :=
  if k < (push (ahead (wlt lt)) es ((x, i), nx)).length then pop (ahead (wlt lt)) (push (ahead (wlt lt)) es ((x, i), nx)) else push (ahead (wlt lt)) es ((x, i), nx)
def bestAll (lt : α → α → Bool) (k : Nat) : List ((α × Nat) × Nat) → Nat → List α → List ((α × Nat) × Nat)
  | es, _, [] => es
  | es, n, x :: l => bestAll lt k (bestStep lt k es x n n) (n + 1) l
theorem bestStep_len (k : Nat) (es : List ((α × Nat) × Nat)) (x : α) (i nx : Nat) : (bestStep lt k es x i nx).length = if k < es.length + 1 then es.length else es.length + 1 := by
  unfold bestStep
  rw [push_len]
  split
  · rw [pop_len, push_len]; omega
  · rw [push_len]
/-- what is kept, what is left -/
structure Kept (lt : α → α → Bool) (k : Nat) (es : List ((α × Nat) × Nat)) (n : Nat) (seen : List α) : Prop where
  book : ∃ L D, Book (wlt lt) es L n ∧ (L.map (·.1) ++ D).Perm (tag 0 seen) ∧ (∀ x ∈ L.map (·.1), ∀ y ∈ D, ahead lt x y = true) ∧ es.length = min k n ∧ n = seen.length
theorem mem_tag : ∀ {l : List α} {m : Nat} {e : α × Nat}, e ∈ tag m l → m ≤ e.2 ∧ e.2 < m + l.length
  | [], _, _, h => by simp [tag] at h
  | x :: l, m, e, h => by
    rw [tag] at h
    rcases List.mem_cons.1 h with rfl | h
    · simp
    · have := mem_tag h; rw [List.length_cons]; omega
theorem tag_rise : ∀ (l : List α) (m : Nat), (tag m l).Pairwise fun a b => a.2 < b.2
  | [], _ => .nil
  | x :: l, m => by
    rw [tag, List.pairwise_cons]
    exact ⟨fun e he => by have := mem_tag he; simp only; omega, tag_rise l (m + 1)⟩
theorem tag_inj {l : List α} {m : Nat} {a b : α × Nat} (ha : a ∈ tag m l) (hb : b ∈ tag m l) (h : a.2 = b.2) : a = b := by
  obtain ⟨i, hi, rfl⟩ := List.mem_iff_getElem.1 ha
  obtain ⟨j, hj, rfl⟩ := List.mem_iff_getElem.1 hb
  have hr := List.pairwise_iff_getElem.1 (tag_rise l m)
  rcases Nat.lt_trichotomy i j with h1 | h1 | h1
  · have := hr i j hi hj h1; omega
  · subst h1; rfl
  · have := hr j i hj hi h1; omega
theorem map_eraseIdx {β γ : Type} (f : β → γ) : ∀ (l : List β) (i : Nat), (l.eraseIdx i).map f = (l.map f).eraseIdx i
  | [], _ => by simp
  | x :: l, 0 => by simp
  | x :: l, i + 1 => by simp [map_eraseIdx f l i]
theorem Kept.step (o : Swo lt) {k : Nat} {es : List ((α × Nat) × Nat)} {n : Nat} {seen : List α} (h : Kept lt k es n seen) (x : α) : Kept lt k (bestStep lt k es x n n) (n + 1) (seen ++ [x]) := by
  obtain ⟨L, D, b, hp, hlt, hl, hn⟩ := h.book
  have b1 := b.push (swo_wlt o) (x, n)
  have hp1 : ((L ++ [((x, n), n)]).map (·.1) ++ D).Perm (tag 0 (seen ++ [x])) := by
    rw [tag_app, List.map_append]
    simp only [List.map_cons, List.map_nil, tag, Nat.zero_add, ← hn]
    rw [List.append_assoc]
    refine (List.Perm.append_left _ (List.perm_append_comm (l₁ := [(x, n)]) (l₂ := D))).trans ?_
    rw [← List.append_assoc]
    exact hp.append_right _
  have hlen := b.len
  have hlen2 : L.length + D.length = n := by
    have := hp.length_eq
    rw [List.length_append, List.length_map, tag_len] at this
    omega
  refine ⟨?_⟩
  unfold bestStep
  rw [push_len]
  by_cases hk : k < es.length + 1
  · rw [if_pos hk]
    obtain ⟨m, hm1, hm2, hm3, b2⟩ := b1.pop (swo_wlt o) (by rw [push_len]; omega)
    obtain ⟨L1, hL1⟩ : ∃ L1, L1 = L ++ [((x, n), n)] := ⟨_, rfl⟩
    rw [← hL1] at hm1 hm2 hm3 b2 hp1
    have hmz : (L1.map (·.1))[m]'(by rw [List.length_map]; exact hm2) = (L1[m]).1 := List.getElem_map ..
    have spec := first_some (swo_wlt o) (l := L1.map (·.1)) (by rw [List.length_map]; omega)
    obtain ⟨m', e1, e2, e3, _⟩ := spec
    rw [hm1] at e1
    obtain rfl := Option.some.inj e1
    rw [nth_map hm2, nth_eq hm2] at e3
    have hmem : ∀ y ∈ L1.map (·.1), y ∈ tag 0 (seen ++ [x]) := fun y hy => hp1.mem_iff.1 (List.mem_append_left _ hy)
    -- every other one stands ahead of the one that goes
    have key : ∀ y ∈ (L1.eraseIdx m).map (·.1), ahead lt y L1[m].1 = true := fun y hy => by
      rw [map_eraseIdx] at hy
      obtain ⟨j, hj, hjm, hje⟩ := List.mem_eraseIdx_iff_getElem.1 hy
      have h1 := e3 j hj
      rw [nth_eq hj, hje] at h1
      have hd : (L1.map (·.1)).Nodup := by
        have := (hp1.nodup_iff.2 (rise_nodup (tag_rise _ _)))
        exact (List.nodup_append.1 this).1
      have hne : y.2 ≠ (L1[m].1).2 := fun e => by
        rw [← hje, ← hmz] at e
        have := tag_inj (hmem _ (List.getElem_mem hj)) (hmem _ (List.getElem_mem _)) e
        have hd' := List.pairwise_iff_getElem.1 hd
        have hm' : m < (L1.map (·.1)).length := by rw [List.length_map]; exact hm2
        rcases Nat.lt_or_gt_of_ne hjm with h2 | h2
        · exact hd' j m hj hm' h2 this
        · exact hd' m j hm' hj h2 this.symm
      exact ahead_tot o hne h1
    refine ⟨L1.eraseIdx m, L1[m].1 :: D, b2, ?_, ?_, by rw [pop_len, push_len]; omega, by simp; omega⟩
    · refine List.Perm.trans ?_ hp1
      refine (List.perm_middle (l₁ := (L1.eraseIdx m).map (·.1)) (l₂ := D) (a := L1[m].1)).trans ?_
      have := ((erase_perm L1 hm2).map (·.1)).append_right D
      simpa using this
    · intro y hy z hz
      rcases List.mem_cons.1 hz with rfl | hz
      · exact key y hy
      · have hy1 : y ∈ L1.map (·.1) := by rw [map_eraseIdx] at hy; exact List.mem_of_mem_eraseIdx hy
        rw [hL1, List.map_append] at hy1
        rcases List.mem_append.1 hy1 with h1 | h1
        · exact hlt y h1 z hz
        · have hyx : y = (x, n) := by simpa using h1
          have hm1' : L1[m] ∈ L ++ [((x, n), n)] := by rw [← hL1]; exact List.getElem_mem hm2
          rcases List.mem_append.1 hm1' with h2 | h2
          · exact ahead_tr o (key y hy) (hlt _ (List.mem_map.2 ⟨_, h2, rfl⟩) z hz)
          · have h2 : L1[m].1 = (x, n) := by rw [List.mem_singleton.1 h2]
            have := key y hy
            rw [h2, hyx, (swo_ahead o).irr] at this
            cases this
  · rw [if_neg hk]
    have hD : D = [] := List.eq_nil_of_length_eq_zero (by omega)
    subst hD
    exact ⟨_, [], b1, hp1, fun y _ z hz => by simp at hz, by rw [push_len]; omega, by simp; omega⟩
theorem Kept.all (o : Swo lt) {k : Nat} : ∀ (l : List α) {es : List ((α × Nat) × Nat)} {n : Nat} {seen : List α}, Kept lt k es n seen → Kept lt k (bestAll lt k es n l) (n + l.length) (seen ++ l)
  | [], es, n, seen, h => by simpa [bestAll] using h
  | x :: l, es, n, seen, h => by
    have := Kept.all o l (h.step o x)
    rw [bestAll, List.length_cons, show n + (l.length + 1) = n + 1 + l.length by omega]
    simpa using this
theorem Kept.nil (k : Nat) : Kept lt k [] 0 [] := ⟨⟨[], [], Book.nil _ _, by simp [tag], fun x hx => by simp at hx, by simp, rfl⟩⟩
def bestOut (lt : α → α → Bool) (k : Nat) (l : List α) : List α := ((popAll (ahead (wlt lt)) (bestAll lt k [] 0 l).length (bestAll lt k [] 0 l)).map (·.1.1)).reverse
theorem best_eq (o : Swo lt) (k : Nat) (l : List α) : bestOut lt k l = (msort lt l).take k := by
  obtain ⟨L, D, b, hp, hlt, hl, hn⟩ := (Kept.all o l (Kept.nil k)).book
  unfold bestOut
  obtain ⟨es, hes⟩ : ∃ es, es = bestAll lt k [] 0 l := ⟨_, rfl⟩
  rw [← hes] at b hl ⊢
  simp only [List.nil_append, Nat.zero_add] at hp hl hn
  have hall := b.all (swo_wlt o)
  have hs := tsort_sorted (swo_wlt o) b.rise
  have hpp : (popAll (ahead (wlt lt)) es.length es).Perm L := by rw [hall]; exact tsort_perm _ _
  rw [← hall] at hs
  obtain ⟨out, hout⟩ : ∃ out, out = ((popAll (ahead (wlt lt)) es.length es).map (·.1)).reverse := ⟨_, rfl⟩
  have hperm : out.Perm (L.map (·.1)) := by rw [hout]; exact (List.reverse_perm _).trans (hpp.map _)
  have hnd : (L.map (·.1)).Nodup := by
    have := hp.nodup_iff.2 (rise_nodup (tag_rise _ _))
    exact (List.nodup_append.1 this).1
  have hsorted : out.Pairwise fun x y => ahead lt x y = true := by
    rw [hout, List.pairwise_reverse, List.pairwise_map]
    have hnd2 : ((popAll (ahead (wlt lt)) es.length es).map (·.1)).Nodup := (hpp.map _).nodup_iff.2 hnd
    have hnd3 : (popAll (ahead (wlt lt)) es.length es).Pairwise fun a b => a.1 ≠ b.1 := List.pairwise_map.1 hnd2
    have hboth := hs.and hnd3
    refine List.Pairwise.imp_of_mem ?_ hboth
    intro a c ha hc hac
    obtain ⟨h1, h2⟩ := hac
    rw [ahead_true] at h1
    rcases h1 with h1 | ⟨h1, h3, _⟩
    · exact h1
    · exfalso
      have ma : a.1 ∈ tag 0 l := hp.mem_iff.1 (List.mem_append_left _ ((hpp.map (·.1)).mem_iff.1 (List.mem_map_of_mem ha)))
      have mc : c.1 ∈ tag 0 l := hp.mem_iff.1 (List.mem_append_left _ ((hpp.map (·.1)).mem_iff.1 (List.mem_map_of_mem hc)))
      have hne : a.1.2 ≠ c.1.2 := fun e => h2 (tag_inj ma mc e)
      have h5 := ahead_tot o hne h3
      rw [show ahead lt a.1 c.1 = false from h1] at h5
      cases h5
  -- behind it the rest, sorted
  have hT := tsort_perm lt (tag 0 l)
  have hTs := tsort_sorted o (tag_rise l 0)
  obtain ⟨R, hRp, hRs⟩ : ∃ R : List (α × Nat), R.Perm D ∧ R.Pairwise fun x y => ahead lt x y = true := by
    classical
    refine ⟨(tsort lt (tag 0 l)).filter fun e => decide (e ∈ D), ?_, hTs.filter _⟩
    have hndT : (tsort lt (tag 0 l)).Nodup := hT.nodup_iff.2 (rise_nodup (tag_rise _ _))
    have hndD : D.Nodup := by
      have := hp.nodup_iff.2 (rise_nodup (tag_rise _ _))
      exact (List.nodup_append.1 this).2.1
    rw [List.perm_ext_iff_of_nodup (hndT.filter _) hndD]
    intro e
    rw [List.mem_filter]
    simp only [decide_eq_true_eq]
    exact ⟨fun h => h.2, fun h => ⟨hT.mem_iff.2 (hp.mem_iff.1 (List.mem_append_right _ h)), h⟩⟩
  have hall2 : out ++ R = tsort lt (tag 0 l) := by
    refine tsort_uniq o (tag_rise l 0) ((hperm.append hRp).trans hp) ?_
    rw [List.pairwise_append]
    exact ⟨hsorted, hRs, fun x hx y hy => hlt x (hperm.mem_iff.1 hx) y (hRp.mem_iff.1 hy)⟩
  have hol : out.length = min k l.length := by rw [hperm.length_eq, List.length_map, ← b.len]; exact hl
  have e1 : ((popAll (ahead (wlt lt)) es.length es).map (·.1.1)).reverse = out.map (·.1) := by rw [hout, List.map_reverse, List.map_map]; rfl
  have e2 : msort lt l = (tsort lt (tag 0 l)).map (·.1) := by rw [tsort_map, tag_map]
  rw [e1, e2, ← hall2, List.map_append]
  by_cases hk : k ≤ l.length
  · rw [List.take_append_of_le_length (by rw [List.length_map]; omega), List.take_of_length_le (by rw [List.length_map]; omega)]
  · have hR0 : R = [] := List.eq_nil_of_length_eq_zero (by
      have h1 := congrArg List.length hall2
      rw [List.length_append, hT.length_eq, tag_len] at h1
      omega)
    rw [hR0, List.map_nil, List.append_nil, List.take_of_length_le (by rw [List.length_map]; omega)]
end
end Go.Proofs.Ytdebokambldbbaa.Heap

/- Merging by a pile of heads, and the document's Merge, in plain words. Plain Lean. -/
namespace Go.Proofs.Ytdebokambldbbaa.Heap
set_option linter.unusedVariables false
set_option linter.unusedSectionVars false

section
variable {α : Type} [Inhabited α] {lt : α → α → Bool}
/-- the thing at place a of list number i -/
def cellAt (ls : List (List α)) (i a : Nat) : α := nth (nth ls i) a
/-- the document's choice among the first k lists -/
def bestMF (lt : α → α → Bool) (ls : List (List α)) (ats : List Nat) : Nat → Option Nat
  | 0 => none
  | k + 1 => match bestMF lt ls ats k with
    | none => if nth ats k < (nth ls k).length then some k else none
    | some b => if nth ats k < (nth ls k).length ∧ lt (cellAt ls k (nth ats k)) (cellAt ls b (nth ats b)) = true then some k else some b
def mergeF (lt : α → α → Bool) (ls : List (List α)) : Nat → List Nat → List α
  | 0, _ => []
  | n + 1, ats => match bestMF lt ls ats ls.length with
    | none => []
    | some b => cellAt ls b (nth ats b) :: mergeF lt ls n (ats.set b (nth ats b + 1))
theorem bestMF_spec (o : Swo lt) (ls : List (List α)) (ats : List Nat) : ∀ (k : Nat), (bestMF lt ls ats k = none ∧ ∀ i, i < k → ¬ nth ats i < (nth ls i).length) ∨
    ∃ b, bestMF lt ls ats k = some b ∧ b < k ∧ nth ats b < (nth ls b).length ∧ (∀ j, j < k → nth ats j < (nth ls j).length → lt (cellAt ls j (nth ats j)) (cellAt ls b (nth ats b)) = false) ∧
      ∀ j, j < b → nth ats j < (nth ls j).length → lt (cellAt ls b (nth ats b)) (cellAt ls j (nth ats j)) = true
  | 0 => .inl ⟨rfl, fun i hi => absurd hi (Nat.not_lt_zero i)⟩
  | k + 1 => by
    rw [bestMF]
    rcases bestMF_spec o ls ats k with ⟨h1, h2⟩ | ⟨b, h1, h2, h3, h4, h5⟩
    · rw [h1]
      by_cases hk : nth ats k < (nth ls k).length
      · right
        refine ⟨k, by simp [hk], by omega, hk, fun j hj hl => ?_, fun j hj hl => absurd hl (h2 j hj)⟩
        by_cases e : j = k
        · subst e; exact o.irr _
        · exact absurd hl (h2 j (by omega))
      · left
        refine ⟨by simp [hk], fun i hi => ?_⟩
        by_cases e : i = k
        · subst e; exact hk
        · exact h2 i (by omega)
    · rw [h1]
      right
      by_cases hk : nth ats k < (nth ls k).length ∧ lt (cellAt ls k (nth ats k)) (cellAt ls b (nth ats b)) = true
      · refine ⟨k, by simp [hk], by omega, hk.1, fun j hj hl => ?_, fun j hj hl => ?_⟩
        · by_cases e : j = k
          · subst e; exact o.irr _
          · exact o.ntr _ _ _ (h4 j (by omega) hl) (o.asym _ _ hk.2)
        · cases hh : lt (cellAt ls k (nth ats k)) (cellAt ls j (nth ats j)) with
          | true => rfl
          | false => have := o.ntr _ _ _ hh (h4 j (by omega) hl); rw [hk.2] at this; cases this
      · refine ⟨b, by simp only [hk, if_false], by omega, h3, fun j hj hl => ?_, h5⟩
        by_cases e : j = k
        · subst e
          cases hh : lt (cellAt ls j (nth ats j)) (cellAt ls b (nth ats b)) with
          | false => rfl
          | true => exact absurd ⟨hl, hh⟩ hk
        · exact h4 j (by omega) hl

/-- heads: by the thing at the head, then by the list's number -/
def hkey (ls : List (List α)) (p : Nat × Nat) : α × Nat := (cellAt ls p.1 p.2, p.1)
def hlt (lt : α → α → Bool) (ls : List (List α)) (p q : Nat × Nat) : Bool := ahead lt (hkey ls p) (hkey ls q)
theorem swo_hlt (o : Swo lt) (ls : List (List α)) : Swo (hlt lt ls) := swo_pull (swo_ahead o) (hkey ls)
def mergeStep (lt : α → α → Bool) (ls : List (List α)) (es : List ((Nat × Nat) × Nat)) (nx : Nat) : List ((Nat × Nat) × Nat) :=
  if (nth es 0).1.2 + 1 < (nth ls (nth es 0).1.1).length then push (ahead (hlt lt ls)) (pop (ahead (hlt lt ls)) es) (((nth es 0).1.1, (nth es 0).1.2 + 1), nx) else pop (ahead (hlt lt ls)) es
def mergeNext (ls : List (List α)) (es : List ((Nat × Nat) × Nat)) (nx : Nat) : Nat := if (nth es 0).1.2 + 1 < (nth ls (nth es 0).1.1).length then nx + 1 else nx
def mergeP (lt : α → α → Bool) (ls : List (List α)) : Nat → List ((Nat × Nat) × Nat) → Nat → List α
  | 0, _, _ => []
  | n + 1, es, nx => if es.length = 0 then [] else cellAt ls (nth es 0).1.1 (nth es 0).1.2 :: mergeP lt ls n (mergeStep lt ls es nx) (mergeNext ls es nx)
structure Heads (lt : α → α → Bool) (ls : List (List α)) (es : List ((Nat × Nat) × Nat)) (nx : Nat) (ats : List Nat) : Prop where
  book : ∃ L, Book (hlt lt ls) es L nx ∧ (∀ i a, (i, a) ∈ L.map (·.1) ↔ i < ls.length ∧ a = nth ats i ∧ a < (nth ls i).length) ∧ ((L.map (·.1)).map (·.1)).Nodup
  len : ats.length = ls.length
theorem nth_set {l : List Nat} {i j v : Nat} (h : i < l.length) : nth (l.set i v) j = if j = i then v else nth l j := by
  unfold nth
  by_cases e : j = i
  · subst e; rw [if_pos rfl, List.getElem?_set_self h]; rfl
  · rw [if_neg e, List.getElem?_set_ne (fun h => e h.symm)]
theorem Heads.step (o : Swo lt) {ls : List (List α)} {es : List ((Nat × Nat) × Nat)} {nx : Nat} {ats : List Nat} (h : Heads lt ls es nx ats) (hpos : 0 < es.length) :
    (nth es 0).1.1 < ls.length ∧ (nth es 0).1.2 = nth ats (nth es 0).1.1 ∧ (nth es 0).1.2 < (nth ls (nth es 0).1.1).length ∧ bestMF lt ls ats ls.length = some (nth es 0).1.1 ∧
      Heads lt ls (mergeStep lt ls es nx) (mergeNext ls es nx) (ats.set (nth es 0).1.1 (nth ats (nth es 0).1.1 + 1)) := by
  obtain ⟨L, b, hm, hnd⟩ := h.book
  have O := swo_hlt o ls
  obtain ⟨m, m1, m2, m3, b2⟩ := b.pop O hpos
  obtain ⟨m', e1, e2, e3, _⟩ := first_some O (l := L.map (·.1)) (by rw [List.length_map]; omega)
  rw [m1] at e1
  obtain rfl := Option.some.inj e1
  obtain ⟨p, hp⟩ : ∃ p, p = (nth es 0).1 := ⟨_, rfl⟩
  have hpm : nth (L.map (·.1)) m = p := by rw [nth_map m2, ← m3, hp]
  have hpL : p ∈ L.map (·.1) := by rw [← hpm]; exact nth_mem e2
  obtain ⟨c1, c2, c3⟩ := (hm p.1 p.2).1 hpL
  have hLp : (L.map (·.1)).Perm (p :: (L.eraseIdx m).map (·.1)) := by
    have := (erase_perm L m2).map (·.1)
    rw [List.map_cons, ← nth_eq m2, ← m3, ← hp] at this
    exact this.symm
  rw [← hp]
  have hbest : bestMF lt ls ats ls.length = some p.1 := by
    rcases bestMF_spec o ls ats ls.length with ⟨h1, h2⟩ | ⟨i, h1, h2, h3, h4, h5⟩
    · exact absurd (c2 ▸ c3) (h2 p.1 c1)
    · rw [h1]
      have hi : (i, nth ats i) ∈ L.map (·.1) := (hm i _).2 ⟨h2, rfl, h3⟩
      obtain ⟨j, hj, hje⟩ := List.mem_iff_getElem.1 hi
      have hmin := e3 j hj
      rw [hpm, nth_eq hj, hje] at hmin
      have hmin : ahead lt (cellAt ls i (nth ats i), i) (cellAt ls p.1 p.2, p.1) = false := hmin
      rw [ahead_false o] at hmin
      have h4' := h4 p.1 c1 (c2 ▸ c3)
      rw [← c2] at h4'
      rcases Nat.lt_trichotomy p.1 i with hlt | heq | hgt
      · have := h5 p.1 hlt (c2 ▸ c3)
        rw [← c2, hmin.1] at this
        cases this
      · rw [heq]
      · rcases hmin.2 with h6 | h6
        · rw [h4'] at h6; cases h6
        · exact absurd h6 (by simp only; omega)
  refine ⟨c1, c2, c3, hbest, ?_, by rw [List.length_set]; exact h.len⟩
  have hal : p.1 < ats.length := by rw [h.len]; exact c1
  have hnd2 := (hLp.map (·.1)).nodup_iff.1 hnd
  rw [List.map_cons, List.nodup_cons] at hnd2
  have hmem2 : ∀ i a, (i, a) ∈ (L.eraseIdx m).map (·.1) ↔ (i, a) ∈ L.map (·.1) ∧ i ≠ p.1 := fun i a => by
    constructor
    · intro hx
      refine ⟨hLp.mem_iff.2 (List.mem_cons_of_mem _ hx), fun e => hnd2.1 ?_⟩
      exact List.mem_map.2 ⟨(i, a), hx, e⟩
    · rintro ⟨hx, hne⟩
      rcases List.mem_cons.1 (hLp.mem_iff.1 hx) with e | e
      · exact absurd (congrArg (·.1) e) hne
      · exact e
  unfold mergeStep mergeNext
  rw [← hp]
  by_cases hmore : p.2 + 1 < (nth ls p.1).length
  · rw [if_pos hmore, if_pos hmore]
    refine ⟨_, b2.push O (p.1, p.2 + 1), fun i a => ?_, ?_⟩
    · rw [List.map_append, List.mem_append, hmem2, hm, nth_set hal]
      simp only [List.map_cons, List.map_nil, List.mem_singleton, Prod.mk.injEq]
      by_cases e : i = p.1
      · subst e
        rw [if_pos rfl, ← c2]
        constructor
        · rintro (⟨_, h⟩ | ⟨_, rfl⟩)
          · exact absurd rfl h
          · exact ⟨c1, rfl, hmore⟩
        · rintro ⟨_, rfl, _⟩
          exact .inr ⟨rfl, rfl⟩
      · rw [if_neg e]
        constructor
        · rintro (⟨h, _⟩ | ⟨h, _⟩)
          · exact h
          · exact absurd h e
        · intro h; exact .inl ⟨h, e⟩
    · rw [List.map_append, List.map_append]
      refine (List.perm_append_comm).nodup_iff.1 ?_
      exact List.nodup_cons.2 hnd2
  · rw [if_neg hmore, if_neg hmore]
    refine ⟨_, b2, fun i a => ?_, hnd2.2⟩
    rw [hmem2, hm, nth_set hal]
    by_cases e : i = p.1
    · subst e
      rw [if_pos rfl, ← c2]
      constructor
      · rintro ⟨_, h⟩; exact absurd rfl h
      · rintro ⟨_, rfl, h⟩; exact absurd h hmore
    · rw [if_neg e]
      exact ⟨fun h => h.1, fun h => ⟨h, e⟩⟩
theorem merge_eq (o : Swo lt) (ls : List (List α)) : ∀ (n : Nat) {es : List ((Nat × Nat) × Nat)} {nx : Nat} {ats : List Nat}, Heads lt ls es nx ats → mergeP lt ls n es nx = mergeF lt ls n ats
  | 0, es, nx, ats, h => rfl
  | n + 1, es, nx, ats, h => by
    rw [mergeP, mergeF]
    by_cases hpos : es.length = 0
    · rw [if_pos hpos]
      have hnone : bestMF lt ls ats ls.length = none := by
        obtain ⟨L, b, hm, _⟩ := h.book
        have hL : L = [] := List.eq_nil_of_length_eq_zero (by rw [← b.len]; exact hpos)
        subst hL
        rcases bestMF_spec o ls ats ls.length with ⟨h1, _⟩ | ⟨i, h1, h2, h3, _⟩
        · exact h1
        · exact absurd ((hm i _).2 ⟨h2, rfl, h3⟩) (by simp)
      rw [hnone]
    · obtain ⟨_, h2, _, h4, h5⟩ := h.step o (by omega)
      rw [if_neg hpos, h4]
      simp only
      rw [← h2, merge_eq o ls n (h2 ▸ h5), h2]

/-! ### the heads at the beginning -/
/-- the pushes at the beginning: list number i onward -/
def headsF (lt : α → α → Bool) (ls : List (List α)) : Nat → List ((Nat × Nat) × Nat) × Nat
  | 0 => ([], 0)
  | k + 1 => if 0 < (nth ls k).length then (push (ahead (hlt lt ls)) (headsF lt ls k).1 ((k, 0), (headsF lt ls k).2), (headsF lt ls k).2 + 1) else headsF lt ls k
theorem headsF_heads (o : Swo lt) (ls : List (List α)) : ∀ (k : Nat), k ≤ ls.length → ∃ L, Book (hlt lt ls) (headsF lt ls k).1 L (headsF lt ls k).2 ∧ (∀ i a, (i, a) ∈ L.map (·.1) ↔ i < k ∧ a = 0 ∧ a < (nth ls i).length) ∧ ((L.map (·.1)).map (·.1)).Nodup
  | 0, _ => ⟨[], Book.nil _ _, fun i a => by simp, by simp⟩
  | k + 1, hk => by
    obtain ⟨L, b, hm, hnd⟩ := headsF_heads o ls k (by omega)
    rw [headsF]
    by_cases hl : 0 < (nth ls k).length
    · rw [if_pos hl]
      refine ⟨_, b.push (swo_hlt o ls) (k, 0), fun i a => ?_, ?_⟩
      · rw [List.map_append, List.mem_append, hm]
        simp only [List.map_cons, List.map_nil, List.mem_singleton, Prod.mk.injEq]
        constructor
        · rintro (⟨h1, h2, h3⟩ | ⟨rfl, rfl⟩)
          · exact ⟨by omega, h2, h3⟩
          · exact ⟨by omega, rfl, hl⟩
        · rintro ⟨h1, h2, h3⟩
          by_cases e : i = k
          · exact .inr ⟨e, h2⟩
          · exact .inl ⟨by omega, h2, h3⟩
      · rw [List.map_append, List.map_append]
        refine (List.perm_append_comm).nodup_iff.1 ?_
        refine List.nodup_cons.2 ⟨fun hx => ?_, hnd⟩
        obtain ⟨⟨i, a⟩, h1, h2⟩ := List.mem_map.1 hx
        have := ((hm i a).1 h1).1
        simp only at h2
        omega
    · rw [if_neg hl]
      refine ⟨L, b, fun i a => ?_, hnd⟩
      rw [hm]
      constructor
      · rintro ⟨h1, h2, h3⟩; exact ⟨by omega, h2, h3⟩
      · rintro ⟨h1, h2, h3⟩
        by_cases e : i = k
        · subst e; subst h2; exact absurd h3 hl
        · exact ⟨by omega, h2, h3⟩
theorem headsF_ok (o : Swo lt) (ls : List (List α)) : Heads lt ls (headsF lt ls ls.length).1 (headsF lt ls ls.length).2 (List.replicate ls.length 0) := by
  obtain ⟨L, b, hm, hnd⟩ := headsF_heads o ls ls.length (Nat.le_refl _)
  refine ⟨⟨L, b, fun i a => ?_, hnd⟩, by simp⟩
  rw [hm]
  constructor
  · rintro ⟨h1, h2, h3⟩
    refine ⟨h1, ?_, h3⟩
    rw [h2]; unfold nth; rw [List.getElem?_replicate, if_pos h1]; rfl
  · rintro ⟨h1, h2, h3⟩
    refine ⟨h1, ?_, h3⟩
    rw [h2]; unfold nth; rw [List.getElem?_replicate, if_pos h1]; rfl
def total (ls : List (List α)) : Nat := (ls.map List.length).sum
/-- the document's Merge -/
def merged (lt : α → α → Bool) (ls : List (List α)) : List α := mergeF lt ls (total ls) (List.replicate ls.length 0)
theorem merged_eq (o : Swo lt) (ls : List (List α)) : mergeP lt ls (total ls) (headsF lt ls ls.length).1 (headsF lt ls ls.length).2 = merged lt ls := merge_eq o ls _ (headsF_ok o ls)
end
end Go.Proofs.Ytdebokambldbbaa.Heap

/- Best, one thing more. Plain Lean. -/
namespace Go.Proofs.Ytdebokambldbbaa.Heap
set_option linter.unusedVariables false
set_option linter.unusedSectionVars false
section
variable {α : Type} [Inhabited α] {lt : α → α → Bool}
theorem bestAll_snoc (k : Nat) (x : α) : ∀ (l : List α) (es : List ((α × Nat) × Nat)) (n : Nat), bestAll lt k es n (l ++ [x]) = bestStep lt k (bestAll lt k es n l) x (n + l.length) (n + l.length)
  | [], es, n => by simp [bestAll]
  | a :: l, es, n => by
    rw [List.cons_append, bestAll, bestAll, bestAll_snoc k x l, List.length_cons]
    rw [show n + 1 + l.length = n + (l.length + 1) by omega]
theorem bestAll_take (k : Nat) (l : List α) {j : Nat} (h : j < l.length) : bestAll lt k [] 0 (l.take (j + 1)) = bestStep lt k (bestAll lt k [] 0 (l.take j)) l[j] j j := by
  rw [List.take_succ_eq_append_getElem h, bestAll_snoc, List.length_take, Nat.min_eq_left (by omega), Nat.zero_add]
theorem bestAll_len (k : Nat) : ∀ (l : List α) (es : List ((α × Nat) × Nat)) (n : Nat), (bestAll lt k es n l).length ≤ es.length + l.length
  | [], es, n => by simp [bestAll]
  | a :: l, es, n => by
    rw [bestAll]
    have h1 := bestAll_len k l (bestStep lt k es a n n) (n + 1)
    have h2 := bestStep_len (lt := lt) k es a n n
    rw [List.length_cons]
    split at h2 <;> omega
end
end Go.Proofs.Ytdebokambldbbaa.Heap
namespace Go.Proofs.Ytdebokambldbbaa.Heap
set_option linter.unusedVariables false
set_option linter.unusedSectionVars false
section
variable {α : Type} [Inhabited α] {lt : α → α → Bool}
/-- how many things are left -/
def rem : List (List α) → List Nat → Nat
  | l :: ls, a :: ats => (l.length - a) + rem ls ats
  | _, _ => 0
theorem nth_zero {ε : Type} [Inhabited ε] (x : ε) (l : List ε) : nth (x :: l) 0 = x := rfl
theorem nth_succ {ε : Type} [Inhabited ε] (x : ε) (l : List ε) (k : Nat) : nth (x :: l) (k + 1) = nth l k := by unfold nth; rw [List.getElem?_cons_succ]
theorem rem_set : ∀ (ls : List (List α)) (ats : List Nat) (b : Nat), b < ls.length → b < ats.length → nth ats b < (nth ls b).length → rem ls (ats.set b (nth ats b + 1)) + 1 = rem ls ats
  | [], _, b, h, _, _ => by simp at h
  | _ :: _, [], b, _, h, _ => by simp at h
  | l :: ls, a :: ats, 0, _, _, h => by
    rw [nth_zero, nth_zero] at h
    rw [nth_zero, List.set_cons_zero, rem, rem]
    omega
  | l :: ls, a :: ats, b + 1, h1, h2, h => by
    rw [nth_succ, nth_succ] at h
    rw [nth_succ, List.set_cons_succ, rem, rem]
    have := rem_set ls ats b (by simpa using h1) (by simpa using h2) h
    omega
theorem rem_pos : ∀ (ls : List (List α)) (ats : List Nat) (b : Nat), b < ls.length → b < ats.length → nth ats b < (nth ls b).length → 0 < rem ls ats := fun ls ats b h1 h2 h => by
  have := rem_set ls ats b h1 h2 h
  omega
theorem rem_zero : ∀ (ls : List (List α)), rem ls (List.replicate ls.length 0) = total ls
  | [] => rfl
  | l :: ls => by
    rw [List.length_cons, List.replicate_succ, rem, rem_zero ls]
    unfold total
    simp
theorem headsF_len (ls : List (List α)) : ∀ k, (headsF lt ls k).1.length ≤ k ∧ (headsF lt ls k).2 ≤ k
  | 0 => ⟨Nat.le_refl _, Nat.le_refl _⟩
  | k + 1 => by
    have ih := headsF_len ls k
    rw [headsF]
    split
    · simp only; rw [push_len]; omega
    · omega
theorem headsF_dom (o : Swo lt) (ls : List (List α)) {k : Nat} (hk : k ≤ ls.length) : ∀ e ∈ (headsF lt ls k).1, e.1.1 < ls.length ∧ e.1.2 < (nth ls e.1.1).length := fun e he => by
  obtain ⟨L, hb, hm, _⟩ := headsF_heads o ls k hk
  have := (hm e.1.1 e.1.2).1 (List.mem_map_of_mem (hb.perm.mem_iff.1 he))
  exact ⟨by omega, this.2.2⟩
/-- the lengths of the first k lists -/
def tot (ls : List (List α)) (k : Nat) : Nat := total (ls.take k)
theorem tot_zero (ls : List (List α)) : tot ls 0 = 0 := rfl
theorem tot_succ (ls : List (List α)) {k : Nat} (h : k < ls.length) : tot ls (k + 1) = tot ls k + (nth ls k).length := by
  unfold tot total
  rw [List.take_succ_eq_append_getElem h, nth_eq h, List.map_append, List.sum_append, List.map_cons, List.map_nil, List.sum_cons, List.sum_nil, Nat.add_zero]
theorem tot_all (ls : List (List α)) : tot ls ls.length = total ls := by unfold tot; rw [List.take_length]
theorem tot_le (ls : List (List α)) : ∀ k, tot ls k ≤ total ls := fun k => by
  unfold tot total
  conv => rhs; rw [← List.take_append_drop k ls]
  rw [List.map_append, List.sum_append]
  omega
/-- the state of a merge -/
structure MG (lt : α → α → Bool) (ls : List (List α)) (o : List α) (es : List ((Nat × Nat) × Nat)) (nx : Nat) : Prop where
  hd : ∃ ats, Heads lt ls es nx ats ∧ o.length + rem ls ats = total ls
  all : o ++ mergeP lt ls (total ls - o.length) es nx = merged lt ls
  len : es.length ≤ ls.length
  num : nx ≤ ls.length + o.length
theorem MG.start (o : Swo lt) (ls : List (List α)) : MG lt ls [] (headsF lt ls ls.length).1 (headsF lt ls ls.length).2 :=
  ⟨⟨_, headsF_ok o ls, by rw [rem_zero]; simp⟩, by simp only [List.nil_append, List.length_nil, Nat.sub_zero]; exact merged_eq o ls, (headsF_len ls _).1, by simpa using (headsF_len ls _).2⟩
theorem MG.dom {ls : List (List α)} {o : List α} {es : List ((Nat × Nat) × Nat)} {nx : Nat} (h : MG lt ls o es nx) : ∀ e ∈ es, e.1.1 < ls.length ∧ e.1.2 < (nth ls e.1.1).length := fun e he => by
  obtain ⟨ats, ⟨⟨L, hb, hm, _⟩, _⟩, _⟩ := h.hd
  have := (hm e.1.1 e.1.2).1 (List.mem_map_of_mem (hb.perm.mem_iff.1 he))
  exact ⟨this.1, this.2.2⟩
theorem MG.step (w : Swo lt) {ls : List (List α)} {o : List α} {es : List ((Nat × Nat) × Nat)} {nx : Nat} (h : MG lt ls o es nx) (hpos : 0 < es.length) :
    o.length < total ls ∧ MG lt ls (o ++ [cellAt ls (nth es 0).1.1 (nth es 0).1.2]) (mergeStep lt ls es nx) (mergeNext ls es nx) := by
  obtain ⟨ats, hh, hr⟩ := h.hd
  obtain ⟨h1, h2, h3, _, h5⟩ := hh.step w hpos
  have hs := rem_set ls ats (nth es 0).1.1 h1 (by rw [hh.len]; exact h1) (by rw [← h2]; exact h3)
  have hlt : o.length < total ls := by omega
  refine ⟨hlt, ⟨_, h5, by rw [List.length_append, List.length_cons, List.length_nil]; omega⟩, ?_, ?_, ?_⟩
  · have ha := h.all
    obtain ⟨n, hn⟩ : ∃ n, total ls - o.length = n + 1 := ⟨total ls - o.length - 1, by omega⟩
    rw [hn, mergeP, if_neg (by omega)] at ha
    rw [← ha, List.length_append, List.length_cons, List.length_nil, show total ls - (o.length + (0 + 1)) = n by omega, List.append_assoc]
    rfl
  · have := h.len
    unfold mergeStep
    split
    · rw [push_len, pop_len]; omega
    · rw [pop_len]; omega
  · have := h.num
    unfold mergeNext
    rw [List.length_append, List.length_cons, List.length_nil]
    split <;> omega
theorem MG.done {ls : List (List α)} {o : List α} {nx : Nat} (h : MG lt ls o [] nx) : o = merged lt ls := by
  have := h.all
  have e : ∀ n, mergeP lt ls n [] nx = [] := fun n => by cases n <;> rfl
  rw [e, List.append_nil] at this
  exact this
end
end Go.Proofs.Ytdebokambldbbaa.Heap
