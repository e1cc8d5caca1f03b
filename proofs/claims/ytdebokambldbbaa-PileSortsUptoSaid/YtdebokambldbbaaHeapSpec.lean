/- A pile and the list of what is in it, in the order in which it came. Plain Lean. -/
import Derived.Test.YtdebokambldbbaaHeapPure
namespace Go.Proofs.Ytdebokambldbbaa.Heap
set_option linter.unusedVariables false
set_option linter.unusedSectionVars false

section
variable {ε : Type} [Inhabited ε] {ah : ε → ε → Bool} {S : ε → Prop}
def push (ah : ε → ε → Bool) (es : List ε) (e : ε) : List ε := up ah (es ++ [e]) es.length
def cut (es : List ε) : List ε := (swp es 0 (es.length - 1)).take (es.length - 1)
def pop (ah : ε → ε → Bool) (es : List ε) : List ε := down ah (cut es) 0
theorem push_len (es : List ε) (e : ε) : (push ah es e).length = es.length + 1 := by unfold push; rw [up_len]; simp
theorem push_perm (es : List ε) (e : ε) : (push ah es e).Perm (es ++ [e]) := up_perm _ _ (by simp)
theorem nth_app {es : List ε} {e : ε} {k : Nat} (h : k < es.length) : nth (es ++ [e]) k = nth es k := by unfold nth; rw [List.getElem?_append_left h]
theorem push_heap {es : List ε} {e : ε} (hS : ∀ x ∈ es ++ [e], S x) (o : Ord ah S) (h : Heap ah es) : Heap ah (push ah es e) := by
  refine up_heap _ _ hS o (by simp) ⟨fun k hk hkl hne => ?_, fun k hk hkl hp hpos => ?_⟩
  · simp at hkl
    rw [nth_app (by omega), nth_app (by omega)]
    exact h k hk (by omega)
  · simp at hkl
    omega
theorem cut_len (es : List ε) : (cut es).length = es.length - 1 := by unfold cut; rw [List.length_take, swp_len]; omega
theorem pop_len (es : List ε) : (pop ah es).length = es.length - 1 := by unfold pop; rw [down_len, cut_len]
theorem cut_perm {es : List ε} (h : 0 < es.length) : (nth es 0 :: cut es).Perm es := by
  have h1 : (swp es 0 (es.length - 1)).Perm es := swp_perm h (by omega)
  have h2 : swp es 0 (es.length - 1) = cut es ++ [nth es 0] := by
    have hl : es.length - 1 < (swp es 0 (es.length - 1)).length := by rw [swp_len]; omega
    have h3 := swp_nth h (show es.length - 1 < es.length by omega) (es.length - 1)
    rw [if_pos rfl, nth_eq hl] at h3
    have h4 : (swp es 0 (es.length - 1)).take (es.length - 1 + 1) = swp es 0 (es.length - 1) := by rw [List.take_of_length_le]; rw [swp_len]; omega
    rw [List.take_add_one, List.getElem?_eq_getElem hl, h3] at h4
    exact h4.symm
  rw [h2] at h1
  exact (List.perm_append_comm (l₁ := [nth es 0]) (l₂ := cut es)).trans h1
theorem pop_perm {es : List ε} (h : 0 < es.length) : (nth es 0 :: pop ah es).Perm es := ((down_perm (ah := ah) (cut es) 0).cons _).trans (cut_perm h)
theorem cut_nth {es : List ε} {k : Nat} (hk : 0 < k) (h : k < es.length - 1) : nth (cut es) k = nth es k := by
  have := swp_nth (show 0 < es.length by omega) (show es.length - 1 < es.length by omega) k
  rw [if_neg (by omega), if_neg (by omega)] at this
  rw [← this]
  unfold cut nth
  rw [List.getElem?_take_of_lt h]
theorem pop_heap {es : List ε} (hS : ∀ x ∈ es, S x) (o : Ord ah S) (hl : 0 < es.length) (h : Heap ah es) : Heap ah (pop ah es) := by
  refine down_heap _ _ (fun e he => hS e ((cut_perm hl).mem_iff.1 (List.mem_cons_of_mem _ he))) o ⟨fun k hk hkl hne => ?_, fun k hk hkl hp hpos => by omega⟩
  rw [cut_len] at hkl
  rw [cut_nth hk hkl, cut_nth (by omega) (by omega)]
  exact h k hk (by omega)
end

/-- the loop over the two kids, after r of them -/
def kidR {ε : Type} [Inhabited ε] (ah : ε → ε → Bool) (es : List ε) (k : Nat) : Nat → Nat
  | 0 => k
  | r + 1 => if 2 * k + 1 + r < es.length ∧ ah (nth es (2 * k + 1 + r)) (nth es (kidR ah es k r)) = true then 2 * k + 1 + r else kidR ah es k r
theorem kidR_two {ε : Type} [Inhabited ε] (ah : ε → ε → Bool) (es : List ε) (k : Nat) : kidR ah es k 2 = kid2 ah es k := rfl
theorem kidR_cases {ε : Type} [Inhabited ε] (ah : ε → ε → Bool) (es : List ε) (k : Nat) : ∀ r, kidR ah es k r = k ∨ (k < kidR ah es k r ∧ kidR ah es k r < es.length)
  | 0 => .inl rfl
  | r + 1 => by
    rw [kidR]
    split
    · rename_i h; exact .inr ⟨by omega, h.1⟩
    · exact kidR_cases ah es k r
theorem kidR_yes {ε : Type} [Inhabited ε] {ah : ε → ε → Bool} {es : List ε} {k r : Nat} (h1 : 2 * k + 1 + r < es.length) (h2 : ah (nth es (2 * k + 1 + r)) (nth es (kidR ah es k r)) = true) : kidR ah es k (r + 1) = 2 * k + 1 + r := by rw [kidR, if_pos ⟨h1, h2⟩]
theorem kidR_no1 {ε : Type} [Inhabited ε] {ah : ε → ε → Bool} {es : List ε} {k r : Nat} (h1 : ¬ 2 * k + 1 + r < es.length) : kidR ah es k (r + 1) = kidR ah es k r := by rw [kidR, if_neg (fun h => h1 h.1)]
theorem kidR_no2 {ε : Type} [Inhabited ε] {ah : ε → ε → Bool} {es : List ε} {k r : Nat} (h2 : ah (nth es (2 * k + 1 + r)) (nth es (kidR ah es k r)) = false) : kidR ah es k (r + 1) = kidR ah es k r := by rw [kidR, if_neg (fun h => by rw [h2] at h; cases h.2)]

/-! ### things with the number of their coming -/
section
variable {α : Type} [Inhabited α]
def ahead (lt : α → α → Bool) (a b : α × Nat) : Bool := if lt a.1 b.1 then true else if lt b.1 a.1 then false else decide (a.2 < b.2)
structure Swo (lt : α → α → Bool) : Prop where
  irr : ∀ a, lt a a = false
  ntr : ∀ a b c, lt a b = false → lt b c = false → lt a c = false
  asym : ∀ a b, lt a b = true → lt b a = false
variable {lt : α → α → Bool}
theorem ahead_true {a b : α × Nat} : ahead lt a b = true ↔ lt a.1 b.1 = true ∨ (lt b.1 a.1 = false ∧ lt a.1 b.1 = false ∧ a.2 < b.2) := by
  unfold ahead
  cases h1 : lt a.1 b.1 <;> cases h2 : lt b.1 a.1 <;> simp
theorem ahead_false (o : Swo lt) {a b : α × Nat} : ahead lt a b = false ↔ lt a.1 b.1 = false ∧ (lt b.1 a.1 = true ∨ b.2 ≤ a.2) := by
  unfold ahead
  cases h1 : lt a.1 b.1 <;> cases h2 : lt b.1 a.1 <;> simp
theorem ahead_ord (o : Swo lt) {L : List (α × Nat)} (hL : L.Pairwise fun a b => a.2 < b.2) : Ord (ahead lt) (· ∈ L) := by
  have inj : ∀ a b, a ∈ L → b ∈ L → a.2 = b.2 → a = b := by
    intro a b ha hb he
    obtain ⟨i, hi, rfl⟩ := List.mem_iff_getElem.1 ha
    obtain ⟨j, hj, rfl⟩ := List.mem_iff_getElem.1 hb
    rw [List.pairwise_iff_getElem] at hL
    rcases Nat.lt_trichotomy i j with h | h | h
    · have := hL i j hi hj h; omega
    · subst h; rfl
    · have := hL j i hj hi h; omega
  refine ⟨fun a _ => ?_, fun a b ha hb h1 h2 => ?_, fun a b c _ _ _ h1 h2 => ?_⟩
  · rw [ahead_false o]; exact ⟨o.irr _, .inr (Nat.le_refl _)⟩
  · rw [ahead_false o] at h1 h2
    refine inj a b ha hb ?_
    rcases h1.2 with h | h
    · rw [h2.1] at h; cases h
    · rcases h2.2 with h' | h'
      · rw [h1.1] at h'; cases h'
      · omega
  · rw [ahead_true] at h1 h2 ⊢
    have tr : ∀ x y z, lt x y = true → lt y z = true → lt x z = true := fun x y z hxy hyz => by
      cases h : lt x z with
      | true => rfl
      | false => have := o.ntr x z y h (o.asym _ _ hyz); rw [hxy] at this; cases this
    rcases h1 with h1 | ⟨h1, h1', h1''⟩ <;> rcases h2 with h2 | ⟨h2, h2', h2''⟩
    · exact .inl (tr _ _ _ h1 h2)
    · left
      cases h : lt a.1 c.1 with
      | true => rfl
      | false => have := o.ntr _ _ _ h h2; rw [h1] at this; cases this
    · left
      cases h : lt a.1 c.1 with
      | true => rfl
      | false => have := o.ntr _ _ _ h1 h; rw [h2] at this; cases this
    · exact .inr ⟨o.ntr _ _ _ h2 h1, o.ntr _ _ _ h1' h2', by omega⟩

/-- the place of the first: the document's loop -/
def firstF (lt : α → α → Bool) (l : List α) : Nat → Option Nat
  | 0 => none
  | k + 1 => match firstF lt l k with
    | none => some k
    | some b => if lt (nth l k) (nth l b) then some k else some b
def first (lt : α → α → Bool) (l : List α) : Option Nat := firstF lt l l.length
theorem firstF_spec (o : Swo lt) (l : List α) : ∀ (k : Nat), k ≤ l.length → (k = 0 ∧ firstF lt l k = none) ∨ ∃ b, firstF lt l k = some b ∧ b < k ∧ (∀ j, j < k → lt (nth l j) (nth l b) = false) ∧ ∀ j, j < b → lt (nth l b) (nth l j) = true := fun k => by
  induction k with
  | zero => intro _; exact .inl ⟨rfl, rfl⟩
  | succ k ih =>
    intro hk
    right
    rw [firstF]
    rcases ih (by omega) with ⟨h0, h1⟩ | ⟨b, h1, h2, h3, h4⟩
    · rw [h1]
      subst h0
      refine ⟨0, rfl, by omega, fun j hj => ?_, fun j hj => by omega⟩
      obtain rfl : j = 0 := by omega
      exact o.irr _
    · rw [h1]
      simp only
      split
      · rename_i h
        refine ⟨k, rfl, by omega, fun j hj => ?_, fun j hj => ?_⟩
        · by_cases e : j = k
          · subst e; exact o.irr _
          · exact o.ntr _ _ _ (h3 j (by omega)) (o.asym _ _ h)
        · cases hh : lt (nth l k) (nth l j) with
          | true => rfl
          | false => have := o.ntr _ _ _ hh (h3 j (by omega)); rw [h] at this; cases this
      · rename_i h
        refine ⟨b, rfl, by omega, fun j hj => ?_, h4⟩
        by_cases e : j = k
        · subst e; simpa using h
        · exact h3 j (by omega)
theorem first_none (o : Swo lt) {l : List α} (h : l.length = 0) : first lt l = none := by
  unfold first; rw [h]; rfl
theorem first_some (o : Swo lt) {l : List α} (h : 0 < l.length) : ∃ b, first lt l = some b ∧ b < l.length ∧ (∀ j, j < l.length → lt (nth l j) (nth l b) = false) ∧ ∀ j, j < b → lt (nth l b) (nth l j) = true := by
  rcases firstF_spec o l l.length (Nat.le_refl _) with ⟨h0, _⟩ | h1
  · omega
  · exact h1
end

/-- a pile's entries es over the book L: what is in it, in the order of coming -/
structure Book {α : Type} [Inhabited α] (lt : α → α → Bool) (es L : List (α × Nat)) (nx : Nat) : Prop where
  perm : es.Perm L
  rise : L.Pairwise fun a b => a.2 < b.2
  low : ∀ e ∈ L, e.2 < nx
  heap : Heap (ahead lt) es
section
variable {α : Type} [Inhabited α] {lt : α → α → Bool} {es L : List (α × Nat)} {nx : Nat}
theorem erase_perm {β : Type} : ∀ (l : List β) {i : Nat} (h : i < l.length), (l[i] :: l.eraseIdx i).Perm l
  | [], _, h => by simp at h
  | a :: r, 0, _ => .refl _
  | a :: r, i + 1, h => by
    have h' : i < r.length := by simpa using h
    rw [List.eraseIdx_cons_succ, List.getElem_cons_succ]
    exact (List.Perm.swap a r[i] _).trans ((erase_perm r h').cons a)
theorem Book.nil (lt : α → α → Bool) (nx : Nat) : Book lt [] [] nx := ⟨.refl _, .nil, fun _ h => by simp at h, fun k _ h => by simp at h⟩
theorem Book.len (b : Book lt es L nx) : es.length = L.length := b.perm.length_eq
theorem Book.push (o : Swo lt) (b : Book lt es L nx) (x : α) : Book lt (push (ahead lt) es (x, nx)) (L ++ [(x, nx)]) (nx + 1) := by
  have hr : (L ++ [(x, nx)]).Pairwise fun a b => a.2 < b.2 := by
    rw [List.pairwise_append]
    exact ⟨b.rise, by simp, fun a ha c hc => by simp at hc; subst hc; exact b.low a ha⟩
  have hp : (es ++ [(x, nx)]).Perm (L ++ [(x, nx)]) := b.perm.append_right _
  refine ⟨(push_perm _ _).trans hp, hr, fun e he => ?_, push_heap (fun e he => hp.mem_iff.1 he) (ahead_ord o hr) b.heap⟩
  rcases List.mem_append.1 he with h | h
  · exact Nat.lt_succ_of_lt (b.low e h)
  · simp at h; subst h; exact Nat.lt_succ_self _
theorem nth_map {k : Nat} (h : k < L.length) : nth (L.map (·.1)) k = (nth L k).1 := by
  rw [nth_eq (by simpa using h), nth_eq h, List.getElem_map]
theorem Book.pop (o : Swo lt) (b : Book lt es L nx) (h : 0 < es.length) : ∃ m, first lt (L.map (·.1)) = some m ∧ m < L.length ∧ nth es 0 = nth L m ∧ Book lt (pop (ahead lt) es) (L.eraseIdx m) nx := by
  have hl := b.len
  obtain ⟨m, h1, h2, h3, h4⟩ := first_some o (l := L.map (·.1)) (by rw [List.length_map]; omega)
  rw [List.length_map] at h2 h3
  have hmem : ∀ e ∈ es, e ∈ L := fun e he => b.perm.mem_iff.1 he
  have O := ahead_ord o b.rise
  have top : ∀ e ∈ L, ahead lt e (nth es 0) = false := fun e he => by
    obtain ⟨k, hk, rfl⟩ := List.mem_iff_getElem.1 (b.perm.mem_iff.2 he)
    rw [← nth_eq hk]
    exact heap_top k hmem O b.heap hk
  have hm : nth L m ∈ L := nth_mem h2
  have min : ∀ e ∈ L, ahead lt e (nth L m) = false := fun e he => by
    obtain ⟨k, hk, rfl⟩ := List.mem_iff_getElem.1 he
    rw [ahead_false o, ← nth_eq hk]
    have e1 := h3 k hk
    rw [nth_map hk, nth_map h2] at e1
    refine ⟨e1, ?_⟩
    by_cases hkm : k < m
    · have := h4 k hkm
      rw [nth_map hk, nth_map h2] at this
      exact .inl this
    · right
      by_cases e : k = m
      · subst e; exact Nat.le_refl _
      · have := List.pairwise_iff_getElem.1 b.rise m k h2 hk (by omega)
        rw [← nth_eq h2, ← nth_eq hk] at this
        omega
  have ht : nth es 0 ∈ L := hmem _ (nth_mem h)
  have heq : nth es 0 = nth L m := O.tot _ _ ht hm (min _ ht) (top _ hm)
  refine ⟨m, h1, h2, heq, ?_, ?_, fun e he => b.low e (List.mem_of_mem_eraseIdx he), pop_heap hmem O h b.heap⟩
  · have p1 : (nth es 0 :: Heap.pop (ahead lt) es).Perm (nth L m :: L.eraseIdx m) := by
      refine (pop_perm h).trans (b.perm.trans ?_)
      rw [nth_eq h2]
      exact (erase_perm L h2).symm
    rw [heq] at p1
    exact p1.cons_inv
  · exact b.rise.sublist (List.eraseIdx_sublist _ _)
end
end Go.Proofs.Ytdebokambldbbaa.Heap
