/- Merging by a pile of heads, and the document's Merge, in plain words. Plain Lean. -/
import Derived.Test.YtdebokambldbbaaPileBest
namespace Go.Proofs.Ytdebokambldbbaa.Heap
set_option linter.unusedVariables false
set_option linter.unusedSectionVars false

section
variable {α : Type} [Inhabited α] {lt : α → α → Bool}
/-- the thing at place a of list number i -/
def cellAt (ls : List (List α)) (i a : Nat) : α := nth (nth ls i) a
/-- the document's choice among the first k lists -/
def bestMF (lt : α → α → Bool) (ls : List (List α)) (ats : List Nat) : Nat → Option Nat
  | 0 => none
  | k + 1 => match bestMF lt ls ats k with
    | none => if nth ats k < (nth ls k).length then some k else none
    | some b => if nth ats k < (nth ls k).length ∧ lt (cellAt ls k (nth ats k)) (cellAt ls b (nth ats b)) = true then some k else some b
def mergeF (lt : α → α → Bool) (ls : List (List α)) : Nat → List Nat → List α
  | 0, _ => []
  | n + 1, ats => match bestMF lt ls ats ls.length with
    | none => []
    | some b => cellAt ls b (nth ats b) :: mergeF lt ls n (ats.set b (nth ats b + 1))
theorem bestMF_spec (o : Swo lt) (ls : List (List α)) (ats : List Nat) : ∀ (k : Nat), (bestMF lt ls ats k = none ∧ ∀ i, i < k → ¬ nth ats i < (nth ls i).length) ∨
    ∃ b, bestMF lt ls ats k = some b ∧ b < k ∧ nth ats b < (nth ls b).length ∧ (∀ j, j < k → nth ats j < (nth ls j).length → lt (cellAt ls j (nth ats j)) (cellAt ls b (nth ats b)) = false) ∧
      ∀ j, j < b → nth ats j < (nth ls j).length → lt (cellAt ls b (nth ats b)) (cellAt ls j (nth ats j)) = true
  | 0 => .inl ⟨rfl, fun i hi => absurd hi (Nat.not_lt_zero i)⟩
  | k + 1 => by
    rw [bestMF]
    rcases bestMF_spec o ls ats k with ⟨h1, h2⟩ | ⟨b, h1, h2, h3, h4, h5⟩
    · rw [h1]
      by_cases hk : nth ats k < (nth ls k).length
      · right
        refine ⟨k, by simp [hk], by omega, hk, fun j hj hl => ?_, fun j hj hl => absurd hl (h2 j hj)⟩
        by_cases e : j = k
        · subst e; exact o.irr _
        · exact absurd hl (h2 j (by omega))
      · left
        refine ⟨by simp [hk], fun i hi => ?_⟩
        by_cases e : i = k
        · subst e; exact hk
        · exact h2 i (by omega)
    · rw [h1]
      right
      by_cases hk : nth ats k < (nth ls k).length ∧ lt (cellAt ls k (nth ats k)) (cellAt ls b (nth ats b)) = true
      · refine ⟨k, by simp [hk], by omega, hk.1, fun j hj hl => ?_, fun j hj hl => ?_⟩
        · by_cases e : j = k
          · subst e; exact o.irr _
          · exact o.ntr _ _ _ (h4 j (by omega) hl) (o.asym _ _ hk.2)
        · cases hh : lt (cellAt ls k (nth ats k)) (cellAt ls j (nth ats j)) with
          | true => rfl
          | false => have := o.ntr _ _ _ hh (h4 j (by omega) hl); rw [hk.2] at this; cases this
      · refine ⟨b, by simp only [hk, if_false], by omega, h3, fun j hj hl => ?_, h5⟩
        by_cases e : j = k
        · subst e
          cases hh : lt (cellAt ls j (nth ats j)) (cellAt ls b (nth ats b)) with
          | false => rfl
          | true => exact absurd ⟨hl, hh⟩ hk
        · exact h4 j (by omega) hl

/-- heads: by the thing at the head, then by the list's number -/
def hkey (ls : List (List α)) (p : Nat × Nat) : α × Nat := (cellAt ls p.1 p.2, p.1)
def hlt (lt : α → α → Bool) (ls : List (List α)) (p q : Nat × Nat) : Bool := ahead lt (hkey ls p) (hkey ls q)
theorem swo_hlt (o : Swo lt) (ls : List (List α)) : Swo (hlt lt ls) := swo_pull (swo_ahead o) (hkey ls)
def mergeStep (lt : α → α → Bool) (ls : List (List α)) (es : List ((Nat × Nat) × Nat)) (nx : Nat) : List ((Nat × Nat) × Nat) :=
  if (nth es 0).1.2 + 1 < (nth ls (nth es 0).1.1).length then push (ahead (hlt lt ls)) (pop (ahead (hlt lt ls)) es) (((nth es 0).1.1, (nth es 0).1.2 + 1), nx) else pop (ahead (hlt lt ls)) es
def mergeNext (ls : List (List α)) (es : List ((Nat × Nat) × Nat)) (nx : Nat) : Nat := if (nth es 0).1.2 + 1 < (nth ls (nth es 0).1.1).length then nx + 1 else nx
def mergeP (lt : α → α → Bool) (ls : List (List α)) : Nat → List ((Nat × Nat) × Nat) → Nat → List α
  | 0, _, _ => []
  | n + 1, es, nx => if es.length = 0 then [] else cellAt ls (nth es 0).1.1 (nth es 0).1.2 :: mergeP lt ls n (mergeStep lt ls es nx) (mergeNext ls es nx)
structure Heads (lt : α → α → Bool) (ls : List (List α)) (es : List ((Nat × Nat) × Nat)) (nx : Nat) (ats : List Nat) : Prop where
  book : ∃ L, Book (hlt lt ls) es L nx ∧ (∀ i a, (i, a) ∈ L.map (·.1) ↔ i < ls.length ∧ a = nth ats i ∧ a < (nth ls i).length) ∧ ((L.map (·.1)).map (·.1)).Nodup
  len : ats.length = ls.length
theorem nth_set {l : List Nat} {i j v : Nat} (h : i < l.length) : nth (l.set i v) j = if j = i then v else nth l j := by
  unfold nth
  by_cases e : j = i
  · subst e; rw [if_pos rfl, List.getElem?_set_self h]; rfl
  · rw [if_neg e, List.getElem?_set_ne (fun h => e h.symm)]
theorem Heads.step (o : Swo lt) {ls : List (List α)} {es : List ((Nat × Nat) × Nat)} {nx : Nat} {ats : List Nat} (h : Heads lt ls es nx ats) (hpos : 0 < es.length) :
    (nth es 0).1.1 < ls.length ∧ (nth es 0).1.2 = nth ats (nth es 0).1.1 ∧ (nth es 0).1.2 < (nth ls (nth es 0).1.1).length ∧ bestMF lt ls ats ls.length = some (nth es 0).1.1 ∧
      Heads lt ls (mergeStep lt ls es nx) (mergeNext ls es nx) (ats.set (nth es 0).1.1 (nth ats (nth es 0).1.1 + 1)) := by
  obtain ⟨L, b, hm, hnd⟩ := h.book
  have O := swo_hlt o ls
  obtain ⟨m, m1, m2, m3, b2⟩ := b.pop O hpos
  obtain ⟨m', e1, e2, e3, _⟩ := first_some O (l := L.map (·.1)) (by rw [List.length_map]; omega)
  rw [m1] at e1
  obtain rfl := Option.some.inj e1
  obtain ⟨p, hp⟩ : ∃ p, p = (nth es 0).1 := ⟨_, rfl⟩
  have hpm : nth (L.map (·.1)) m = p := by rw [nth_map m2, ← m3, hp]
  have hpL : p ∈ L.map (·.1) := by rw [← hpm]; exact nth_mem e2
  obtain ⟨c1, c2, c3⟩ := (hm p.1 p.2).1 hpL
  have hLp : (L.map (·.1)).Perm (p :: (L.eraseIdx m).map (·.1)) := by
    have := (erase_perm L m2).map (·.1)
    rw [List.map_cons, ← nth_eq m2, ← m3, ← hp] at this
    exact this.symm
  rw [← hp]
  have hbest : bestMF lt ls ats ls.length = some p.1 := by
    rcases bestMF_spec o ls ats ls.length with ⟨h1, h2⟩ | ⟨i, h1, h2, h3, h4, h5⟩
    · exact absurd (c2 ▸ c3) (h2 p.1 c1)
    · rw [h1]
      have hi : (i, nth ats i) ∈ L.map (·.1) := (hm i _).2 ⟨h2, rfl, h3⟩
      obtain ⟨j, hj, hje⟩ := List.mem_iff_getElem.1 hi
      have hmin := e3 j hj
      rw [hpm, nth_eq hj, hje] at hmin
      have hmin : ahead lt (cellAt ls i (nth ats i), i) (cellAt ls p.1 p.2, p.1) = false := hmin
      rw [ahead_false o] at hmin
      have h4' := h4 p.1 c1 (c2 ▸ c3)
      rw [← c2] at h4'
      rcases Nat.lt_trichotomy p.1 i with hlt | heq | hgt
      · have := h5 p.1 hlt (c2 ▸ c3)
        rw [← c2, hmin.1] at this
        cases this
      · rw [heq]
      · rcases hmin.2 with h6 | h6
        · rw [h4'] at h6; cases h6
        · exact absurd h6 (by simp only; omega)
  refine ⟨c1, c2, c3, hbest, ?_, by rw [List.length_set]; exact h.len⟩
  have hal : p.1 < ats.length := by rw [h.len]; exact c1
  have hnd2 := (hLp.map (·.1)).nodup_iff.1 hnd
  rw [List.map_cons, List.nodup_cons] at hnd2
  have hmem2 : ∀ i a, (i, a) ∈ (L.eraseIdx m).map (·.1) ↔ (i, a) ∈ L.map (·.1) ∧ i ≠ p.1 := fun i a => by
    constructor
    · intro hx
      refine ⟨hLp.mem_iff.2 (List.mem_cons_of_mem _ hx), fun e => hnd2.1 ?_⟩
      exact List.mem_map.2 ⟨(i, a), hx, e⟩
    · rintro ⟨hx, hne⟩
      rcases List.mem_cons.1 (hLp.mem_iff.1 hx) with e | e
      · exact absurd (congrArg (·.1) e) hne
      · exact e
  unfold mergeStep mergeNext
  rw [← hp]
  by_cases hmore : p.2 + 1 < (nth ls p.1).length
  · rw [if_pos hmore, if_pos hmore]
    refine ⟨_, b2.push O (p.1, p.2 + 1), fun i a => ?_, ?_⟩
    · rw [List.map_append, List.mem_append, hmem2, hm, nth_set hal]
      simp only [List.map_cons, List.map_nil, List.mem_singleton, Prod.mk.injEq]
      by_cases e : i = p.1
      · subst e
        rw [if_pos rfl, ← c2]
        constructor
        · rintro (⟨_, h⟩ | ⟨_, rfl⟩)
          · exact absurd rfl h
          · exact ⟨c1, rfl, hmore⟩
        · rintro ⟨_, rfl, _⟩
          exact .inr ⟨rfl, rfl⟩
      · rw [if_neg e]
        constructor
        · rintro (⟨h, _⟩ | ⟨h, _⟩)
          · exact h
          · exact absurd h e
        · intro h; exact .inl ⟨h, e⟩
    · rw [List.map_append, List.map_append]
      refine (List.perm_append_comm).nodup_iff.1 ?_
      exact List.nodup_cons.2 hnd2
  · rw [if_neg hmore, if_neg hmore]
    refine ⟨_, b2, fun i a => ?_, hnd2.2⟩
    rw [hmem2, hm, nth_set hal]
    by_cases e : i = p.1
    · subst e
      rw [if_pos rfl, ← c2]
      constructor
      · rintro ⟨_, h⟩; exact absurd rfl h
      · rintro ⟨_, rfl, h⟩; exact absurd h hmore
    · rw [if_neg e]
      exact ⟨fun h => h.1, fun h => ⟨h, e⟩⟩
theorem merge_eq (o : Swo lt) (ls : List (List α)) : ∀ (n : Nat) {es : List ((Nat × Nat) × Nat)} {nx : Nat} {ats : List Nat}, Heads lt ls es nx ats → mergeP lt ls n es nx = mergeF lt ls n ats
  | 0, es, nx, ats, h => rfl
  | n + 1, es, nx, ats, h => by
    rw [mergeP, mergeF]
    by_cases hpos : es.length = 0
    · rw [if_pos hpos]
      have hnone : bestMF lt ls ats ls.length = none := by
        obtain ⟨L, b, hm, _⟩ := h.book
        have hL : L = [] := List.eq_nil_of_length_eq_zero (by rw [← b.len]; exact hpos)
        subst hL
        rcases bestMF_spec o ls ats ls.length with ⟨h1, _⟩ | ⟨i, h1, h2, h3, _⟩
        · exact h1
        · exact absurd ((hm i _).2 ⟨h2, rfl, h3⟩) (by simp)
      rw [hnone]
    · obtain ⟨_, h2, _, h4, h5⟩ := h.step o (by omega)
      rw [if_neg hpos, h4]
      simp only
      rw [← h2, merge_eq o ls n (h2 ▸ h5), h2]

/-! ### the heads at the beginning -/
/-- the pushes at the beginning: list number i onward -/
def headsF (lt : α → α → Bool) (ls : List (List α)) : Nat → List ((Nat × Nat) × Nat) × Nat
  | 0 => ([], 0)
  | k + 1 => if 0 < (nth ls k).length then (push (ahead (hlt lt ls)) (headsF lt ls k).1 ((k, 0), (headsF lt ls k).2), (headsF lt ls k).2 + 1) else headsF lt ls k
theorem headsF_heads (o : Swo lt) (ls : List (List α)) : ∀ (k : Nat), k ≤ ls.length → ∃ L, Book (hlt lt ls) (headsF lt ls k).1 L (headsF lt ls k).2 ∧ (∀ i a, (i, a) ∈ L.map (·.1) ↔ i < k ∧ a = 0 ∧ a < (nth ls i).length) ∧ ((L.map (·.1)).map (·.1)).Nodup
  | 0, _ => ⟨[], Book.nil _ _, fun i a => by simp, by simp⟩
  | k + 1, hk => by
    obtain ⟨L, b, hm, hnd⟩ := headsF_heads o ls k (by omega)
    rw [headsF]
    by_cases hl : 0 < (nth ls k).length
    · rw [if_pos hl]
      refine ⟨_, b.push (swo_hlt o ls) (k, 0), fun i a => ?_, ?_⟩
      · rw [List.map_append, List.mem_append, hm]
        simp only [List.map_cons, List.map_nil, List.mem_singleton, Prod.mk.injEq]
        constructor
        · rintro (⟨h1, h2, h3⟩ | ⟨rfl, rfl⟩)
          · exact ⟨by omega, h2, h3⟩
          · exact ⟨by omega, rfl, hl⟩
        · rintro ⟨h1, h2, h3⟩
          by_cases e : i = k
          · exact .inr ⟨e, h2⟩
          · exact .inl ⟨by omega, h2, h3⟩
      · rw [List.map_append, List.map_append]
        refine (List.perm_append_comm).nodup_iff.1 ?_
        refine List.nodup_cons.2 ⟨fun hx => ?_, hnd⟩
        obtain ⟨⟨i, a⟩, h1, h2⟩ := List.mem_map.1 hx
        have := ((hm i a).1 h1).1
        simp only at h2
        omega
    · rw [if_neg hl]
      refine ⟨L, b, fun i a => ?_, hnd⟩
      rw [hm]
      constructor
      · rintro ⟨h1, h2, h3⟩; exact ⟨by omega, h2, h3⟩
      · rintro ⟨h1, h2, h3⟩
        by_cases e : i = k
        · subst e; subst h2; exact absurd h3 hl
        · exact ⟨by omega, h2, h3⟩
theorem headsF_ok (o : Swo lt) (ls : List (List α)) : Heads lt ls (headsF lt ls ls.length).1 (headsF lt ls ls.length).2 (List.replicate ls.length 0) := by
  obtain ⟨L, b, hm, hnd⟩ := headsF_heads o ls ls.length (Nat.le_refl _)
  refine ⟨⟨L, b, fun i a => ?_, hnd⟩, by simp⟩
  rw [hm]
  constructor
  · rintro ⟨h1, h2, h3⟩
    refine ⟨h1, ?_, h3⟩
    rw [h2]; unfold nth; rw [List.getElem?_replicate, if_pos h1]; rfl
  · rintro ⟨h1, h2, h3⟩
    refine ⟨h1, ?_, h3⟩
    rw [h2]; unfold nth; rw [List.getElem?_replicate, if_pos h1]; rfl
def total (ls : List (List α)) : Nat := (ls.map List.length).sum
/-- the document's Merge -/
def merged (lt : α → α → Bool) (ls : List (List α)) : List α := mergeF lt ls (total ls) (List.replicate ls.length 0)
theorem merged_eq (o : Swo lt) (ls : List (List α)) : mergeP lt ls (total ls) (headsF lt ls ls.length).1 (headsF lt ls ls.length).2 = merged lt ls := merge_eq o ls _ (headsF_ok o ls)
end
end Go.Proofs.Ytdebokambldbbaa.Heap
