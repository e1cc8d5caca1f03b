/- Sorting by a number: rising, stable; merging sorted parts is sorting. Plain Lean. -/
import Derived.Test.YtdebokambldbbaaPileMerge2
import Derived.Test.YtdebokambldbbaaPileSort
namespace Go.Proofs.Ytdebokambldbbaa.Heap
set_option linter.unusedVariables false
set_option linter.unusedSectionVars false
section
variable {α : Type} [Inhabited α] {f : α → Nat}
def ltN (f : α → Nat) (a b : α) : Bool := decide (f a < f b)
theorem swo_ltN (f : α → Nat) : Swo (ltN f) := ⟨fun a => by unfold ltN; simp, fun a b c h1 h2 => by unfold ltN at *; simp at *; omega, fun a b h => by unfold ltN at *; simp at *; omega⟩
/-- rising -/
def Rises (f : α → Nat) (l : List α) : Prop := l.Pairwise fun a b => f a ≤ f b
theorem mrg_rises : ∀ (a b : List α), Rises f a → Rises f b → Rises f (mrg (ltN f) a b)
  | [], b, _, hb => by rw [mrg]; exact hb
  | x :: a, [], ha, _ => by rw [mrg]; exact ha
  | x :: a, y :: b, ha, hb => by
    rw [mrg]
    unfold Rises at ha hb
    rw [List.pairwise_cons] at ha hb
    by_cases h : ltN f y x = true
    · rw [if_pos h]
      refine List.pairwise_cons.2 ⟨fun z hz => ?_, mrg_rises (x :: a) b (List.pairwise_cons.2 ha) hb.2⟩
      have := (mrg_perm (ltN f) (x :: a) b).mem_iff.1 hz
      unfold ltN at h
      simp at h
      rcases List.mem_append.1 this with h1 | h1
      · rcases List.mem_cons.1 h1 with rfl | h1
        · omega
        · have := ha.1 z h1; omega
      · exact hb.1 z h1
    · rw [if_neg h]
      refine List.pairwise_cons.2 ⟨fun z hz => ?_, mrg_rises a (y :: b) ha.2 (List.pairwise_cons.2 hb)⟩
      have := (mrg_perm (ltN f) a (y :: b)).mem_iff.1 hz
      unfold ltN at h
      simp at h
      rcases List.mem_append.1 this with h1 | h1
      · exact ha.1 z h1
      · rcases List.mem_cons.1 h1 with rfl | h1
        · exact h
        · have := hb.1 z h1; omega
termination_by a b => a.length + b.length
theorem msortF_rises : ∀ (n : Nat) (l : List α), l.length ≤ n → Rises f (msortF (ltN f) n l)
  | 0, l, h => by
    have : l = [] := List.eq_nil_of_length_eq_zero (by omega)
    subst this
    exact .nil
  | n + 1, l, h => by
    rw [msortF]
    split
    · rename_i h2
      match l, h2 with
      | [], _ => exact .nil
      | [a], _ => exact List.pairwise_singleton _ _
    · exact mrg_rises _ _ (msortF_rises n _ (by rw [List.length_take]; omega)) (msortF_rises n _ (by rw [List.length_drop]; omega))
theorem msort_rises (l : List α) : Rises f (msort (ltN f) l) := msortF_rises _ l (Nat.le_refl _)
theorem mrg_filter (n : Nat) : ∀ (a b : List α), Rises f a → (mrg (ltN f) a b).filter (fun x => f x == n) = a.filter (fun x => f x == n) ++ b.filter (fun x => f x == n)
  | [], b, _ => by rw [mrg]; rfl
  | x :: a, [], _ => by rw [mrg]; simp
  | x :: a, y :: b, ha => by
    rw [mrg]
    unfold Rises at ha
    have ha' := List.pairwise_cons.1 ha
    by_cases h : ltN f y x = true
    · rw [if_pos h, List.filter_cons, mrg_filter n (x :: a) b ha]
      by_cases hy : (f y == n) = true
      · have he : (x :: a).filter (fun x => f x == n) = [] := by
          rw [List.filter_eq_nil_iff]
          intro z hz hzn
          unfold ltN at h
          simp at h hy hzn
          rcases List.mem_cons.1 hz with rfl | hz
          · omega
          · have := ha'.1 z hz; omega
        rw [he, if_pos hy, List.filter_cons (x := y), if_pos hy]
        rfl
      · rw [if_neg hy, List.filter_cons (x := y), if_neg hy]
    · rw [if_neg h, List.filter_cons, mrg_filter n a (y :: b) ha'.2, List.filter_cons (x := x)]
      split <;> rfl
termination_by a b => a.length + b.length
theorem msortF_filter (n : Nat) : ∀ (m : Nat) (l : List α), l.length ≤ m → (msortF (ltN f) m l).filter (fun x => f x == n) = l.filter (fun x => f x == n)
  | 0, l, h => rfl
  | m + 1, l, h => by
    rw [msortF]
    split
    · rfl
    · rw [mrg_filter n _ _ (msortF_rises m _ (by rw [List.length_take]; omega)), msortF_filter n m _ (by rw [List.length_take]; omega), msortF_filter n m _ (by rw [List.length_drop]; omega), ← List.filter_append, List.take_append_drop]
theorem msort_filter (n : Nat) (l : List α) : (msort (ltN f) l).filter (fun x => f x == n) = l.filter (fun x => f x == n) := msortF_filter n _ l (Nat.le_refl _)
end
section
variable {α : Type} [Inhabited α] {lt : α → α → Bool}
/-- merging two sorted parts is sorting the whole -/
theorem mrg_msort (o : Swo lt) (a b : List α) : mrg lt (msort lt a) (msort lt b) = msort lt (a ++ b) := by
  have h1 : (tsort lt (tag 0 a)).map (·.1) = msort lt a := by rw [tsort_map, tag_map]
  have h2 : (tsort lt (tag a.length b)).map (·.1) = msort lt b := by rw [tsort_map, tag_map]
  have h3 : (tsort lt (tag 0 (a ++ b))).map (·.1) = msort lt (a ++ b) := by rw [tsort_map, tag_map]
  rw [← h1, ← h2, ← h3, ← mrg_map]
  congr 1
  refine tsort_uniq o (tag_rise _ _) ?_ (mrg_sorted o _ _ (tsort_sorted o (tag_rise _ _)) (tsort_sorted o (tag_rise _ _)) ?_)
  · have e := tag_app 0 a b
    rw [Nat.zero_add] at e
    rw [e]
    exact (mrg_perm _ _ _).trans ((tsort_perm lt _).append (tsort_perm lt _))
  · intro x hx y hy
    have h4 := mem_tag ((tsort_perm lt _).mem_iff.1 hx)
    have h5 := mem_tag ((tsort_perm lt _).mem_iff.1 hy)
    omega
theorem cell3 (a b : List α) (j : Nat) : cellAt [a, [], b] 0 j = nth a j ∧ cellAt [a, [], b] 2 j = nth b j := ⟨rfl, rfl⟩
theorem best3 (a b : List α) (i j : Nat) : bestMF lt [a, [], b] [i, 0, j] 3 = if i < a.length then (if j < b.length ∧ lt (nth b j) (nth a i) = true then some 2 else some 0) else (if j < b.length then some 2 else none) := by
  have n0 : nth [i, 0, j] 0 = i := rfl
  have n1 : nth [i, 0, j] 1 = 0 := rfl
  have n2 : nth [i, 0, j] 2 = j := rfl
  have l0 : nth [a, [], b] 0 = a := rfl
  have l1 : nth [a, [], b] 1 = [] := rfl
  have l2 : nth [a, [], b] 2 = b := rfl
  by_cases hi : i < a.length
  · simp only [bestMF, n0, n1, n2, l0, l1, l2, cellAt, hi, if_true, List.length_nil, Nat.lt_irrefl, false_and, if_false]
  · simp only [bestMF, n0, n1, n2, l0, l1, l2, cellAt, hi, if_false, List.length_nil, Nat.lt_irrefl]
theorem mergeF3 (a b : List α) : ∀ (n i j : Nat), (a.length - i) + (b.length - j) ≤ n → mergeF lt [a, [], b] n [i, 0, j] = mrg lt (a.drop i) (b.drop j)
  | 0, i, j, h => by
    rw [mergeF, List.drop_eq_nil_of_le (by omega), mrg, List.drop_eq_nil_of_le (by omega)]
  | n + 1, i, j, h => by
    rw [mergeF, show ([a, [], b] : List (List α)).length = 3 from rfl, best3]
    by_cases hi : i < a.length
    · rw [if_pos hi, List.drop_eq_getElem_cons hi]
      by_cases hj : j < b.length
      · rw [List.drop_eq_getElem_cons hj, mrg]
        by_cases hl : lt (nth b j) (nth a i) = true
        · rw [if_pos ⟨hj, hl⟩]
          rw [nth_eq hj, nth_eq hi] at hl
          rw [if_pos hl]
          show cellAt [a, [], b] 2 j :: mergeF lt [a, [], b] n [i, 0, j + 1] = _
          rw [(cell3 a b j).2, nth_eq hj, mergeF3 a b n i (j + 1) (by omega), ← List.drop_eq_getElem_cons hi]
        · rw [if_neg (fun e => hl e.2)]
          rw [nth_eq hj, nth_eq hi] at hl
          rw [if_neg hl]
          show cellAt [a, [], b] 0 i :: mergeF lt [a, [], b] n [i + 1, 0, j] = _
          rw [(cell3 a b i).1, nth_eq hi, mergeF3 a b n (i + 1) j (by omega), ← List.drop_eq_getElem_cons hj]
      · rw [if_neg (fun e => hj e.1), List.drop_eq_nil_of_le (by omega : b.length ≤ j), mrg_nil]
        show cellAt [a, [], b] 0 i :: mergeF lt [a, [], b] n [i + 1, 0, j] = _
        rw [(cell3 a b i).1, nth_eq hi, mergeF3 a b n (i + 1) j (by omega), List.drop_eq_nil_of_le (by omega : b.length ≤ j), mrg_nil]
    · rw [if_neg hi, List.drop_eq_nil_of_le (by omega : a.length ≤ i), mrg]
      by_cases hj : j < b.length
      · rw [if_pos hj, List.drop_eq_getElem_cons hj]
        show cellAt [a, [], b] 2 j :: mergeF lt [a, [], b] n [i, 0, j + 1] = _
        rw [(cell3 a b j).2, nth_eq hj, mergeF3 a b n i (j + 1) (by omega), List.drop_eq_nil_of_le (by omega : a.length ≤ i), mrg]
      · rw [if_neg hj, List.drop_eq_nil_of_le (by omega : b.length ≤ j)]
theorem merged3 (o : Swo lt) (a b : List α) : merged lt [msort lt a, [], msort lt b] = msort lt (a ++ b) := by
  unfold merged
  show mergeF lt _ _ [0, 0, 0] = _
  rw [mergeF3 _ _ _ 0 0 (by unfold total; simp), List.drop_zero, List.drop_zero, mrg_msort o]
end
end Go.Proofs.Ytdebokambldbbaa.Heap
