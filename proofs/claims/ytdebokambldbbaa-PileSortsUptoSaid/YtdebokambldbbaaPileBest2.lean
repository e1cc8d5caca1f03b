/- Best, one thing more. Plain Lean. -/
import Derived.Test.YtdebokambldbbaaPileBest
namespace Go.Proofs.Ytdebokambldbbaa.Heap
set_option linter.unusedVariables false
set_option linter.unusedSectionVars false
section
variable {α : Type} [Inhabited α] {lt : α → α → Bool}
theorem bestAll_snoc (k : Nat) (x : α) : ∀ (l : List α) (es : List ((α × Nat) × Nat)) (n : Nat), bestAll lt k es n (l ++ [x]) = bestStep lt k (bestAll lt k es n l) x (n + l.length) (n + l.length)
  | [], es, n => by simp [bestAll]
  | a :: l, es, n => by
    rw [List.cons_append, bestAll, bestAll, bestAll_snoc k x l, List.length_cons]
    rw [show n + 1 + l.length = n + (l.length + 1) by omega]
theorem bestAll_take (k : Nat) (l : List α) {j : Nat} (h : j < l.length) : bestAll lt k [] 0 (l.take (j + 1)) = bestStep lt k (bestAll lt k [] 0 (l.take j)) l[j] j j := by
  rw [List.take_succ_eq_append_getElem h, bestAll_snoc, List.length_take, Nat.min_eq_left (by omega), Nat.zero_add]
theorem bestAll_len (k : Nat) : ∀ (l : List α) (es : List ((α × Nat) × Nat)) (n : Nat), (bestAll lt k es n l).length ≤ es.length + l.length
  | [], es, n => by simp [bestAll]
  | a :: l, es, n => by
    rw [bestAll]
    have h1 := bestAll_len k l (bestStep lt k es a n n) (n + 1)
    have h2 := bestStep_len (lt := lt) k es a n n
    rw [List.length_cons]
    split at h2 <;> omega
end
end Go.Proofs.Ytdebokambldbbaa.Heap
