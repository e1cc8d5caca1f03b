/- A text cut at a byte, and into pieces at it. Plain Lean. -/
namespace Go.Proofs.YtojemdggbcklkaaDoor.Strs
set_option linter.unusedVariables false
set_option linter.unusedSimpArgs false
def cutL (c : UInt8) : List UInt8 → Option (List UInt8 × List UInt8)
  | [] => none
  | x :: r => if x = c then some ([], r) else (cutL c r).map fun p => (x :: p.1, p.2)
theorem cutL_some {c : UInt8} : ∀ {l a b : List UInt8}, cutL c l = some (a, b) → l = a ++ c :: b ∧ c ∉ a
  | [], a, b, h => by cases h
  | x :: r, a, b, h => by
    unfold cutL at h
    by_cases hx : x = c
    · rw [if_pos hx] at h
      simp only [Option.some.injEq, Prod.mk.injEq] at h
      obtain ⟨rfl, rfl⟩ := h
      exact ⟨by rw [hx]; rfl, by simp⟩
    · rw [if_neg hx] at h
      cases hr : cutL c r with
      | none => rw [hr] at h; cases h
      | some p =>
        rw [hr] at h
        simp only [Option.map_some, Option.some.injEq, Prod.mk.injEq] at h
        obtain ⟨rfl, rfl⟩ := h
        obtain ⟨h1, h2⟩ := cutL_some (a := p.1) (b := p.2) hr
        exact ⟨by rw [h1]; rfl, by simp [Ne.symm hx, h2]⟩
theorem cutL_none {c : UInt8} : ∀ {l : List UInt8}, cutL c l = none → c ∉ l
  | [], _ => by simp
  | x :: r, h => by
    unfold cutL at h
    by_cases hx : x = c
    · rw [if_pos hx] at h; cases h
    · rw [if_neg hx] at h
      have := cutL_none (l := r) (by simpa using h)
      simp [Ne.symm hx, this]
theorem cutL_of {c : UInt8} : ∀ {a b : List UInt8}, c ∉ a → cutL c (a ++ c :: b) = some (a, b)
  | [], b, _ => by simp [cutL]
  | x :: r, b, h => by
    have hx : ¬ x = c := fun e => h (by rw [e]; exact List.mem_cons_self)
    rw [List.cons_append, cutL, if_neg hx, cutL_of (fun e => h (List.mem_cons_of_mem _ e))]
    rfl
theorem cutL_not {c : UInt8} {l : List UInt8} (h : c ∉ l) : cutL c l = none := by
  cases hc : cutL c l with
  | none => rfl
  | some p =>
    have := (cutL_some (a := p.1) (b := p.2) hc).1
    rw [this] at h
    simp at h
end Go.Proofs.YtojemdggbcklkaaDoor.Strs
namespace Go.Proofs.YtojemdggbcklkaaDoor.Split
open Go.Proofs.YtojemdggbcklkaaDoor.Strs
set_option linter.unusedVariables false
set_option linter.unusedSimpArgs false
def splitL (c : UInt8) : List UInt8 → List (List UInt8)
  | [] => [[]]
  | x :: r => if x = c then [] :: splitL c r else match splitL c r with | [] => [[x]] | h :: t => (x :: h) :: t
theorem splitL_none {c : UInt8} : ∀ {l : List UInt8}, cutL c l = none → splitL c l = [l]
  | [], _ => rfl
  | x :: r, h => by
    unfold cutL at h
    by_cases hx : x = c
    · rw [if_pos hx] at h; cases h
    · rw [if_neg hx] at h
      have := splitL_none (l := r) (by simpa using h)
      rw [splitL, if_neg hx, this]
theorem splitL_some {c : UInt8} : ∀ {l a b : List UInt8}, cutL c l = some (a, b) → splitL c l = a :: splitL c b
  | [], a, b, h => by cases h
  | x :: r, a, b, h => by
    unfold cutL at h
    by_cases hx : x = c
    · rw [if_pos hx] at h
      simp only [Option.some.injEq, Prod.mk.injEq] at h
      obtain ⟨rfl, rfl⟩ := h
      rw [splitL, if_pos hx]
    · rw [if_neg hx] at h
      cases hr : cutL c r with
      | none => rw [hr] at h; cases h
      | some p =>
        rw [hr] at h
        simp only [Option.map_some, Option.some.injEq, Prod.mk.injEq] at h
        obtain ⟨rfl, rfl⟩ := h
        have := splitL_some (a := p.1) (b := p.2) hr
        rw [splitL, if_neg hx, this]

end Go.Proofs.YtojemdggbcklkaaDoor.Split
