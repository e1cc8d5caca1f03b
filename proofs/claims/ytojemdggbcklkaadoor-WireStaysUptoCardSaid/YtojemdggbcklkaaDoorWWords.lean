/- wire: the words of a status; a number's digits as the reference writes them. -/
import Derived.Test.YtojemdggbcklkaaDoorWShelf
import Derived.Test.YtojemdggbcklkaaDoorQuiet
import Derived.Test.YtojemdggbcklkaaDoorByteRow
import Derived.Test.YtojemdggbcklkaaDoorRgLite
import Derived.Test.YtojemdggbcklkaaDoorWPure
namespace Go.Proofs.YtojemdggbcklkaaDoor.WireW
open Go.RowKit Go.Proofs.YtojemdggbcklkaaDoor.Mem Go.Proofs.YtojemdggbcklkaaDoor.Wire
set_option linter.unusedVariables false
set_option linter.unusedSimpArgs false
set_option maxRecDepth 4000

/-- the words behind a status -/
def wordsS (n : Nat) : List UInt8 :=
  if n = 200 then [79, 75] else if n = 400 then [66, 97, 100, 32, 82, 101, 113, 117, 101, 115, 116] else if n = 401 then [85, 110, 97, 117, 116, 104, 111, 114, 105, 122, 101, 100]
  else if n = 404 then [78, 111, 116, 32, 70, 111, 117, 110, 100] else if n = 413 then [67, 111, 110, 116, 101, 110, 116, 32, 84, 111, 111, 32, 76, 97, 114, 103, 101]
  else if n = 422 then [85, 110, 112, 114, 111, 99, 101, 115, 115, 97, 98, 108, 101, 32, 67, 111, 110, 116, 101, 110, 116] else if n = 500 then [73, 110, 116, 101, 114, 110, 97, 108, 32, 83, 101, 114, 118, 101, 114, 32, 69, 114, 114, 111, 114] else [85, 110, 107, 110, 111, 119, 110]
theorem wordsS_len (n : Nat) : (wordsS n).length ≤ 21 := by
  unfold wordsS
  by_cases h0 : n = 200
  · rw [if_pos h0]; decide
  rw [if_neg h0]
  by_cases h1 : n = 400
  · rw [if_pos h1]; decide
  rw [if_neg h1]
  by_cases h2 : n = 401
  · rw [if_pos h2]; decide
  rw [if_neg h2]
  by_cases h3 : n = 404
  · rw [if_pos h3]; decide
  rw [if_neg h3]
  by_cases h4 : n = 413
  · rw [if_pos h4]; decide
  rw [if_neg h4]
  by_cases h5 : n = 422
  · rw [if_pos h5]; decide
  rw [if_neg h5]
  by_cases h6 : n = 500
  · rw [if_pos h6]; decide
  rw [if_neg h6]
  decide
set_option maxHeartbeats 1600000 in
theorem words_any (n : Nat) (w : World) : Calls Tryd.prog 27 #[.int .i64 n] w fun e w' => e = .returned (.string ⟨(wordsS n).toArray⟩) ∧ Below w.heap.size w w' := by
  by_cases h0 : n = 200
  · subst h0
    show Calls Tryd.prog 27 #[.int .i64 200] w fun e w' => e = .returned (.string ⟨(wordsS 200).toArray⟩) ∧ Below w.heap.size w w'
    go_enter Tryd.func27, Tryd.ntmps27
    go_wp2
    go_ret
    exact ⟨rfl, gr w⟩
  by_cases h1 : n = 400
  · subst h1
    show Calls Tryd.prog 27 #[.int .i64 400] w fun e w' => e = .returned (.string ⟨(wordsS 400).toArray⟩) ∧ Below w.heap.size w w'
    go_enter Tryd.func27, Tryd.ntmps27
    go_wp2
    go_ret
    exact ⟨rfl, gr w⟩
  by_cases h2 : n = 401
  · subst h2
    show Calls Tryd.prog 27 #[.int .i64 401] w fun e w' => e = .returned (.string ⟨(wordsS 401).toArray⟩) ∧ Below w.heap.size w w'
    go_enter Tryd.func27, Tryd.ntmps27
    go_wp2
    go_ret
    exact ⟨rfl, gr w⟩
  by_cases h3 : n = 404
  · subst h3
    show Calls Tryd.prog 27 #[.int .i64 404] w fun e w' => e = .returned (.string ⟨(wordsS 404).toArray⟩) ∧ Below w.heap.size w w'
    go_enter Tryd.func27, Tryd.ntmps27
    go_wp2
    go_ret
    exact ⟨rfl, gr w⟩
  by_cases h4 : n = 413
  · subst h4
    show Calls Tryd.prog 27 #[.int .i64 413] w fun e w' => e = .returned (.string ⟨(wordsS 413).toArray⟩) ∧ Below w.heap.size w w'
    go_enter Tryd.func27, Tryd.ntmps27
    go_wp2
    go_ret
    exact ⟨rfl, gr w⟩
  by_cases h5 : n = 422
  · subst h5
    show Calls Tryd.prog 27 #[.int .i64 422] w fun e w' => e = .returned (.string ⟨(wordsS 422).toArray⟩) ∧ Below w.heap.size w w'
    go_enter Tryd.func27, Tryd.ntmps27
    go_wp2
    go_ret
    exact ⟨rfl, gr w⟩
  by_cases h6 : n = 500
  · subst h6
    show Calls Tryd.prog 27 #[.int .i64 500] w fun e w' => e = .returned (.string ⟨(wordsS 500).toArray⟩) ∧ Below w.heap.size w w'
    go_enter Tryd.func27, Tryd.ntmps27
    go_wp2
    go_ret
    exact ⟨rfl, gr w⟩
  have e : wordsS n = [85, 110, 107, 110, 111, 119, 110] := by unfold wordsS; rw [if_neg h0, if_neg h1, if_neg h2, if_neg h3, if_neg h4, if_neg h5, if_neg h6]
  rw [e]
  have q0 : ¬ (n : Int) = 200 := by omega
  have q1 : ¬ (n : Int) = 400 := by omega
  have q2 : ¬ (n : Int) = 401 := by omega
  have q3 : ¬ (n : Int) = 404 := by omega
  have q4 : ¬ (n : Int) = 413 := by omega
  have q5 : ¬ (n : Int) = 422 := by omega
  have q6 : ¬ (n : Int) = 500 := by omega
  clear e h0 h1 h2 h3 h4 h5 h6
  go_enter Tryd.func27, Tryd.ntmps27
  go_wp2
  go_ret
  exact ⟨rfl, gr w⟩
set_option maxHeartbeats 1600000 in
theorem rwords_any (n : Nat) (w : World) : Calls Tryd.prog 29 #[.int .i64 n] w fun e w' => e = .returned (.string ⟨(wordsS n).toArray⟩) ∧ Below w.heap.size w w' := by
  by_cases h0 : n = 200
  · subst h0
    show Calls Tryd.prog 29 #[.int .i64 200] w fun e w' => e = .returned (.string ⟨(wordsS 200).toArray⟩) ∧ Below w.heap.size w w'
    go_enter Tryd.func29, Tryd.ntmps29
    go_wp2
    go_ret
    exact ⟨rfl, gr w⟩
  by_cases h1 : n = 400
  · subst h1
    show Calls Tryd.prog 29 #[.int .i64 400] w fun e w' => e = .returned (.string ⟨(wordsS 400).toArray⟩) ∧ Below w.heap.size w w'
    go_enter Tryd.func29, Tryd.ntmps29
    go_wp2
    go_ret
    exact ⟨rfl, gr w⟩
  by_cases h2 : n = 401
  · subst h2
    show Calls Tryd.prog 29 #[.int .i64 401] w fun e w' => e = .returned (.string ⟨(wordsS 401).toArray⟩) ∧ Below w.heap.size w w'
    go_enter Tryd.func29, Tryd.ntmps29
    go_wp2
    go_ret
    exact ⟨rfl, gr w⟩
  by_cases h3 : n = 404
  · subst h3
    show Calls Tryd.prog 29 #[.int .i64 404] w fun e w' => e = .returned (.string ⟨(wordsS 404).toArray⟩) ∧ Below w.heap.size w w'
    go_enter Tryd.func29, Tryd.ntmps29
    go_wp2
    go_ret
    exact ⟨rfl, gr w⟩
  by_cases h4 : n = 413
  · subst h4
    show Calls Tryd.prog 29 #[.int .i64 413] w fun e w' => e = .returned (.string ⟨(wordsS 413).toArray⟩) ∧ Below w.heap.size w w'
    go_enter Tryd.func29, Tryd.ntmps29
    go_wp2
    go_ret
    exact ⟨rfl, gr w⟩
  by_cases h5 : n = 422
  · subst h5
    show Calls Tryd.prog 29 #[.int .i64 422] w fun e w' => e = .returned (.string ⟨(wordsS 422).toArray⟩) ∧ Below w.heap.size w w'
    go_enter Tryd.func29, Tryd.ntmps29
    go_wp2
    go_ret
    exact ⟨rfl, gr w⟩
  by_cases h6 : n = 500
  · subst h6
    show Calls Tryd.prog 29 #[.int .i64 500] w fun e w' => e = .returned (.string ⟨(wordsS 500).toArray⟩) ∧ Below w.heap.size w w'
    go_enter Tryd.func29, Tryd.ntmps29
    go_wp2
    go_ret
    exact ⟨rfl, gr w⟩
  have e : wordsS n = [85, 110, 107, 110, 111, 119, 110] := by unfold wordsS; rw [if_neg h0, if_neg h1, if_neg h2, if_neg h3, if_neg h4, if_neg h5, if_neg h6]
  rw [e]
  have q0 : ¬ (n : Int) = 200 := by omega
  have q1 : ¬ (n : Int) = 400 := by omega
  have q2 : ¬ (n : Int) = 401 := by omega
  have q3 : ¬ (n : Int) = 404 := by omega
  have q4 : ¬ (n : Int) = 413 := by omega
  have q5 : ¬ (n : Int) = 422 := by omega
  have q6 : ¬ (n : Int) = 500 := by omega
  clear e h0 h1 h2 h3 h4 h5 h6
  go_enter Tryd.func29, Tryd.ntmps29
  go_wp2
  go_ret
  exact ⟨rfl, gr w⟩
end Go.Proofs.YtojemdggbcklkaaDoor.WireW
