/- Go's strings.Contains at a separator of one byte. -/
import Derived.Test.YtoemceehmiaigaaDoorStrs
namespace Go.Proofs.YtoemceehmiaigaaDoor.Strs
open Go.RowKit Go.Proofs.YtoemceehmiaigaaDoor.Mem
set_option linter.unusedVariables false

set_option maxHeartbeats 1000000 in
theorem contains_one (l : List UInt8) (c : UInt8) (w : World) :
    Calls Tryd.prog 60 #[.string ⟨l.toArray⟩, .string ⟨#[c]⟩] w fun e w' => e = .returned (.bool (cutL c l).isSome) ∧ w' = w := by
  go_enter Tryd.func60, Tryd.ntmps60
  go_wp2_with (go_at_call 73; refine (index_one _ _ _).mono ?_; rintro e w' ⟨rfl, rfl⟩)
  go_ret
  refine ⟨ret_bool ?_, rfl⟩
  show decide ((0 : Int) ≤ Lib.indexByte l c) = _
  rw [indexByte_cut]
  cases cutL c l with
  | none => rfl
  | some p => simp

end Go.Proofs.YtoemceehmiaigaaDoor.Strs
