/- An argument that is a number. -/
import Derived.Test.YtojemdggbcklkaaDoorOpenRd
namespace Go.Proofs.YtojemdggbcklkaaDoor.WireO
open Go.RowKit Go.WideShapes Go.ChangeShapes Go.Deep Go.Proofs.YtojemdggbcklkaaDoor.Mem
theorem open_int {H : Type} {enc : TypeId × Value → H} {W : World} {v : Value} {d : DataW H} {p : List MemPlace} (h : DataW.Trod enc Tryd.prog W 0 (fun _ => true) true 3 v d p) (hs : ∃ z, v = .int .i64 z) :
    ∃ z : Int, v = .int .i64 z ∧ (-9223372036854775808 ≤ z ∧ z ≤ 9223372036854775807) := by
  obtain ⟨z, rfl⟩ := hs
  obtain ⟨fuel, hf⟩ := h
  obtain ⟨z', hz, _, hwf⟩ := DataW.trod_int Tryd.underlying3 hf
  have e : z = z' := by simpa [Value.cells] using hz
  subst e
  exact ⟨z, rfl, by simpa [Lit.wf, IntKind.min, IntKind.max, IntKind.signed, IntKind.bits] using hwf⟩
end Go.Proofs.YtojemdggbcklkaaDoor.WireO
