/- An argument that is a number. -/
import Derived.Test.YtojemdggbcklkaaDoorOpen
import Derived.Test.YtojemdggbcklkaaDoorCards
import Derived.Test.YtojemdggbcklkaaDoorTie
import Derived.Deep.DeepHandedRow
import Derived.Lib.LaidTab
import Derived.ChangeSame

/- The wire laws' openers: what is laid, the package's tables. -/
namespace Go.Proofs.YtojemdggbcklkaaDoor.WireO
open Go.RowKit Go.WideShapes Go.ChangeShapes Go.Deep Go.Proofs.YtojemdggbcklkaaDoor.Mem
set_option linter.unusedVariables false
set_option linter.unusedSimpArgs false

theorem own : ownKnob Tryd.prog.godebug = none := by kernel_rfl
theorem laidOut : laidOutB Tryd.prog = true := by kernel_rfl
/-- a variable's block with these cells -/
def setTab (cs : Array Value) : Obj → Obj
  | .cells _ t frozen => .cells cs t frozen
  | o => o
theorem open_str {H : Type} {enc : TypeId × Value → H} {W : World} {v : Value} {d : DataW H} {p : List MemPlace} (h : DataW.Trod enc Tryd.prog W 0 (fun _ => true) true 9 v d p) (hs : ∃ s, v = .string s) :
    ∃ s : List UInt8, v = .string ⟨s.toArray⟩ ∧ s.length ≤ Rows.uptoBulk d := by
  obtain ⟨s, rfl⟩ := hs
  obtain ⟨fuel, hf⟩ := h
  obtain ⟨s', h, hx, hs⟩ := DataW.trod_string Tryd.underlying9 hf
  simp [Value.cells] at h
  subst h
  simp only [Prod.mk.injEq] at hx
  obtain ⟨rfl, _⟩ := hx
  exact ⟨s.data.toList, rfl, by simp [Rows.uptoBulk]⟩
theorem open_list {H : Type} {enc : TypeId × Value → H} {W : World} {v : Value} {d : DataW H} {p : List MemPlace} (h : DataW.Trod enc Tryd.prog W 0 (fun _ => true) true 22 v d p) (hs : ∃ a len cap, v = .slice a len cap) :
    ∃ (A : Option Addr) (c : Nat) (l : List UInt8), v = .slice A l.length c ∧ RB W A l ∧ l.length ≤ c ∧ (A = none → c = 0) ∧ c ≤ maxLen ∧ l.length + 1 ≤ Rows.uptoBulk d := by
  obtain ⟨a, len, cap, rfl⟩ := hs
  obtain ⟨fuel, hf⟩ := h
  obtain ⟨A, c, l, hv, hr, hc, hb⟩ := open_bytes Tryd.underlying22 Tryd.underlying5 (by kernel_rfl) hf
  rcases open_ints Tryd.underlying22 Tryd.underlying5 (by kernel_rfl) hf with ⟨hcs, _⟩ | ⟨a', len', cap', zs, hcs, _, hl', hm, _⟩
  · simp [Value.cells] at hcs hv
    obtain ⟨rfl, rfl, rfl⟩ := hcs
    obtain ⟨rfl, h1, rfl⟩ := hv
    exact ⟨none, 0, l, by rw [h1], hr, hc, (fun _ => rfl), (by decide), hb⟩
  · simp [Value.cells] at hcs hv
    obtain ⟨rfl, rfl, rfl⟩ := hcs
    obtain ⟨rfl, h1, rfl⟩ := hv
    exact ⟨some a', cap, l, by rw [h1], hr, hc, (fun h => by cases h), hm, hb⟩
end Go.Proofs.YtojemdggbcklkaaDoor.WireO
namespace Go.Proofs.YtojemdggbcklkaaDoor.WireO
open Go.RowKit Go.WideShapes Go.ChangeShapes Go.Deep Go.Proofs.YtojemdggbcklkaaDoor.Mem
theorem open_int {H : Type} {enc : TypeId × Value → H} {W : World} {v : Value} {d : DataW H} {p : List MemPlace} (h : DataW.Trod enc Tryd.prog W 0 (fun _ => true) true 3 v d p) (hs : ∃ z, v = .int .i64 z) :
    ∃ z : Int, v = .int .i64 z ∧ (-9223372036854775808 ≤ z ∧ z ≤ 9223372036854775807) := by
  obtain ⟨z, rfl⟩ := hs
  obtain ⟨fuel, hf⟩ := h
  obtain ⟨z', hz, _, hwf⟩ := DataW.trod_int Tryd.underlying3 hf
  have e : z = z' := by simpa [Value.cells] using hz
  subst e
  exact ⟨z, rfl, by simpa [Lit.wf, IntKind.min, IntKind.max, IntKind.signed, IntKind.bits] using hwf⟩
end Go.Proofs.YtojemdggbcklkaaDoor.WireO
