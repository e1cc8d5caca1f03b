/- pile over H: a new pile with a less or none; what a range over its Drain owes. -/
import Derived.Test.YtdebokambldbbaaPlFH
namespace Go.Proofs.Ytdebokambldbbaa.PileH
open Go.RowKit Go.Shelf Go.Proofs.Ytdebokambldbbaa.Mem Go.Proofs.Ytdebokambldbbaa.Heap Go.Proofs.Ytdebokambldbbaa.Pile Go.Proofs.Ytdebokambldbbaa.Drain
set_option linter.unusedVariables false
set_option linter.unusedSectionVars false

section
variable {β : Type} [Inhabited β] {th : Th β 2}
/-- a less that is handed in, or none -/
def FvOk (th : Th β 2) (W : World) (fv : Value) (lt : β → β → Bool) (D : β → Prop) : Prop := (fv = .nilFunc ∧ lt = fun _ _ => false) ∨ ((∃ g lb, fv = .func (.func g) #[] lb) ∧ Less Try.prog W.heap.size W (vl th) D fv lt)
theorem new_ok {lt : β → β → Bool} {D : β → Prop} (W : World) (fv : Value) (h : FvOk th W fv lt D) : Calls Try.prog 50 #[fv] W fun e W' => e = .returned (.pointer (some ⟨W.heap.size, 0, none⟩)) ∧ (∃ fv', PlK th W' W.heap.size W.heap.size (.slice none 0 0) fv' [] 0 ∧ Less Try.prog W.heap.size W (vl th) D fv' lt) ∧ Below W.heap.size W W' := by
  rcases h with ⟨rfl, rfl⟩ | ⟨⟨g, lb, rfl⟩, hL⟩
  · exact (new_nil (th := th) W).mono fun e W' ⟨h1, h2, h3⟩ => ⟨h1, ⟨_, h2, flat_less⟩, h3⟩
  · exact (new_any (th := th) W _ g lb rfl).mono fun e W' ⟨h1, h2, h3⟩ => ⟨h1, ⟨_, h2, hL⟩, h3⟩
/-- one step of a drain -/
theorem pop_step {w0 : World} {D : β → Prop} {lt : β → β → Bool} {B p : Nat} {v fv : Value} {es : List (β × Nat)} {nx : Nat} (W : World) (h : PlK th W B p v fv es nx) (hL : Less Try.prog B w0 (vl th) D fv lt) (hw : Below B w0 W) (hB : B ≤ W.heap.size) (hBp : B ≤ p) (hD : ∀ e ∈ es, D e.1) (hn : es.length ≤ 1152921504606846976) :
    Calls Try.prog 78 #[.pointer (some ⟨p, 0, none⟩)] W fun e W' => KeepsOthers W W' ∧ Below B w0 W' ∧ Grown2 W W' (some p) v.ownBlock ∧
      ((e = .returned (.tuple #[zv, .bool false]) ∧ es = [] ∧ PlK th W' B p v fv es nx) ∨
       ∃ x r, e = .returned (.tuple #[vl th x, .bool true]) ∧ 0 < es.length ∧ x = (nth es 0).1 ∧ r = Heap.pop (Heap.ahead lt) es ∧ ∃ v', PlK th W' B p v' fv r nx ∧ v'.ownBlock = v.ownBlock) := by
  have hrow : ∀ k, v.ownBlock = some k → B ≤ k := fun k hk => (h.own.lt k hk).1
  by_cases h0 : es.length = 0
  · refine (pop_none W _ fun W1 hb => by have := len_any W1 (h.grow hb); rw [h0] at this; exact this).mono fun e W' ⟨he, hb⟩ => ⟨keepsOthers_below hb, hw.trans (hb.mono hB), Grown2.of_below hb, .inl ⟨he, List.eq_nil_of_length_eq_zero h0, h.grow hb⟩⟩
  · exact (pop_any W h hL hw hB hBp hD (by omega) hn).mono fun e W' ⟨he, v', hP, hg, hv⟩ => ⟨h.others hg, hg.low hw hB (fun k hk => by cases hk; exact hBp) hrow, hg, .inr ⟨_, _, he, by omega, rfl, rfl, v', hP, hv⟩⟩
end
end Go.Proofs.Ytdebokambldbbaa.PileH
