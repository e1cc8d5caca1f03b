/- The argument that is a list of whole numbers. -/
import Derived.Test.YtdebokambldbbaaOpenItems
namespace Go.Proofs.Ytdebokambldbbaa.LawP
set_option linter.unusedVariables false
set_option linter.unusedSectionVars false
set_option linter.unusedSimpArgs false
open Go.RowKit Go.WideShapes Go.ChangeShapes Go.Deep Go.Proofs.Ytdebokambldbbaa.Mem

theorem open_nums {H : Type} {enc : TypeId × Value → H} {W : World} {v : Value} {d : DataW H} {p : List MemPlace} (h : DataW.Trod enc Try.prog W 0 (fun _ => true) true 61 v d p) (hs : ∃ a len cap, v = .slice a len cap) :
    ∃ (A : Option Addr) (c : Nat) (zs : List Int), v = .slice A zs.length c ∧ RV W A (zs.map fun z => .int .i64 z) ∧ (∀ z ∈ zs, -9223372036854775808 ≤ z ∧ z ≤ 9223372036854775807) ∧ zs.length + 1 ≤ Rows.uptoBulk d := by
  obtain ⟨a, len, cap, rfl⟩ := hs
  obtain ⟨fuel, hf⟩ := h
  rcases open_ints Try.underlying61 Try.underlying3 (by kernel_rfl) hf with ⟨hcs, hx⟩ | ⟨a', len', cap', zs, hcs, _, hl', hm, hz, hx, hcell, hwz⟩
  · simp [Value.cells] at hcs
    obtain ⟨rfl, rfl, rfl⟩ := hcs
    exact ⟨none, 0, [], rfl, RV.nil _ _, by simp, bulk_one d⟩
  · simp [Value.cells] at hcs
    obtain ⟨rfl, rfl, rfl⟩ := hcs
    have hzl : len ≤ zs.length := by rw [hz]; split <;> omega
    have hlen : (zs.take len).length = len := by rw [List.length_take]; omega
    refine ⟨some a', cap, zs.take len, by rw [hlen], fun k hk => ?_, fun z hz' => ?_, ?_⟩
    · refine ⟨a', rfl, ?_⟩
      have hk' : k < zs.length := by rw [List.length_map, hlen] at hk; omega
      have e : ((zs.take len).map fun z => (.int .i64 z : Value))[k] = .int .i64 zs[k] := by simp
      rw [hcell k hk', e, List.getD_eq_getElem?_getD, List.getElem?_eq_getElem hk']
      rfl
    · have hw := hwz z (List.mem_of_mem_take hz')
      simpa [Lit.wf, IntKind.min, IntKind.max, IntKind.signed, IntKind.bits] using hw
    · simp only [Prod.mk.injEq] at hx
      obtain ⟨rfl, _⟩ := hx
      have := bulk_slice (lits (H := H) .i64 (zs.take len)) (lits .i64 (zs.drop len))
      simp only [lits, List.length_map] at this
      simp only [lits]
      exact this
end Go.Proofs.Ytdebokambldbbaa.LawP
