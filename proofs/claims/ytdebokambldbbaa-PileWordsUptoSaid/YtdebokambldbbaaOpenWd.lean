/- Arguments of the laws over texts: a list of texts, a number. -/
import Derived.Test.YtdebokambldbbaaOpen
import Derived.Test.YtdebokambldbbaaPWords
import Derived.Deep.Strs
namespace Go.Proofs.Ytdebokambldbbaa.LawW
set_option linter.unusedVariables false
set_option linter.unusedSectionVars false
set_option linter.unusedSimpArgs false
open Go.RowKit Go.WideShapes Go.ChangeShapes Go.Deep Go.Proofs.Ytdebokambldbbaa.Mem

theorem open_strings_ {H : Type} {enc : TypeId × Value → H} {W : World} {v : Value} {d : DataW H} {p : List MemPlace} (hk : Rows.uptoBulk d ≤ 1048576) (h : DataW.Trod enc Try.prog W 0 (fun _ => true) true 65 v d p) (hs : ∃ a len cap, v = .slice a len cap) :
    ∃ (A : Option Addr) (c : Nat) (ss : List (List UInt8)), v = .slice A ss.length c ∧ RV W A (ss.map strV) ∧ (∀ s ∈ ss, s.length ≤ 1048576) ∧ ss.length ≤ 1048576 ∧ ss.length ≤ c := by
  obtain ⟨a, len, cap, rfl⟩ := hs
  obtain ⟨fuel, hf⟩ := h
  rcases open_strs Try.underlying65 Try.underlying9 (by kernel_rfl) hf with ⟨hcs, hx⟩ | ⟨a', len', cap', m, Sx, hcs, _, hl, _, hm, hx, hi⟩
  · simp [Value.cells] at hcs
    obtain ⟨rfl, rfl, rfl⟩ := hcs
    exact ⟨none, 0, [], rfl, RV.nil _ _, by simp, by simp, by simp⟩
  · simp [Value.cells] at hcs
    obtain ⟨rfl, rfl, rfl⟩ := hcs
    simp only [Prod.mk.injEq] at hx
    obtain ⟨rfl, _⟩ := hx
    have hm' : m = cap := by simpa using hm
    have each : ∀ i, i < len → ∃ s : List UInt8, s.length ≤ 1048576 ∧ W.cell? (a'.add i) = some (strV s) := by
      intro i hil
      obtain ⟨hc, _⟩ := hi i (by omega)
      refine ⟨(Sx i).data.toList, ?_, by rw [hc]; unfold strV; simp⟩
      have h1 : (DataW.lit (.string (Sx i).data.toList) : DataW H) ∈ (List.range len).map (fun i => DataW.lit (.string (Sx i).data.toList)) := List.mem_map.2 ⟨i, List.mem_range.2 hil, rfl⟩
      have h2 := bulk_part h1
      have h3 := bulk_slice_all ((List.range len).map (fun i => (DataW.lit (.string (Sx i).data.toList) : DataW H))) ((List.range (m - len)).map fun j => DataW.lit (.string (Sx (len + j)).data.toList))
      have h4 : (Sx i).data.toList.length ≤ Rows.uptoBulk (DataW.lit (.string (Sx i).data.toList) : DataW H) := by simp [Rows.uptoBulk]
      omega
    obtain ⟨ss, hss, hall⟩ := list_choose len _ each
    refine ⟨some a', cap, ss, by rw [hss], ?_, ?_, ?_, by omega⟩
    · intro k hk
      have hk' : k < ss.length := by simpa using hk
      exact ⟨a', rfl, by rw [List.getElem_map]; exact (hall k hk').2⟩
    · intro q hq
      obtain ⟨i, hil, rfl⟩ := List.mem_iff_getElem.1 hq
      exact (hall i hil).1
    · have h3 := bulk_slice ((List.range len).map (fun i => (DataW.lit (.string (Sx i).data.toList) : DataW H))) ((List.range (m - len)).map fun j => DataW.lit (.string (Sx (len + j)).data.toList))
      simp at h3
      omega
theorem open_int {H : Type} {enc : TypeId × Value → H} {W : World} {v : Value} {d : DataW H} {p : List MemPlace} (h : DataW.Trod enc Try.prog W 0 (fun _ => true) true 3 v d p) (hs : ∃ z, v = .int .i64 z) :
    ∃ z : Int, v = .int .i64 z ∧ (-9223372036854775808 ≤ z ∧ z ≤ 9223372036854775807) := by
  obtain ⟨z, rfl⟩ := hs
  obtain ⟨fuel, hf⟩ := h
  obtain ⟨z', hz, _, hwf⟩ := DataW.trod_int Try.underlying3 hf
  have e : z = z' := by simpa [Value.cells] using hz
  subst e
  exact ⟨z, rfl, by simpa [Lit.wf, IntKind.min, IntKind.max, IntKind.signed, IntKind.bits] using hwf⟩
end Go.Proofs.Ytdebokambldbbaa.LawW
