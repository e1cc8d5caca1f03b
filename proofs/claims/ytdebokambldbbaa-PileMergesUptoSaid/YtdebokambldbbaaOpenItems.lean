/- The argument that is a list of things: two numbers each. -/
import Derived.Test.YtdebokambldbbaaPItems
namespace Go.Proofs.Ytdebokambldbbaa.LawP
set_option linter.unusedVariables false
set_option linter.unusedSectionVars false
set_option linter.unusedSimpArgs false
open Go.RowKit Go.WideShapes Go.ChangeShapes Go.Deep Go.Proofs.Ytdebokambldbbaa.Mem

theorem open_items {H : Type} {enc : TypeId × Value → H} {W : World} {v : Value} {d : DataW H} {p : List MemPlace} (hk : Rows.uptoBulk d ≤ 1048576) (h : DataW.Trod enc Try.prog W 0 (fun _ => true) true 32 v d p) (hs : ∃ a len cap, v = .slice a len cap) :
    ∃ (A : Option Addr) (c : Nat) (rs : List Itm), v = .slice A rs.length c ∧ RV W A (rs.flatMap Itm.cells) ∧ (∀ r ∈ rs, (-9223372036854775808 ≤ r.1 ∧ r.1 ≤ 9223372036854775807) ∧ (-9223372036854775808 ≤ r.2 ∧ r.2 ≤ 9223372036854775807)) ∧ rs.length ≤ 1048576 ∧ rs.length ≤ c := by
  obtain ⟨a, len, cap, rfl⟩ := hs
  obtain ⟨fuel, hf⟩ := h
  rcases open_slice_fields (fs := _) Try.underlying32 Try.underlying35 (by kernel_rfl) (by kernel_rfl) hf with ⟨hcs, hx⟩ | ⟨a', len', cap', m, D, Pl, hcs, _, hl, _, hm, hx, hi⟩
  · simp [Value.cells] at hcs
    obtain ⟨rfl, rfl, rfl⟩ := hcs
    exact ⟨none, 0, [], rfl, RV.nil _ _, by simp, by simp, by simp⟩
  · simp [Value.cells] at hcs
    obtain ⟨rfl, rfl, rfl⟩ := hcs
    simp only [Prod.mk.injEq] at hx
    obtain ⟨rfl, _⟩ := hx
    have hm' : m = cap := by simpa using hm
    have each : ∀ i, i < len → ∃ r : Itm, ((-9223372036854775808 ≤ r.1 ∧ r.1 ≤ 9223372036854775807) ∧ (-9223372036854775808 ≤ r.2 ∧ r.2 ≤ 9223372036854775807)) ∧ W.cell? (a'.add (i * 2 + 0)) = some (.int .i64 r.1) ∧ W.cell? (a'.add (i * 2 + 1)) = some (.int .i64 r.2) := by
      intro i hil
      obtain ⟨ys, n, hD, _, hyl, hfl⟩ := hi i (by omega)
      obtain ⟨v0, y0, hc0, hy0, ht0⟩ := hfl 0 _ rfl
      obtain ⟨v1, y1, hc1, hy1, ht1⟩ := hfl 1 _ rfl
      obtain ⟨z, hz, hx0, hwf⟩ := DataW.trod_int Try.underlying3 ht0
      obtain ⟨s, hs, hx1, hwf1⟩ := DataW.trod_int Try.underlying3 ht1
      injection hz with hz _
      injection hs with hs _
      have w0 : -9223372036854775808 ≤ z ∧ z ≤ 9223372036854775807 := by simpa [Lit.wf, IntKind.min, IntKind.max, IntKind.signed, IntKind.bits] using hwf
      have w1 : -9223372036854775808 ≤ s ∧ s ≤ 9223372036854775807 := by simpa [Lit.wf, IntKind.min, IntKind.max, IntKind.signed, IntKind.bits] using hwf1
      exact ⟨(z, s), ⟨w0, w1⟩, hz ▸ hc0, hs ▸ hc1⟩
    obtain ⟨rs, hrs, hall⟩ := list_choose len _ each
    refine ⟨some a', cap, rs, by rw [hrs], rv_of_fields rs 2 Itm.cells (fun _ => rfl) ?_, ?_, ?_, by omega⟩
    · intro i hil j u hu
      obtain ⟨_, h0, h1⟩ := hall i hil
      match j, hu with
      | 0, hu => simp [Itm.cells] at hu; subst hu; exact h0
      | 1, hu => simp [Itm.cells] at hu; subst hu; exact h1
      | j + 2, hu => simp [Itm.cells] at hu
    · intro q hq
      obtain ⟨i, hil, rfl⟩ := List.mem_iff_getElem.1 hq
      exact (hall i hil).1
    · have h3 := bulk_slice ((List.range len).map D) ((List.range (m - len)).map fun j => D (len + j))
      simp at h3
      omega
end Go.Proofs.Ytdebokambldbbaa.LawP
