/- Arguments that are lists of byte lists; what the row's list gives: the start words. -/
import Derived.Test.YtoemceehmiaigaaDoorLawSums
import Derived.Test.YtoemceehmiaigaaDoorOpen
import Derived.Test.YtoemceehmiaigaaDoorCards
import Derived.Test.YtoemceehmiaigaaDoorTie
import Derived.Deep.DeepHandedRow
import Derived.Lib.LaidTab
namespace Go.Proofs.YtoemceehmiaigaaDoor.LawSums
open Go.RowKit Go.WideShapes Go.ChangeShapes Go.Deep Go.Proofs.YtoemceehmiaigaaDoor.Mem Go.Proofs.YtoemceehmiaigaaDoor.Sha

theorem own : ownKnob Tryd.prog.godebug = none := by kernel_rfl
theorem laidOut : laidOutB Tryd.prog = true := by kernel_rfl
theorem gTab : Tryd.prog.globalNamed "weir/sha.begin" = some 0 := by kernel_rfl
theorem gTabType : (Tryd.prog.globals[0]?).map (·.type) = some 40 := by kernel_rfl
theorem cellsTab : Tryd.prog.cellsOf 40 = 8 := by kernel_rfl
theorem cells32 : Tryd.prog.cellsOf 25 = 1 := by kernel_rfl
theorem table {W : World} (h : laidMetH Tryd.prog [("weir/sha.begin", Rows.laid_weir_sha_begin)] W) :
    Lib.TabIs Tryd.prog W "weir/sha.begin" .u32 [1779033703, 3144134277, 1013904242, 2773480762, 1359893119, 2600822924, 528734635, 1541459225] :=
  Lib.tabIs_of_head (rest := []) gTab gTabType Tryd.underlying40 Tryd.underlying25 cells32 cellsTab h
theorem gb_of {W : World} (h : laidMetH Tryd.prog [("weir/sha.begin", Rows.laid_weir_sha_begin)] W) : GB W := by
  have T := table h
  have c0 := T.cell gTab 0 (by decide)
  have c1 := T.cell gTab 1 (by decide)
  have c2 := T.cell gTab 2 (by decide)
  have c3 := T.cell gTab 3 (by decide)
  have c4 := T.cell gTab 4 (by decide)
  have c5 := T.cell gTab 5 (by decide)
  have c6 := T.cell gTab 6 (by decide)
  have c7 := T.cell gTab 7 (by decide)
  refine ⟨fun j v hv => ?_, by exact block_lt_of_cell c0⟩
  have hj : j < 8 := by have := (List.getElem?_eq_some_iff.1 hv).1; exact this
  rw [Nat.zero_add]
  have : j = 0 ∨ j = 1 ∨ j = 2 ∨ j = 3 ∨ j = 4 ∨ j = 5 ∨ j = 6 ∨ j = 7 := by omega
  rcases this with rfl | rfl | rfl | rfl | rfl | rfl | rfl | rfl <;> (first | rw [c0] | rw [c1] | rw [c2] | rw [c3] | rw [c4] | rw [c5] | rw [c6] | rw [c7]) <;> exact hv

theorem open_rows {H : Type} {enc : TypeId × Value → H} {W : World} {v : Value} {d : DataW H} {p : List MemPlace} (hk : Rows.uptoBulk d ≤ 1048576) (h : DataW.Trod enc Tryd.prog W 0 (fun _ => true) true 29 v d p) (hs : ∃ a len cap, v = .slice a len cap) :
    ∃ (A : Option Addr) (c : Nat) (rs : List Row), v = .slice A rs.length c ∧ RV W A (rs.flatMap Row.cells) ∧ (∀ r ∈ rs, r.ok W) ∧ rs.length ≤ 1048576 ∧ rs.length ≤ c := by
  obtain ⟨a, len, cap, rfl⟩ := hs
  obtain ⟨fuel, hf⟩ := h
  rcases open_slice1 Tryd.underlying29 (by kernel_rfl) hf with ⟨hcs, hx⟩ | ⟨a', len', cap', m, n, V, D, Pl, hcs, _, hl, _, hm, hx, hi⟩
  · simp [Value.cells] at hcs
    obtain ⟨rfl, rfl, rfl⟩ := hcs
    exact ⟨none, 0, [], rfl, RV.nil _ _, by simp, by simp, by simp⟩
  · simp [Value.cells] at hcs
    obtain ⟨rfl, rfl, rfl⟩ := hcs
    simp only [Prod.mk.injEq] at hx
    obtain ⟨rfl, _⟩ := hx
    have hm' : m = cap := by simpa using hm
    have each : ∀ i, i < len → ∃ r : Row, r.ok W ∧ W.cell? (a'.add i) = some (.slice r.A r.l.length r.c) := by
      intro i hil
      obtain ⟨hc, ht⟩ := hi i (by omega)
      obtain ⟨A, ca, la, hV, hra, hcap, hba⟩ := open_bytes Tryd.underlying32 Tryd.underlying5 (by kernel_rfl) ht
      have hDi : Rows.uptoBulk (D i) ≤ 1048576 := by
        have h1 : D i ∈ (List.range len).map D := List.mem_map.2 ⟨i, List.mem_range.2 hil, rfl⟩
        have h2 := bulk_part h1
        have h3 := bulk_slice_all ((List.range len).map D) ((List.range (m - len)).map fun j => D (len + j))
        omega
      exact ⟨⟨A, ca, la⟩, ⟨hra, hcap, by simp only at hba ⊢; omega⟩, by rw [hc, hV]⟩
    obtain ⟨rs, hrs, hall⟩ := list_choose len _ each
    refine ⟨some a', cap, rs, by rw [hrs], rv_of_fields rs 1 Row.cells (fun _ => rfl) ?_, ?_, ?_, by omega⟩
    · intro i hil j u hu
      obtain ⟨_, h0⟩ := hall i hil
      match j, hu with
      | 0, hu => simp [Row.cells] at hu; subst hu; rw [Nat.mul_one, Nat.add_zero]; exact h0
      | j + 1, hu => simp [Row.cells] at hu
    · intro q hq
      obtain ⟨i, hil, rfl⟩ := List.mem_iff_getElem.1 hq
      exact (hall i hil).1
    · have h3 := bulk_slice ((List.range len).map D) ((List.range (m - len)).map fun j => D (len + j))
      simp at h3
      omega
end Go.Proofs.YtoemceehmiaigaaDoor.LawSums
