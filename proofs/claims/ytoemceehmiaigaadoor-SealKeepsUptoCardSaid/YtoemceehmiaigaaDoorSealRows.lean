/- Arguments of the seal laws: lists of byte lists, lists of strings. -/
import Derived.Test.YtoemceehmiaigaaDoorOpen
import Derived.Deep.Strs
namespace Go.Proofs.YtoemceehmiaigaaDoor.Seal
open Go.RowKit Go.WideShapes Go.ChangeShapes Go.Deep Go.Proofs.YtoemceehmiaigaaDoor.Mem

structure SRow where
  A : Option Addr
  c : Nat
  l : List UInt8
def SRow.ok (r : SRow) (w : World) : Prop := RB w r.A r.l ∧ r.l.length ≤ r.c ∧ r.l.length ≤ 1048576
def SRow.cells (r : SRow) : List Value := [.slice r.A r.l.length r.c]
theorem srows_map (rs : List SRow) : rs.flatMap SRow.cells = rs.map fun r => .slice r.A r.l.length r.c := by
  induction rs with
  | nil => rfl
  | cons r t ih => simp [SRow.cells, ih]
def strV (s : List UInt8) : Value := .string ⟨s.toArray⟩

theorem open_srows {H : Type} {enc : TypeId × Value → H} {W : World} {v : Value} {d : DataW H} {p : List MemPlace} (hk : Rows.uptoBulk d ≤ 1048576) (h : DataW.Trod enc Tryd.prog W 0 (fun _ => true) true 29 v d p) (hs : ∃ a len cap, v = .slice a len cap) :
    ∃ (A : Option Addr) (c : Nat) (rs : List SRow), v = .slice A rs.length c ∧ RV W A (rs.flatMap SRow.cells) ∧ (∀ r ∈ rs, r.ok W) ∧ rs.length ≤ 1048576 ∧ rs.length ≤ c := by
  obtain ⟨a, len, cap, rfl⟩ := hs
  obtain ⟨fuel, hf⟩ := h
  rcases open_slice1 Tryd.underlying29 (by kernel_rfl) hf with ⟨hcs, hx⟩ | ⟨a', len', cap', m, n, V, D, Pl, hcs, _, hl, _, hm, hx, hi⟩
  · simp [Value.cells] at hcs
    obtain ⟨rfl, rfl, rfl⟩ := hcs
    exact ⟨none, 0, [], rfl, RV.nil _ _, by simp, by simp, by simp⟩
  · simp [Value.cells] at hcs
    obtain ⟨rfl, rfl, rfl⟩ := hcs
    simp only [Prod.mk.injEq] at hx
    obtain ⟨rfl, _⟩ := hx
    have hm' : m = cap := by simpa using hm
    have each : ∀ i, i < len → ∃ r : SRow, r.ok W ∧ W.cell? (a'.add i) = some (.slice r.A r.l.length r.c) := by
      intro i hil
      obtain ⟨hc, ht⟩ := hi i (by omega)
      obtain ⟨A, ca, la, hV, hra, hcap, hba⟩ := open_bytes Tryd.underlying32 Tryd.underlying5 (by kernel_rfl) ht
      have hDi : Rows.uptoBulk (D i) ≤ 1048576 := by
        have h1 : D i ∈ (List.range len).map D := List.mem_map.2 ⟨i, List.mem_range.2 hil, rfl⟩
        have h2 := bulk_part h1
        have h3 := bulk_slice_all ((List.range len).map D) ((List.range (m - len)).map fun j => D (len + j))
        omega
      exact ⟨⟨A, ca, la⟩, ⟨hra, hcap, by simp only at hba ⊢; omega⟩, by rw [hc, hV]⟩
    obtain ⟨rs, hrs, hall⟩ := list_choose len _ each
    refine ⟨some a', cap, rs, by rw [hrs], rv_of_fields rs 1 SRow.cells (fun _ => rfl) ?_, ?_, ?_, by omega⟩
    · intro i hil j u hu
      obtain ⟨_, h0⟩ := hall i hil
      match j, hu with
      | 0, hu => simp [SRow.cells] at hu; subst hu; rw [Nat.mul_one, Nat.add_zero]; exact h0
      | j + 1, hu => simp [SRow.cells] at hu
    · intro q hq
      obtain ⟨i, hil, rfl⟩ := List.mem_iff_getElem.1 hq
      exact (hall i hil).1
    · have h3 := bulk_slice ((List.range len).map D) ((List.range (m - len)).map fun j => D (len + j))
      simp at h3
      omega

theorem open_strings_ {H : Type} {enc : TypeId × Value → H} {W : World} {v : Value} {d : DataW H} {p : List MemPlace} (hk : Rows.uptoBulk d ≤ 1048576) (h : DataW.Trod enc Tryd.prog W 0 (fun _ => true) true 48 v d p) (hs : ∃ a len cap, v = .slice a len cap) :
    ∃ (A : Option Addr) (c : Nat) (ss : List (List UInt8)), v = .slice A ss.length c ∧ RV W A (ss.map strV) ∧ (∀ s ∈ ss, s.length ≤ 1048576) ∧ ss.length ≤ 1048576 ∧ ss.length ≤ c := by
  obtain ⟨a, len, cap, rfl⟩ := hs
  obtain ⟨fuel, hf⟩ := h
  rcases open_strs Tryd.underlying48 Tryd.underlying9 (by kernel_rfl) hf with ⟨hcs, hx⟩ | ⟨a', len', cap', m, Sx, hcs, _, hl, _, hm, hx, hi⟩
  · simp [Value.cells] at hcs
    obtain ⟨rfl, rfl, rfl⟩ := hcs
    exact ⟨none, 0, [], rfl, RV.nil _ _, by simp, by simp, by simp⟩
  · simp [Value.cells] at hcs
    obtain ⟨rfl, rfl, rfl⟩ := hcs
    simp only [Prod.mk.injEq] at hx
    obtain ⟨rfl, _⟩ := hx
    have hm' : m = cap := by simpa using hm
    have each : ∀ i, i < len → ∃ s : List UInt8, s.length ≤ 1048576 ∧ W.cell? (a'.add i) = some (strV s) := by
      intro i hil
      obtain ⟨hc, _⟩ := hi i (by omega)
      refine ⟨(Sx i).data.toList, ?_, by rw [hc]; unfold strV; simp⟩
      have h1 : (DataW.lit (.string (Sx i).data.toList) : DataW H) ∈ (List.range len).map (fun i => DataW.lit (.string (Sx i).data.toList)) := List.mem_map.2 ⟨i, List.mem_range.2 hil, rfl⟩
      have h2 := bulk_part h1
      have h3 := bulk_slice_all ((List.range len).map (fun i => (DataW.lit (.string (Sx i).data.toList) : DataW H))) ((List.range (m - len)).map fun j => DataW.lit (.string (Sx (len + j)).data.toList))
      have h4 : (Sx i).data.toList.length ≤ Rows.uptoBulk (DataW.lit (.string (Sx i).data.toList) : DataW H) := by simp [Rows.uptoBulk]
      omega
    obtain ⟨ss, hss, hall⟩ := list_choose len _ each
    refine ⟨some a', cap, ss, by rw [hss], ?_, ?_, ?_, by omega⟩
    · intro k hk
      have hk' : k < ss.length := by simpa using hk
      exact ⟨a', rfl, by rw [List.getElem_map]; exact (hall k hk').2⟩
    · intro q hq
      obtain ⟨i, hil, rfl⟩ := List.mem_iff_getElem.1 hq
      exact (hall i hil).1
    · have h3 := bulk_slice ((List.range len).map (fun i => (DataW.lit (.string (Sx i).data.toList) : DataW H))) ((List.range (m - len)).map fun j => DataW.lit (.string (Sx (len + j)).data.toList))
      simp at h3
      omega
end Go.Proofs.YtoemceehmiaigaaDoor.Seal
