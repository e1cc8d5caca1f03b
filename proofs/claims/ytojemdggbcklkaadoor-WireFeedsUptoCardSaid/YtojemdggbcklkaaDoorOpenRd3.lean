/- An argument that is a list of byte lists. -/
import Derived.Test.YtojemdggbcklkaaDoorOpenRd2
import Derived.Test.YtojemdggbcklkaaDoorLawFeeds
namespace Go.Proofs.YtojemdggbcklkaaDoor.WireO
open Go.RowKit Go.WideShapes Go.ChangeShapes Go.Deep Go.Proofs.YtojemdggbcklkaaDoor.Mem Go.Proofs.YtojemdggbcklkaaDoor.WireR
theorem map_flat (rs : List Pc) : (rs.flatMap fun r => [Pc.cell r]) = rs.map Pc.cell := by
  induction rs with
  | nil => rfl
  | cons r t ih => rw [List.flatMap_cons, ih]; rfl
theorem open_srows {H : Type} {enc : TypeId × Value → H} {W : World} {v : Value} {d : DataW H} {p : List MemPlace} (hk : Rows.uptoBulk d ≤ 1048576) (h : DataW.Trod enc Tryd.prog W 0 (fun _ => true) true 43 v d p) (hs : ∃ a len cap, v = .slice a len cap) :
    ∃ (A : Option Addr) (c : Nat) (rs : List Pc), v = .slice A rs.length c ∧ RV W A (rs.map Pc.cell) ∧ (∀ r ∈ rs, r.ok W) ∧ rs.length ≤ 1048576 ∧ rs.length ≤ c := by
  obtain ⟨a, len, cap, rfl⟩ := hs
  obtain ⟨fuel, hf⟩ := h
  rcases open_slice1 Tryd.underlying43 (by kernel_rfl) hf with ⟨hcs, hx⟩ | ⟨a', len', cap', m, n, V, D, Pl, hcs, _, hl, _, hm, hx, hi⟩
  · simp [Value.cells] at hcs
    obtain ⟨rfl, rfl, rfl⟩ := hcs
    exact ⟨none, 0, [], rfl, RV.nil _ _, by simp, by simp, by simp⟩
  · simp [Value.cells] at hcs
    obtain ⟨rfl, rfl, rfl⟩ := hcs
    simp only [Prod.mk.injEq] at hx
    obtain ⟨rfl, _⟩ := hx
    have hm' : m = cap := by simpa using hm
    have each : ∀ i, i < len → ∃ r : Pc, r.ok W ∧ W.cell? (a'.add i) = some (.slice r.A r.l.length r.c) := by
      intro i hil
      obtain ⟨hc, ht⟩ := hi i (by omega)
      obtain ⟨A, ca, la, hV, hra, hcap, hba⟩ := open_bytes Tryd.underlying22 Tryd.underlying5 (by kernel_rfl) ht
      have hDi : Rows.uptoBulk (D i) ≤ 1048576 := by
        have h1 : D i ∈ (List.range len).map D := List.mem_map.2 ⟨i, List.mem_range.2 hil, rfl⟩
        have h2 := bulk_part h1
        have h3 := bulk_slice_all ((List.range len).map D) ((List.range (m - len)).map fun j => D (len + j))
        omega
      exact ⟨⟨A, ca, la⟩, ⟨hra, hcap, by simp only at hba ⊢; omega⟩, by rw [hc, hV]⟩
    obtain ⟨rs, hrs, hall⟩ := list_choose len _ each
    refine ⟨some a', cap, rs, by rw [hrs], (map_flat rs ▸ rv_of_fields rs 1 (fun r => [Pc.cell r]) (fun _ => rfl) ?_), ?_, ?_, by omega⟩
    · intro i hil j u hu
      obtain ⟨_, h0⟩ := hall i hil
      match j, hu with
      | 0, hu => simp [Pc.cell] at hu; subst hu; rw [Nat.mul_one, Nat.add_zero]; exact h0
      | j + 1, hu => simp at hu
    · intro q hq
      obtain ⟨i, hil, rfl⟩ := List.mem_iff_getElem.1 hq
      exact (hall i hil).1
    · have h3 := bulk_slice ((List.range len).map D) ((List.range (m - len)).map fun j => D (len + j))
      simp at h3
      omega
end Go.Proofs.YtojemdggbcklkaaDoor.WireO
