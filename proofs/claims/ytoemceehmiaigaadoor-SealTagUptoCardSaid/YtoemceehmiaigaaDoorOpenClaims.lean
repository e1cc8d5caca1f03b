/- The argument that is a list of claims. -/
import Derived.Test.YtoemceehmiaigaaDoorOpenClaim
import Derived.Test.YtoemceehmiaigaaDoorLawOpens
namespace Go.Proofs.YtoemceehmiaigaaDoor.Seal
open Go.RowKit Go.WideShapes Go.ChangeShapes Go.Deep Go.Proofs.YtoemceehmiaigaaDoor.Mem

theorem open_claims {H : Type} {enc : TypeId × Value → H} {W : World} {v : Value} {d : DataW H} {p : List MemPlace} (hk : Rows.uptoBulk d ≤ 1048576) (h : DataW.Trod enc Tryd.prog W 0 (fun _ => true) true 76 v d p) (hs : ∃ a len cap, v = .slice a len cap) :
    ∃ (A : Option Addr) (c : Nat) (rs : List ClaimD), v = .slice A rs.length c ∧ RV W A (rs.flatMap ClaimD.cells) ∧ (∀ r ∈ rs, r.ok) ∧ rs.length ≤ 1048576 ∧ rs.length ≤ c := by
  obtain ⟨a, len, cap, rfl⟩ := hs
  obtain ⟨fuel, hf⟩ := h
  rcases open_slice_fields (fs := _) Tryd.underlying76 Tryd.underlying72 (by kernel_rfl) (by kernel_rfl) hf with ⟨hcs, hx⟩ | ⟨a', len', cap', m, D, Pl, hcs, _, hl, _, hm, hx, hi⟩
  · simp [Value.cells] at hcs
    obtain ⟨rfl, rfl, rfl⟩ := hcs
    exact ⟨none, 0, [], rfl, RV.nil _ _, by simp, by simp, by simp⟩
  · simp [Value.cells] at hcs
    obtain ⟨rfl, rfl, rfl⟩ := hcs
    simp only [Prod.mk.injEq] at hx
    obtain ⟨rfl, _⟩ := hx
    have hm' : m = cap := by simpa using hm
    have each : ∀ i, i < len → ∃ r : ClaimD, r.ok ∧ W.cell? (a'.add (i * 2 + 0)) = some (.int .i64 r.z) ∧ W.cell? (a'.add (i * 2 + 1)) = some (.string ⟨r.p.toArray⟩) := by
      intro i hil
      obtain ⟨ys, n, hD, _, hyl, hfl⟩ := hi i (by omega)
      obtain ⟨v0, y0, hc0, hy0, ht0⟩ := hfl 0 _ rfl
      obtain ⟨v1, y1, hc1, hy1, ht1⟩ := hfl 1 _ rfl
      obtain ⟨z, hz, hx0, hwf⟩ := DataW.trod_int Tryd.underlying2 ht0
      obtain ⟨s, hs, hx1, _⟩ := DataW.trod_string Tryd.underlying9 ht1
      injection hz with hz _
      injection hs with hs _
      have hDi : Rows.uptoBulk (D i) ≤ 1048576 := by
        have h1 : D i ∈ (List.range len).map D := List.mem_map.2 ⟨i, List.mem_range.2 hil, rfl⟩
        have h2 := bulk_part h1
        have h3 := bulk_slice_all ((List.range len).map D) ((List.range (m - len)).map fun j => D (len + j))
        omega
      rw [hD, ← bulk_agg] at hDi
      have m1 : y1.1 ∈ ys.map (·.1) := List.mem_map.2 ⟨y1, List.mem_of_getElem? hy1, rfl⟩
      have b1 := bulk_part m1
      rw [hx1] at b1
      simp only [Rows.uptoBulk] at b1
      exact ⟨⟨z, s.data.toList⟩, ⟨wf_i64 hwf, by simp only; omega⟩, hz ▸ hc0, hs ▸ hc1⟩
    obtain ⟨rs, hrs, hall⟩ := list_choose len _ each
    refine ⟨some a', cap, rs, by rw [hrs], rv_of_fields rs 2 ClaimD.cells (fun _ => rfl) ?_, ?_, ?_, by omega⟩
    · intro i hil j u hu
      obtain ⟨_, h0, h1⟩ := hall i hil
      match j, hu with
      | 0, hu => simp [ClaimD.cells] at hu; subst hu; exact h0
      | 1, hu => simp [ClaimD.cells] at hu; subst hu; exact h1
      | j + 2, hu => simp [ClaimD.cells] at hu
    · intro q hq
      obtain ⟨i, hil, rfl⟩ := List.mem_iff_getElem.1 hq
      exact (hall i hil).1
    · have h3 := bulk_slice ((List.range len).map D) ((List.range (m - len)).map fun j => D (len + j))
      simp at h3
      omega
end Go.Proofs.YtoemceehmiaigaaDoor.Seal
