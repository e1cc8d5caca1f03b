/- The argument that is a list of pairs of byte lists. -/
import Derived.Test.YtoemceehmiaigaaDoorOpenMore
import Derived.Test.YtoemceehmiaigaaDoorLawHmacs
namespace Go.Proofs.YtoemceehmiaigaaDoor.LawHmacs
open Go.RowKit Go.WideShapes Go.ChangeShapes Go.Deep Go.Proofs.YtoemceehmiaigaaDoor.Mem Go.Proofs.YtoemceehmiaigaaDoor.Sha Go.Proofs.YtoemceehmiaigaaDoor.LawSums

theorem open_pairs {H : Type} {enc : TypeId × Value → H} {W : World} {v : Value} {d : DataW H} {p : List MemPlace} (hk : Rows.uptoBulk d ≤ 1048576) (h : DataW.Trod enc Tryd.prog W 0 (fun _ => true) true 63 v d p) (hs : ∃ a len cap, v = .slice a len cap) :
    ∃ (A : Option Addr) (c : Nat) (ps : List PairD), v = .slice A ps.length c ∧ RV W A (ps.flatMap PairD.cells) ∧ (∀ p ∈ ps, p.ok W) ∧ ps.length ≤ 1048576 := by
  obtain ⟨a, len, cap, rfl⟩ := hs
  obtain ⟨fuel, hf⟩ := h
  rcases open_slice_fields (fs := _) Tryd.underlying63 Tryd.underlying65 (by kernel_rfl) (by kernel_rfl) hf with ⟨hcs, hx⟩ | ⟨a', len', cap', m, D, Pl, hcs, _, hl, _, hm, hx, hi⟩
  · simp [Value.cells] at hcs
    obtain ⟨rfl, rfl, rfl⟩ := hcs
    exact ⟨none, 0, [], rfl, RV.nil _ _, by simp, by simp⟩
  · simp [Value.cells] at hcs
    obtain ⟨rfl, rfl, rfl⟩ := hcs
    simp only [Prod.mk.injEq] at hx
    obtain ⟨rfl, _⟩ := hx
    have hm' : m = cap := by simpa using hm
    have each : ∀ i, i < len → ∃ p : PairD, p.ok W ∧ W.cell? (a'.add (i * 2 + 0)) = some (.slice p.A p.a.length p.ca) ∧ W.cell? (a'.add (i * 2 + 1)) = some (.slice p.B p.b.length p.cb) := by
      intro i hil
      obtain ⟨ys, n, hD, _, hyl, hfl⟩ := hi i (by omega)
      obtain ⟨v0, y0, hc0, hy0, ht0⟩ := hfl 0 _ rfl
      obtain ⟨v1, y1, hc1, hy1, ht1⟩ := hfl 1 _ rfl
      obtain ⟨A, ca, la, rfl, hra, hca, hba⟩ := open_bytes Tryd.underlying32 Tryd.underlying5 (by kernel_rfl) ht0
      obtain ⟨B, cb, lb, rfl, hrb, hcb, hbb⟩ := open_bytes Tryd.underlying32 Tryd.underlying5 (by kernel_rfl) ht1
      have hDi : Rows.uptoBulk (D i) ≤ 1048576 := by
        have h1 : D i ∈ (List.range len).map D := List.mem_map.2 ⟨i, List.mem_range.2 hil, rfl⟩
        have h2 := bulk_part h1
        have h3 := bulk_slice_all ((List.range len).map D) ((List.range (m - len)).map fun j => D (len + j))
        omega
      rw [hD, ← bulk_agg] at hDi
      have m0 : y0.1 ∈ ys.map (·.1) := List.mem_map.2 ⟨y0, List.mem_of_getElem? hy0, rfl⟩
      have m1 : y1.1 ∈ ys.map (·.1) := List.mem_map.2 ⟨y1, List.mem_of_getElem? hy1, rfl⟩
      have b0 := bulk_part m0
      have b1 := bulk_part m1
      exact ⟨⟨A, B, ca, cb, la, lb⟩, ⟨hra, hrb, hca, hcb, by simp only; omega, by simp only; omega⟩, hc0, hc1⟩
    obtain ⟨ps, hps, hall⟩ := list_choose len _ each
    refine ⟨some a', cap, ps, by rw [hps], rv_of_fields ps 2 PairD.cells (fun _ => rfl) ?_, ?_, ?_⟩
    · intro i hil j u hu
      obtain ⟨_, h0, h1⟩ := hall i hil
      match j, hu with
      | 0, hu => simp [PairD.cells] at hu; subst hu; exact h0
      | 1, hu => simp [PairD.cells] at hu; subst hu; exact h1
      | j + 2, hu => simp [PairD.cells] at hu
    · intro q hq
      obtain ⟨i, hil, rfl⟩ := List.mem_iff_getElem.1 hq
      exact (hall i hil).1
    · have h3 := bulk_slice ((List.range len).map D) ((List.range (m - len)).map fun j => D (len + j))
      simp at h3
      omega

end Go.Proofs.YtoemceehmiaigaaDoor.LawHmacs
