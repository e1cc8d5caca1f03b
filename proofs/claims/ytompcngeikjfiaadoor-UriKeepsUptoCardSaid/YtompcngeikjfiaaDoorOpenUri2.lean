/- An argument of parameters whose names leave room for one byte more. -/
import Derived.Test.YtompcngeikjfiaaDoorOpenUri
namespace Go.Proofs.YtompcngeikjfiaaDoor.Uri
open Go.RowKit Go.WideShapes Go.ChangeShapes Go.Deep Go.Proofs.YtompcngeikjfiaaDoor.Mem
set_option linter.unusedVariables false

theorem open_params2_ {H : Type} {enc : TypeId × Value → H} {W : World} {fuel : Nat} {v : Value} {x : DataW H × List MemPlace} (hk : Rows.uptoBulk x.1 ≤ 1048576) (hf : DataW.trod enc Tryd.prog W 0 (fun _ => true) true fuel 31 [v] = some x) :
    ∃ (A : Option Addr) (c : Nat) (hs : List PD), v = .slice A hs.length c ∧ RV W A (hs.flatMap PD.cells) ∧ (∀ h ∈ hs, h.1.length ≤ 1048575 ∧ h.2.length ≤ 1048576) ∧ hs.length ≤ 1048576 ∧ hs.length ≤ c := by
  rcases open_slice_fields (fs := _) Tryd.underlying31 Tryd.underlying51 (by kernel_rfl) (by kernel_rfl) hf with ⟨hcs, hx⟩ | ⟨a', len, cap, m, D, Pl, hcs, _, hl, _, hm, hx, hi⟩
  · injection hcs with hcs _
    subst hcs
    exact ⟨none, 0, [], rfl, RV.nil _ _, by simp, by simp, by simp⟩
  · injection hcs with hcs _
    subst hcs
    subst hx
    have hm' : m = cap := by simpa using hm
    have each : ∀ i, i < len → ∃ h : PD, (h.1.length ≤ 1048575 ∧ h.2.length ≤ 1048576) ∧ W.cell? (a'.add (i * 2 + 0)) = some (.string ⟨h.1.toArray⟩) ∧ W.cell? (a'.add (i * 2 + 1)) = some (.string ⟨h.2.toArray⟩) := by
      intro i hil
      obtain ⟨ys, n, hD, _, hyl, hfl⟩ := hi i (by omega)
      obtain ⟨v0, y0, hc0, hy0, ht0⟩ := hfl 0 _ rfl
      obtain ⟨v1, y1, hc1, hy1, ht1⟩ := hfl 1 _ rfl
      obtain ⟨s0, hs0, hx0, _⟩ := DataW.trod_string Tryd.underlying9 ht0
      obtain ⟨s1, hs1, hx1, _⟩ := DataW.trod_string Tryd.underlying9 ht1
      injection hs0 with hs0 _
      injection hs1 with hs1 _
      have hDi : Rows.uptoBulk (D i) ≤ 1048575 := by
        have h1 : D i ∈ (List.range len).map D := List.mem_map.2 ⟨i, List.mem_range.2 hil, rfl⟩
        have h2 := bulk_part h1
        have h3 := bulk_slice_all ((List.range len).map D) ((List.range (m - len)).map fun j => D (len + j))
        simp only at hk
        omega
      rw [hD, ← bulk_agg] at hDi
      have m0 : y0.1 ∈ ys.map (·.1) := List.mem_map.2 ⟨y0, List.mem_of_getElem? hy0, rfl⟩
      have m1 : y1.1 ∈ ys.map (·.1) := List.mem_map.2 ⟨y1, List.mem_of_getElem? hy1, rfl⟩
      have b0 := bulk_part m0
      have b1 := bulk_part m1
      rw [hx0] at b0
      rw [hx1] at b1
      simp only [Rows.uptoBulk] at b0 b1
      exact ⟨(s0.data.toList, s1.data.toList), ⟨by simp only; omega, by simp only; omega⟩, hs0 ▸ hc0, hs1 ▸ hc1⟩
    obtain ⟨hs, hhs, hall⟩ := list_choose len _ each
    refine ⟨some a', cap, hs, by rw [hhs], rv_of_fields hs 2 PD.cells (fun _ => rfl) ?_, ?_, ?_, by omega⟩
    · intro i hil j u hu
      obtain ⟨_, h0, h1⟩ := hall i hil
      match j, hu with
      | 0, hu => simp [PD.cells] at hu; subst hu; exact h0
      | 1, hu => simp [PD.cells] at hu; subst hu; exact h1
      | j + 2, hu => simp [PD.cells] at hu
    · intro q hq
      obtain ⟨i, hil, rfl⟩ := List.mem_iff_getElem.1 hq
      exact (hall i hil).1
    · have h3 := bulk_slice ((List.range len).map D) ((List.range (m - len)).map fun j => D (len + j))
      simp at h3 hk
      omega
theorem open_params2 {H : Type} {enc : TypeId × Value → H} {W : World} {v : Value} {d : DataW H} {p : List MemPlace} (hk : Rows.uptoBulk d ≤ 1048576) (h : DataW.Trod enc Tryd.prog W 0 (fun _ => true) true 31 v d p) (hs : ∃ a len cap, v = .slice a len cap) :
    ∃ (A : Option Addr) (c : Nat) (hs : List PD), v = .slice A hs.length c ∧ RV W A (hs.flatMap PD.cells) ∧ (∀ h ∈ hs, h.1.length ≤ 1048575 ∧ h.2.length ≤ 1048576) ∧ hs.length ≤ 1048576 ∧ hs.length ≤ c := by
  obtain ⟨a, len, cap, rfl⟩ := hs
  obtain ⟨fuel, hf⟩ := h
  exact open_params2_ hk hf
end Go.Proofs.YtompcngeikjfiaaDoor.Uri
