/- The argument that is a script: a list of steps. -/
import Derived.Test.YtoemceehmiaigaaDoorOpenMore
import Derived.Test.YtoemceehmiaigaaDoorLawHashes
namespace Go.Proofs.YtoemceehmiaigaaDoor.LawHashes
open Go.RowKit Go.WideShapes Go.ChangeShapes Go.Deep Go.Proofs.YtoemceehmiaigaaDoor.Mem Go.Proofs.YtoemceehmiaigaaDoor.Sha Go.Proofs.YtoemceehmiaigaaDoor.LawSums

theorem i64_of_wf {z : Int} (h : (Lit.int .i64 z).wf = true) : -9223372036854775808 ≤ z ∧ z ≤ 9223372036854775807 := by simpa [Lit.wf, IntKind.min, IntKind.max, IntKind.signed, IntKind.bits] using h

theorem open_steps {H : Type} {enc : TypeId × Value → H} {W : World} {v : Value} {d : DataW H} {p : List MemPlace} (hk : Rows.uptoBulk d ≤ 1048576) (h : DataW.Trod enc Tryd.prog W 0 (fun _ => true) true 39 v d p) (hs : ∃ a len cap, v = .slice a len cap) :
    ∃ (A : Option Addr) (c : Nat) (ss : List StepD), v = .slice A ss.length c ∧ RV W A (ss.flatMap StepD.cells) ∧ (∀ s ∈ ss, s.ok W) ∧ ss.length ≤ 1048576 := by
  obtain ⟨a, len, cap, rfl⟩ := hs
  obtain ⟨fuel, hf⟩ := h
  rcases open_slice_fields (fs := _) Tryd.underlying39 Tryd.underlying50 (by kernel_rfl) (by kernel_rfl) hf with ⟨hcs, hx⟩ | ⟨a', len', cap', m, D, Pl, hcs, _, hl, _, hm, hx, hi⟩
  · simp [Value.cells] at hcs
    obtain ⟨rfl, rfl, rfl⟩ := hcs
    exact ⟨none, 0, [], rfl, RV.nil _ _, by simp, by simp⟩
  · simp [Value.cells] at hcs
    obtain ⟨rfl, rfl, rfl⟩ := hcs
    simp only [Prod.mk.injEq] at hx
    obtain ⟨rfl, _⟩ := hx
    have hm' : m = cap := by simpa using hm
    have each : ∀ i, i < len → ∃ s : StepD, s.ok W ∧ W.cell? (a'.add (i * 4 + 0)) = some (.int .i64 s.kind) ∧ W.cell? (a'.add (i * 4 + 1)) = some (.int .i64 s.fr) ∧ W.cell? (a'.add (i * 4 + 2)) = some (.int .i64 s.tt) ∧ W.cell? (a'.add (i * 4 + 3)) = some (.slice s.A s.p.length s.c) := by
      intro i hil
      obtain ⟨ys, n, hD, _, hyl, hfl⟩ := hi i (by omega)
      obtain ⟨v0, y0, hc0, hy0, ht0⟩ := hfl 0 _ rfl
      obtain ⟨v1, y1, hc1, hy1, ht1⟩ := hfl 1 _ rfl
      obtain ⟨v2, y2, hc2, hy2, ht2⟩ := hfl 2 _ rfl
      obtain ⟨v3, y3, hc3, hy3, ht3⟩ := hfl 3 _ rfl
      obtain ⟨z0, e0, _, hw0⟩ := DataW.trod_int Tryd.underlying3 ht0
      obtain ⟨z1, e1, _, hw1⟩ := DataW.trod_int Tryd.underlying3 ht1
      obtain ⟨z2, e2, _, hw2⟩ := DataW.trod_int Tryd.underlying3 ht2
      simp at e0 e1 e2
      subst e0 e1 e2
      obtain ⟨A, ca, la, rfl, hra, hca, hba⟩ := open_bytes Tryd.underlying32 Tryd.underlying5 (by kernel_rfl) ht3
      have hDi : Rows.uptoBulk (D i) ≤ 1048576 := by
        have h1 : D i ∈ (List.range len).map D := List.mem_map.2 ⟨i, List.mem_range.2 hil, rfl⟩
        have h2 := bulk_part h1
        have h3 := bulk_slice_all ((List.range len).map D) ((List.range (m - len)).map fun j => D (len + j))
        omega
      rw [hD, ← bulk_agg] at hDi
      have m3 : y3.1 ∈ ys.map (·.1) := List.mem_map.2 ⟨y3, List.mem_of_getElem? hy3, rfl⟩
      have b3 := bulk_part m3
      exact ⟨⟨z0, z1, z2, A, ca, la⟩, ⟨hra, hca, by simp only; omega, i64_of_wf hw1, i64_of_wf hw2⟩, hc0, hc1, hc2, hc3⟩
    obtain ⟨ss, hss, hall⟩ := list_choose len _ each
    refine ⟨some a', cap, ss, by rw [hss], rv_of_fields ss 4 StepD.cells (fun _ => rfl) ?_, ?_, ?_⟩
    · intro i hil j u hu
      obtain ⟨_, h0, h1, h2, h3⟩ := hall i hil
      match j, hu with
      | 0, hu => simp [StepD.cells] at hu; subst hu; exact h0
      | 1, hu => simp [StepD.cells] at hu; subst hu; exact h1
      | 2, hu => simp [StepD.cells] at hu; subst hu; exact h2
      | 3, hu => simp [StepD.cells] at hu; subst hu; exact h3
      | j + 4, hu => simp [StepD.cells] at hu
    · intro q hq
      obtain ⟨i, hil, rfl⟩ := List.mem_iff_getElem.1 hq
      exact (hall i hil).1
    · have h3 := bulk_slice ((List.range len).map D) ((List.range (m - len)).map fun j => D (len + j))
      simp at h3
      omega
end Go.Proofs.YtoemceehmiaigaaDoor.LawHashes
