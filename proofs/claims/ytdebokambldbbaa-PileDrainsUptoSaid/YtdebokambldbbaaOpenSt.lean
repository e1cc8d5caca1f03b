/- The argument that is a list of steps: three numbers each. -/
import Derived.Test.YtdebokambldbbaaPItems
namespace Go.Proofs.Ytdebokambldbbaa.LawP
set_option linter.unusedVariables false
set_option linter.unusedSectionVars false
set_option linter.unusedSimpArgs false
open Go.RowKit Go.WideShapes Go.ChangeShapes Go.Deep Go.Proofs.Ytdebokambldbbaa.Mem

abbrev Stp := Int × Int × Int
def Stp.cells (x : Stp) : List Value := [.int .i64 x.1, .int .i64 x.2.1, .int .i64 x.2.2]
def Stp.ok (r : Stp) : Prop := (-9223372036854775808 ≤ r.1 ∧ r.1 ≤ 9223372036854775807) ∧ (-9223372036854775808 ≤ r.2.1 ∧ r.2.1 ≤ 9223372036854775807) ∧ (-9223372036854775808 ≤ r.2.2 ∧ r.2.2 ≤ 9223372036854775807)
theorem open_steps {H : Type} {enc : TypeId × Value → H} {W : World} {v : Value} {d : DataW H} {p : List MemPlace} (hk : Rows.uptoBulk d ≤ 1048576) (h : DataW.Trod enc Try.prog W 0 (fun _ => true) true 22 v d p) (hs : ∃ a len cap, v = .slice a len cap) :
    ∃ (A : Option Addr) (c : Nat) (rs : List Stp), v = .slice A rs.length c ∧ RV W A (rs.flatMap Stp.cells) ∧ (∀ r ∈ rs, r.ok) ∧ rs.length ≤ 1048576 ∧ rs.length ≤ c := by
  obtain ⟨a, len, cap, rfl⟩ := hs
  obtain ⟨fuel, hf⟩ := h
  rcases open_slice_fields (fs := _) Try.underlying22 Try.underlying28 (by kernel_rfl) (by kernel_rfl) hf with ⟨hcs, hx⟩ | ⟨a', len', cap', m, D, Pl, hcs, _, hl, _, hm, hx, hi⟩
  · simp [Value.cells] at hcs
    obtain ⟨rfl, rfl, rfl⟩ := hcs
    exact ⟨none, 0, [], rfl, RV.nil _ _, by simp, by simp, by simp⟩
  · simp [Value.cells] at hcs
    obtain ⟨rfl, rfl, rfl⟩ := hcs
    simp only [Prod.mk.injEq] at hx
    obtain ⟨rfl, _⟩ := hx
    have hm' : m = cap := by simpa using hm
    have each : ∀ i, i < len → ∃ r : Stp, r.ok ∧ W.cell? (a'.add (i * 3 + 0)) = some (.int .i64 r.1) ∧ W.cell? (a'.add (i * 3 + 1)) = some (.int .i64 r.2.1) ∧ W.cell? (a'.add (i * 3 + 2)) = some (.int .i64 r.2.2) := by
      intro i hil
      obtain ⟨ys, n, hD, _, hyl, hfl⟩ := hi i (by omega)
      obtain ⟨v0, y0, hc0, hy0, ht0⟩ := hfl 0 _ rfl
      obtain ⟨v1, y1, hc1, hy1, ht1⟩ := hfl 1 _ rfl
      obtain ⟨v2, y2, hc2, hy2, ht2⟩ := hfl 2 _ rfl
      obtain ⟨z, hz, hx0, hwf⟩ := DataW.trod_int Try.underlying3 ht0
      obtain ⟨s, hs, hx1, hwf1⟩ := DataW.trod_int Try.underlying3 ht1
      obtain ⟨t, ht, hx2, hwf2⟩ := DataW.trod_int Try.underlying3 ht2
      injection hz with hz _
      injection hs with hs _
      injection ht with ht _
      have w0 : -9223372036854775808 ≤ z ∧ z ≤ 9223372036854775807 := by simpa [Lit.wf, IntKind.min, IntKind.max, IntKind.signed, IntKind.bits] using hwf
      have w1 : -9223372036854775808 ≤ s ∧ s ≤ 9223372036854775807 := by simpa [Lit.wf, IntKind.min, IntKind.max, IntKind.signed, IntKind.bits] using hwf1
      have w2 : -9223372036854775808 ≤ t ∧ t ≤ 9223372036854775807 := by simpa [Lit.wf, IntKind.min, IntKind.max, IntKind.signed, IntKind.bits] using hwf2
      exact ⟨(z, s, t), ⟨w0, w1, w2⟩, hz ▸ hc0, hs ▸ hc1, ht ▸ hc2⟩
    obtain ⟨rs, hrs, hall⟩ := list_choose len _ each
    refine ⟨some a', cap, rs, by rw [hrs], rv_of_fields rs 3 Stp.cells (fun _ => rfl) ?_, ?_, ?_, by omega⟩
    · intro i hil j u hu
      obtain ⟨_, h0, h1, h2⟩ := hall i hil
      match j, hu with
      | 0, hu => simp [Stp.cells] at hu; subst hu; exact h0
      | 1, hu => simp [Stp.cells] at hu; subst hu; exact h1
      | 2, hu => simp [Stp.cells] at hu; subst hu; exact h2
      | j + 3, hu => simp [Stp.cells] at hu
    · intro q hq
      obtain ⟨i, hil, rfl⟩ := List.mem_iff_getElem.1 hq
      exact (hall i hil).1
    · have h3 := bulk_slice ((List.range len).map D) ((List.range (m - len)).map fun j => D (len + j))
      simp at h3
      omega
theorem step_at {W : World} {A : Option Addr} {l : List Stp} (h : RV W A (l.flatMap Stp.cells)) {k : Nat} (hk : k < l.length) : ∃ ad, A = some ad ∧ W.cell? (ad.add (k * 3)) = some (.int .i64 l[k].1) ∧ W.cell? ⟨(ad.add (k * 3)).block, (ad.add (k * 3)).off + 1, none⟩ = some (.int .i64 l[k].2.1) ∧ W.cell? ⟨(ad.add (k * 3)).block, (ad.add (k * 3)).off + 2, none⟩ = some (.int .i64 l[k].2.2) := by
  have hlen : (l.flatMap Stp.cells).length = l.length * 3 := by
    clear h hk
    induction l with
    | nil => rfl
    | cons a r ih => rw [List.flatMap_cons, List.length_append, ih, List.length_cons, Nat.add_mul, Nat.add_comm]; rfl
  have e : ∀ j (hj : j < 3), (l.flatMap Stp.cells)[k * 3 + j]? = (Stp.cells l[k])[j]? := fun j hj => flat_at Stp.cells 3 l k j hk (fun _ _ => rfl) hj
  obtain ⟨ad, hA, h0⟩ := h (k * 3) (by rw [hlen]; omega)
  have c := h.cells hA
  have c0 := c (k * 3) (.int .i64 l[k].1) (by have := e 0 (by omega); simpa [Stp.cells] using this)
  have c1 := c (k * 3 + 1) (.int .i64 l[k].2.1) (by have := e 1 (by omega); simpa [Stp.cells] using this)
  have c2 := c (k * 3 + 2) (.int .i64 l[k].2.2) (by have := e 2 (by omega); simpa [Stp.cells] using this)
  exact ⟨ad, hA, c0, cell_next (j := 0) (by simpa using c1), cell_next (j := 1) (by simpa using c2)⟩
end Go.Proofs.Ytdebokambldbbaa.LawP
