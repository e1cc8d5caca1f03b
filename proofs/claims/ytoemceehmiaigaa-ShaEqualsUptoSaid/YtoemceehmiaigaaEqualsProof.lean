/- weirlaw04.ShaEquals answers true for every list of pairs of byte lists, and each argument reads behind the call as it read before.
   CONDITION: the input holds at most 1048576 values and letters (the given statement's own bound). -/
import Derived.Test.YtoemceehmiaigaaLawEquals
import Derived.Test.YtoemceehmiaigaaOpen
namespace Go.Proofs.Ytoemceehmiaigaa.EqualsProof
open Go.ChangeShapes Go.WideShapes Go.ChangeAt Go.RowKit Go.Proofs.Ytoemceehmiaigaa.Mem Go.Proofs.Ytoemceehmiaigaa.LawEquals
set_option linter.unusedVariables false

theorem own : ownKnob Try.prog.godebug = none := by kernel_rfl
theorem laidOut : laidOutB Try.prog = true := by kernel_rfl

theorem openArg {H : Type} {enc : TypeId × Value → H} {W : World} {v : Value} {d : DataW H} {p : List MemPlace} (hk : Rows.uptoBulk d ≤ 1048576) (h : DataW.Trod enc Try.prog W 0 (fun _ => true) true 22 v d p) (hs : ∃ a len cap, v = .slice a len cap) :
    ∃ (A : Option Addr) (c : Nat) (ps : List PairD), v = .slice A ps.length c ∧ RV W A (ps.flatMap PairD.cells) ∧ (∀ p ∈ ps, p.ok W) ∧ ps.length ≤ 1048576 := by
  obtain ⟨a, len, cap, rfl⟩ := hs
  obtain ⟨fuel, hf⟩ := h
  rcases open_slice_fields (fs := _) Try.underlying22 Try.underlying27 (by kernel_rfl) (by kernel_rfl) hf with ⟨hcs, hx⟩ | ⟨a', len', cap', m, D, Pl, hcs, _, hl, _, hm, hx, hi⟩
  · simp [Value.cells] at hcs
    obtain ⟨rfl, rfl, rfl⟩ := hcs
    exact ⟨none, 0, [], rfl, RV.nil _ _, by simp, by simp⟩
  · simp [Value.cells] at hcs
    obtain ⟨rfl, rfl, rfl⟩ := hcs
    simp only [Prod.mk.injEq] at hx
    obtain ⟨rfl, _⟩ := hx
    have hm' : m = cap := by simpa using hm
    have each : ∀ i, i < len → ∃ p : PairD, p.ok W ∧ W.cell? (a'.add (i * 2 + 0)) = some (.slice p.A p.a.length p.ca) ∧ W.cell? (a'.add (i * 2 + 1)) = some (.slice p.B p.b.length p.cb) := by
      intro i hil
      obtain ⟨ys, n, hD, _, hyl, hfl⟩ := hi i (by omega)
      obtain ⟨v0, y0, hc0, hy0, ht0⟩ := hfl 0 _ rfl
      obtain ⟨v1, y1, hc1, hy1, ht1⟩ := hfl 1 _ rfl
      obtain ⟨A, ca, la, rfl, hra, _, hba⟩ := open_bytes Try.underlying24 Try.underlying5 (by kernel_rfl) ht0
      obtain ⟨B, cb, lb, rfl, hrb, _, hbb⟩ := open_bytes Try.underlying24 Try.underlying5 (by kernel_rfl) ht1
      have hDi : Rows.uptoBulk (D i) ≤ 1048576 := by
        have h1 : D i ∈ (List.range len).map D := List.mem_map.2 ⟨i, List.mem_range.2 hil, rfl⟩
        have h2 := bulk_part h1
        have h3 := bulk_slice_all ((List.range len).map D) ((List.range (m - len)).map fun j => D (len + j))
        omega
      rw [hD, ← bulk_agg] at hDi
      have m0 : y0.1 ∈ ys.map (·.1) := List.mem_map.2 ⟨y0, List.mem_of_getElem? hy0, rfl⟩
      have m1 : y1.1 ∈ ys.map (·.1) := List.mem_map.2 ⟨y1, List.mem_of_getElem? hy1, rfl⟩
      have b0 := bulk_part m0
      have b1 := bulk_part m1
      exact ⟨⟨A, B, ca, cb, la, lb⟩, ⟨hra, hrb, by simp only; omega, by simp only; omega⟩, hc0, hc1⟩
    obtain ⟨ps, hps, hall⟩ := list_choose len _ each
    refine ⟨some a', cap, ps, by rw [hps], rv_of_fields ps 2 PairD.cells (fun _ => rfl) ?_, ?_, ?_⟩
    · intro i hil j u hu
      obtain ⟨_, h0, h1⟩ := hall i hil
      match j, hu with
      | 0, hu => simp [PairD.cells] at hu; subst hu; exact h0
      | 1, hu => simp [PairD.cells] at hu; subst hu; exact h1
      | j + 2, hu => simp [PairD.cells] at hu
    · intro q hq
      obtain ⟨i, hil, rfl⟩ := List.mem_iff_getElem.1 hq
      exact (hall i hil).1
    · have h3 := bulk_slice ((List.range len).map D) ((List.range (m - len)).map fun j => D (len + j))
      simp at h3
      omega

set_option maxRecDepth 100000 in
theorem lifted (os : Os) (started : os.Started) (H : Type) (enc : TypeId × Value → H) (F : Stop.Interp) :
    ReturnsInHanded {} Try.checked os 3 .any ((Rows.OpenSpec.upto Rows.shaEqualsSpec).pre6 enc Try.prog Try.f3 Rows.shaEqualsUptoRow.domain false) (((Rows.OpenSpec.upto Rows.shaEqualsSpec).at F).post enc Try.prog Try.f3 false true false false) := by
  refine returnsInHanded_of_cond (C := Try.checked) (s := Rows.OpenSpec.upto Rows.shaEqualsSpec) (k := Rows.uptoSmall) rfl own started (by kernel_rfl) Try.func3
    (OpenSpec.witness (enc := enc) (C := Try.checked) (s := Rows.OpenSpec.upto Rows.shaEqualsSpec) (k := Rows.uptoSmall) rfl false ⟨#[], #[.slice none 0 0], []⟩ 8 (by kernel_rfl) (by kernel_rfl) (by kernel_rfl)
      (x := ([.nil], [], [])) (by kernel_rfl) rfl (by kernel_rfl)) ?_
  intro W base args ds gs before hval0 hW _ hk _
  have hval : ∀ (j : Nat) t v, Try.f3.params[j]? = some t → args[j]? = some v → Value.okWide Try.prog W .any base t v := hval0
  have hW' := hW
  obtain ⟨p, q, hA0, hV, rfl, hfz, hnd⟩ := hW
  have hA : DataW.TrodAll enc Try.prog W 0 (fun _ => true) true Try.f3.params.toList args.toList ds p := hA0
  rw [Try.params3] at hA hval
  obtain ⟨v0, vs0, d0, ds0, p0, q0, hargs, rfl, rfl, h0, r0⟩ := trodAll_cons hA
  obtain ⟨rfl, rfl, rfl⟩ := trodAll_nil r0
  obtain rfl : args = #[v0] := by cases args; simp_all
  obtain ⟨rfl, rfl⟩ := trodVars_none hV
  have k0 := h0
  have lt0 : ∀ x ∈ p0, x.block < W.heap.size := by obtain ⟨m, hm⟩ := k0; exact DataW.trod_lt m _ _ _ hm
  have hbulk : Rows.uptoBulk d0 ≤ 1048576 := by
    have h := bulk_bound hk
    simp only [List.append_nil, Rows.uptoBulkAll] at h
    omega
  obtain ⟨A, c, ps, rfl, hrv, hok, hpl⟩ := openArg hbulk h0 (okWide_slice Try.underlying22 (hval 0 22 _ rfl rfl))
  clear hA0 hval0
  refine (law_any A c ps W hrv hok (by omega)).mono fun e W' ⟨he, bel⟩ => ?_
  subst he
  exact ⟨_, rfl, _, _, _, [], _, [], hW', trodAll_mk1 (shut_bool Try.underlying4 _), (trodAll_cons_mk (Below.trod laidOut (by kernel_rfl) (of_decide_eq_true (by kernel_rfl)) k0 bel lt0) trodAll_mk0), rfl, bel.frame _, fun h => by cases h⟩

theorem over : Rows.shaEqualsUptoRow.holds Try.pinned (Rows.OpenSpec.upto Rows.shaEqualsSpec) :=
  OpenClaim.holds_of_cond 3 Try.f3 rfl rfl rfl rfl rfl rfl rfl ⟨rfl, rfl, rfl, rfl, rfl⟩ rfl rfl rfl rfl rfl (by kernel_rfl) Try.func3 (by kernel_rfl)
    (of_decide_eq_true (by kernel_rfl)) (by unfold Func.isWrapper; first | (rw [if_pos (by decide +kernel)]; kernel_rfl) | (rw [if_neg (by decide +kernel)]; exact ⟨rfl, rfl⟩))
    (fun os started H enc _ F => lifted os started H enc F)

theorem proved : Rows.ShaEqualsUptoSaid := over
end Go.Proofs.Ytoemceehmiaigaa.EqualsProof
