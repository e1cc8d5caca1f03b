/- Arguments of the wire laws: a request. -/
import Derived.Test.YtojemdggbcklkaaHeads2
import Derived.Test.YtojemdggbcklkaaOpen
import Derived.Deep.Strs
import Derived.ChangeSame
namespace Go.Proofs.Ytojemdggbcklkaa.Heads
open Go.RowKit Go.WideShapes Go.ChangeShapes Go.Deep Go.Proofs.Ytojemdggbcklkaa.Mem
set_option linter.unusedVariables false

theorem open_str {H : Type} {enc : TypeId × Value → H} {W : World} {v : Value} {d : DataW H} {p : List MemPlace} (h : DataW.Trod enc Try.prog W 0 (fun _ => true) true 9 v d p) (hs : ∃ s, v = .string s) :
    ∃ s : List UInt8, v = .string ⟨s.toArray⟩ ∧ s.length ≤ Rows.uptoBulk d := by
  obtain ⟨s, rfl⟩ := hs
  obtain ⟨fuel, hf⟩ := h
  obtain ⟨s', h, hx, hs⟩ := DataW.trod_string Try.underlying9 hf
  simp [Value.cells] at h
  subst h
  simp only [Prod.mk.injEq] at hx
  obtain ⟨rfl, _⟩ := hx
  exact ⟨s.data.toList, rfl, by simp [Rows.uptoBulk]⟩

theorem open_hds {H : Type} {enc : TypeId × Value → H} {W : World} {fuel : Nat} {v : Value} {x : DataW H × List MemPlace} (hk : Rows.uptoBulk x.1 ≤ 1048576) (hf : DataW.trod enc Try.prog W 0 (fun _ => true) true fuel 22 [v] = some x) :
    ∃ (A : Option Addr) (c : Nat) (hs : List HD), v = .slice A hs.length c ∧ RV W A (hs.flatMap HD.cells) ∧ (∀ h ∈ hs, HD.ok h) ∧ hs.length ≤ 1048576 ∧ hs.length ≤ c := by
  rcases open_slice_fields (fs := _) Try.underlying22 Try.underlying29 (by kernel_rfl) (by kernel_rfl) hf with ⟨hcs, hx⟩ | ⟨a', len, cap, m, D, Pl, hcs, _, hl, _, hm, hx, hi⟩
  · injection hcs with hcs _
    subst hcs
    exact ⟨none, 0, [], rfl, RV.nil _ _, by simp, by simp, by simp⟩
  · injection hcs with hcs _
    subst hcs
    subst hx
    have hm' : m = cap := by simpa using hm
    have each : ∀ i, i < len → ∃ h : HD, HD.ok h ∧ W.cell? (a'.add (i * 2 + 0)) = some (.string ⟨h.1.toArray⟩) ∧ W.cell? (a'.add (i * 2 + 1)) = some (.string ⟨h.2.toArray⟩) := by
      intro i hil
      obtain ⟨ys, n, hD, _, hyl, hfl⟩ := hi i (by omega)
      obtain ⟨v0, y0, hc0, hy0, ht0⟩ := hfl 0 _ rfl
      obtain ⟨v1, y1, hc1, hy1, ht1⟩ := hfl 1 _ rfl
      obtain ⟨s0, hs0, hx0, _⟩ := DataW.trod_string Try.underlying9 ht0
      obtain ⟨s1, hs1, hx1, _⟩ := DataW.trod_string Try.underlying9 ht1
      injection hs0 with hs0 _
      injection hs1 with hs1 _
      have hDi : Rows.uptoBulk (D i) ≤ 1048576 := by
        have h1 : D i ∈ (List.range len).map D := List.mem_map.2 ⟨i, List.mem_range.2 hil, rfl⟩
        have h2 := bulk_part h1
        have h3 := bulk_slice_all ((List.range len).map D) ((List.range (m - len)).map fun j => D (len + j))
        simp only at hk
        omega
      rw [hD, ← bulk_agg] at hDi
      have m0 : y0.1 ∈ ys.map (·.1) := List.mem_map.2 ⟨y0, List.mem_of_getElem? hy0, rfl⟩
      have m1 : y1.1 ∈ ys.map (·.1) := List.mem_map.2 ⟨y1, List.mem_of_getElem? hy1, rfl⟩
      have b0 := bulk_part m0
      have b1 := bulk_part m1
      rw [hx0] at b0
      rw [hx1] at b1
      simp only [Rows.uptoBulk] at b0 b1
      exact ⟨(s0.data.toList, s1.data.toList), ⟨by simp only; omega, by simp only; omega⟩, hs0 ▸ hc0, hs1 ▸ hc1⟩
    obtain ⟨hs, hhs, hall⟩ := list_choose len _ each
    refine ⟨some a', cap, hs, by rw [hhs], rv_of_fields hs 2 HD.cells (fun _ => rfl) ?_, ?_, ?_, by omega⟩
    · intro i hil j u hu
      obtain ⟨_, h0, h1⟩ := hall i hil
      match j, hu with
      | 0, hu => simp [HD.cells] at hu; subst hu; exact h0
      | 1, hu => simp [HD.cells] at hu; subst hu; exact h1
      | j + 2, hu => simp [HD.cells] at hu
    · intro q hq
      obtain ⟨i, hil, rfl⟩ := List.mem_iff_getElem.1 hq
      exact (hall i hil).1
    · have h3 := bulk_slice ((List.range len).map D) ((List.range (m - len)).map fun j => D (len + j))
      simp at h3 hk
      omega

theorem open_request {H : Type} {enc : TypeId × Value → H} {W : World} {v : Value} {d : DataW H} {p : List MemPlace} (hk : Rows.uptoBulk d ≤ 1048576) (h : DataW.Trod enc Try.prog W 0 (fun _ => true) true 25 v d p) (hs : ∃ cs, v = .agg cs ∧ cs.size = Try.prog.cellsOf 25) :
    ∃ (m t : ByteArray) (B : Option Addr) (nb cb : Nat) (cl : Bool) (A : Option Addr) (c : Nat) (hs : List HD), v = .agg #[.string m, .string t, .slice A hs.length c, .slice B nb cb, .bool cl] ∧ RV W A (hs.flatMap HD.cells) ∧ (∀ h ∈ hs, HD.ok h) ∧ hs.length ≤ 1048576 := by
  obtain ⟨cs, rfl, hsz⟩ := hs
  obtain ⟨fuel, hf⟩ := h
  obtain ⟨xs, n, _, hx, hl, hlen, hfl⟩ := DataW.trod_struct Try.underlying25 hf
  rw [show Try.prog.cellsOf 25 = 5 from by kernel_rfl] at hsz
  obtain ⟨c0, c1, c2, c3, c4, rfl⟩ : ∃ a b c d e, cs = #[a, b, c, d, e] := by
    rcases cs with ⟨l⟩
    match l, hsz with
    | [a, b, c, d, e], _ => exact ⟨a, b, c, d, e, rfl⟩
  have h0 : DataW.trod enc Try.prog W 0 (fun _ => true) true n 9 (List.take (Try.prog.cellsOf 9) (List.drop 0 (Value.agg #[c0, c1, c2, c3, c4]).cells.toList)) = xs[0]? := hfl 0 _ rfl
  have h1 : DataW.trod enc Try.prog W 0 (fun _ => true) true n 9 (List.take (Try.prog.cellsOf 9) (List.drop 1 (Value.agg #[c0, c1, c2, c3, c4]).cells.toList)) = xs[1]? := hfl 1 _ rfl
  have h2 : DataW.trod enc Try.prog W 0 (fun _ => true) true n 22 (List.take (Try.prog.cellsOf 22) (List.drop 2 (Value.agg #[c0, c1, c2, c3, c4]).cells.toList)) = xs[2]? := hfl 2 _ rfl
  have h3 : DataW.trod enc Try.prog W 0 (fun _ => true) true n 23 (List.take (Try.prog.cellsOf 23) (List.drop 3 (Value.agg #[c0, c1, c2, c3, c4]).cells.toList)) = xs[3]? := hfl 3 _ rfl
  have h4 : DataW.trod enc Try.prog W 0 (fun _ => true) true n 4 (List.take (Try.prog.cellsOf 4) (List.drop 4 (Value.agg #[c0, c1, c2, c3, c4]).cells.toList)) = xs[4]? := hfl 4 _ rfl
  rw [show Try.prog.cellsOf 9 = 1 from by kernel_rfl] at h0 h1
  rw [show Try.prog.cellsOf 22 = 1 from by kernel_rfl] at h2
  rw [show Try.prog.cellsOf 23 = 1 from by kernel_rfl] at h3
  rw [show Try.prog.cellsOf 4 = 1 from by kernel_rfl] at h4
  simp only [Value.cells, List.drop_zero, List.drop_succ_cons, List.take_succ_cons, List.take_zero] at h0 h1 h2 h3 h4
  have hlen5 : xs.length = 5 := hlen
  obtain ⟨y0, y1, y2, y3, y4, rfl⟩ : ∃ a b c d e, xs = [a, b, c, d, e] := by
    match xs, hlen5 with
    | [a, b, c, d, e], _ => exact ⟨a, b, c, d, e, rfl⟩
  simp only [List.getElem?_cons_zero, List.getElem?_cons_succ] at h0 h1 h2 h3 h4
  simp only [Prod.mk.injEq] at hx
  obtain ⟨rfl, _⟩ := hx
  rw [← bulk_agg] at hk
  have m2 : y2.1 ∈ [y0, y1, y2, y3, y4].map (·.1) := by simp
  have b2 := bulk_part m2
  obtain ⟨s0, hs0, _, _⟩ := DataW.trod_string Try.underlying9 h0
  obtain ⟨s1, hs1, _, _⟩ := DataW.trod_string Try.underlying9 h1
  injection hs0 with hs0 _
  injection hs1 with hs1 _
  obtain ⟨A, c, hs, hv2, hrv, hok, hhl, _⟩ := open_hds (by omega) h2
  obtain ⟨B, cb, lb, hv3, _, _, _⟩ := open_bytes Try.underlying23 Try.underlying5 (by kernel_rfl) h3
  obtain ⟨cl, hcl, _⟩ := DataW.trod_bool Try.underlying4 h4
  injection hcl with hcl _
  exact ⟨s0, s1, B, lb.length, cb, cl, A, c, hs, by rw [hs0, hs1, hv2, hv3, hcl], hrv, hok, hhl⟩
end Go.Proofs.Ytojemdggbcklkaa.Heads
