/- Arguments of the seal laws: a claim, a list of claims, a text, a list of bytes. -/
import Derived.Test.YtoemceehmiaigaaDoorSealRows
import Derived.ChangeSame
namespace Go.Proofs.YtoemceehmiaigaaDoor.Seal
open Go.RowKit Go.WideShapes Go.ChangeShapes Go.Deep Go.Proofs.YtoemceehmiaigaaDoor.Mem

theorem wf_i64 {z : Int} (h : (Lit.int .i64 z).wf = true) : -9223372036854775808 ≤ z ∧ z ≤ 9223372036854775807 := by
  simpa [Lit.wf, IntKind.min, IntKind.max, IntKind.signed, IntKind.bits] using h
theorem open_str {H : Type} {enc : TypeId × Value → H} {W : World} {v : Value} {d : DataW H} {p : List MemPlace} (h : DataW.Trod enc Tryd.prog W 0 (fun _ => true) true 9 v d p) (hs : ∃ s, v = .string s) :
    ∃ s : List UInt8, v = .string ⟨s.toArray⟩ ∧ s.length ≤ Rows.uptoBulk d := by
  obtain ⟨s, rfl⟩ := hs
  obtain ⟨fuel, hf⟩ := h
  obtain ⟨s', h, hx, hs⟩ := DataW.trod_string Tryd.underlying9 hf
  simp [Value.cells] at h
  subst h
  simp only [Prod.mk.injEq] at hx
  obtain ⟨rfl, _⟩ := hx
  exact ⟨s.data.toList, rfl, by simp [Rows.uptoBulk]⟩
theorem cells_claim {fuel : Nat} {H : Type} {enc : TypeId × Value → H} {W : World} {cs : List Value} {x : DataW H × List MemPlace} (h : DataW.trod enc Tryd.prog W 0 (fun _ => true) true fuel 72 cs = some x) :
    ∃ (z : Int) (p : List UInt8), cs = [.int .i64 z, .string ⟨p.toArray⟩] ∧ (-9223372036854775808 ≤ z ∧ z ≤ 9223372036854775807) ∧ p.length + 1 ≤ Rows.uptoBulk x.1 := by
  obtain ⟨y0, y1, n, rfl, hl, h0, h1⟩ := trod_struct2 Tryd.underlying72 h
  rw [show Tryd.prog.cellsOf 72 = 2 from by kernel_rfl] at hl
  rw [show Tryd.prog.cellsOf 2 = 1 from by kernel_rfl] at h0
  rw [show Tryd.prog.cellsOf 9 = 1 from by kernel_rfl] at h1
  obtain ⟨a, b, rfl⟩ : ∃ a b, cs = [a, b] := by
    match cs, hl with
    | [a, b], _ => exact ⟨a, b, rfl⟩
  simp only [List.drop_zero, List.drop_succ_cons, List.take_succ_cons, List.take_zero] at h0 h1
  obtain ⟨z, hz, hx0, hwf⟩ := DataW.trod_int Tryd.underlying2 h0
  obtain ⟨s, hs, hx1, _⟩ := DataW.trod_string Tryd.underlying9 h1
  injection hz with hz _
  injection hs with hs _
  refine ⟨z, s.data.toList, by rw [hz, hs], wf_i64 hwf, ?_⟩
  rw [hx1]
  simp [Rows.uptoBulk, Rows.uptoBulkAll]
  omega
theorem open_claim {H : Type} {enc : TypeId × Value → H} {W : World} {v : Value} {d : DataW H} {p : List MemPlace} (h : DataW.Trod enc Tryd.prog W 0 (fun _ => true) true 72 v d p) (hs : ∃ cs, v = .agg cs ∧ cs.size = Tryd.prog.cellsOf 72) :
    ∃ (z : Int) (p : List UInt8), v = .agg #[.int .i64 z, .string ⟨p.toArray⟩] ∧ (-9223372036854775808 ≤ z ∧ z ≤ 9223372036854775807) ∧ p.length + 1 ≤ Rows.uptoBulk d := by
  obtain ⟨cs, rfl, _⟩ := hs
  obtain ⟨fuel, hf⟩ := h
  obtain ⟨z, p, hcs, hz, hb⟩ := cells_claim hf
  refine ⟨z, p, ?_, hz, hb⟩
  cases cs
  simp [Value.cells] at hcs
  rw [hcs]
theorem open_list {H : Type} {enc : TypeId × Value → H} {W : World} {v : Value} {d : DataW H} {p : List MemPlace} (h : DataW.Trod enc Tryd.prog W 0 (fun _ => true) true 32 v d p) (hs : ∃ a len cap, v = .slice a len cap) :
    ∃ (A : Option Addr) (c : Nat) (l : List UInt8), v = .slice A l.length c ∧ RB W A l ∧ l.length ≤ c ∧ (A = none → c = 0) ∧ c ≤ maxLen ∧ l.length + 1 ≤ Rows.uptoBulk d := by
  obtain ⟨a, len, cap, rfl⟩ := hs
  obtain ⟨fuel, hf⟩ := h
  obtain ⟨A, c, l, hv, hr, hc, hb⟩ := open_bytes Tryd.underlying32 Tryd.underlying5 (by kernel_rfl) hf
  rcases open_ints Tryd.underlying32 Tryd.underlying5 (by kernel_rfl) hf with ⟨hcs, _⟩ | ⟨a', len', cap', zs, hcs, _, hl', hm, _⟩
  · simp [Value.cells] at hcs hv
    obtain ⟨rfl, rfl, rfl⟩ := hcs
    obtain ⟨rfl, h1, rfl⟩ := hv
    exact ⟨none, 0, l, by rw [h1], hr, hc, (fun _ => rfl), (by decide), hb⟩
  · simp [Value.cells] at hcs hv
    obtain ⟨rfl, rfl, rfl⟩ := hcs
    obtain ⟨rfl, h1, rfl⟩ := hv
    exact ⟨some a', cap, l, by rw [h1], hr, hc, (fun h => by cases h), hm, hb⟩
end Go.Proofs.YtoemceehmiaigaaDoor.Seal
