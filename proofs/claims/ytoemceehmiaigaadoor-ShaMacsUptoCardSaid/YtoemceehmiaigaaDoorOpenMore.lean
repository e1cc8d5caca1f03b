/- Arguments that are one list of bytes, one list of whole numbers. -/
import Derived.Test.YtoemceehmiaigaaDoorOpenRows
import Derived.Test.YtoemceehmiaigaaDoorLawPieces
namespace Go.Proofs.YtoemceehmiaigaaDoor.LawSums
open Go.RowKit Go.WideShapes Go.ChangeShapes Go.Deep Go.Proofs.YtoemceehmiaigaaDoor.Mem Go.Proofs.YtoemceehmiaigaaDoor.Sha Go.Proofs.YtoemceehmiaigaaDoor.LawPieces

theorem open_list {H : Type} {enc : TypeId × Value → H} {W : World} {v : Value} {d : DataW H} {p : List MemPlace} (h : DataW.Trod enc Tryd.prog W 0 (fun _ => true) true 32 v d p) (hs : ∃ a len cap, v = .slice a len cap) :
    ∃ (A : Option Addr) (c : Nat) (l : List UInt8), v = .slice A l.length c ∧ RB W A l ∧ l.length ≤ c ∧ (A = none → c = 0) ∧ c ≤ maxLen ∧ l.length + 1 ≤ Rows.uptoBulk d := by
  obtain ⟨a, len, cap, rfl⟩ := hs
  obtain ⟨fuel, hf⟩ := h
  obtain ⟨A, c, l, hv, hr, hc, hb⟩ := open_bytes Tryd.underlying32 Tryd.underlying5 (by kernel_rfl) hf
  rcases open_ints Tryd.underlying32 Tryd.underlying5 (by kernel_rfl) hf with ⟨hcs, _⟩ | ⟨a', len', cap', zs, hcs, _, hl', hm, _⟩
  · simp [Value.cells] at hcs hv
    obtain ⟨rfl, rfl, rfl⟩ := hcs
    obtain ⟨rfl, h1, rfl⟩ := hv
    exact ⟨none, 0, l, by rw [h1], hr, hc, (fun _ => rfl), (by decide), hb⟩
  · simp [Value.cells] at hcs hv
    obtain ⟨rfl, rfl, rfl⟩ := hcs
    obtain ⟨rfl, h1, rfl⟩ := hv
    exact ⟨some a', cap, l, by rw [h1], hr, hc, (fun h => by cases h), hm, hb⟩

theorem open_nums {H : Type} {enc : TypeId × Value → H} {W : World} {v : Value} {d : DataW H} {p : List MemPlace} (h : DataW.Trod enc Tryd.prog W 0 (fun _ => true) true 54 v d p) (hs : ∃ a len cap, v = .slice a len cap) :
    ∃ (A : Option Addr) (c : Nat) (zs : List Int), v = .slice A zs.length c ∧ RV W A (intsV zs) ∧ (∀ z ∈ zs, -9223372036854775808 ≤ z ∧ z ≤ 9223372036854775807) ∧ zs.length + 1 ≤ Rows.uptoBulk d := by
  obtain ⟨a, len, cap, rfl⟩ := hs
  obtain ⟨fuel, hf⟩ := h
  rcases open_ints Tryd.underlying54 Tryd.underlying3 (by kernel_rfl) hf with ⟨hcs, hx⟩ | ⟨a', len', cap', zs, hcs, _, hl', hm, hz, hx, hcell, hwz⟩
  · simp [Value.cells] at hcs
    obtain ⟨rfl, rfl, rfl⟩ := hcs
    exact ⟨none, 0, [], rfl, RV.nil _ _, by simp, bulk_one d⟩
  · simp [Value.cells] at hcs
    obtain ⟨rfl, rfl, rfl⟩ := hcs
    have hzl : len ≤ zs.length := by rw [hz]; split <;> omega
    have hlen : (zs.take len).length = len := by rw [List.length_take]; omega
    refine ⟨some a', cap, zs.take len, by rw [hlen], fun k hk => ?_, fun z hz' => ?_, ?_⟩
    · refine ⟨a', rfl, ?_⟩
      have hk' : k < zs.length := by rw [intsV, List.length_map, hlen] at hk; omega
      have e : (intsV (zs.take len))[k] = .int .i64 zs[k] := by simp [intsV]
      rw [hcell k hk', e, List.getD_eq_getElem?_getD, List.getElem?_eq_getElem hk']
      rfl
    · have hw := hwz z (List.mem_of_mem_take hz')
      simpa [Lit.wf, IntKind.min, IntKind.max, IntKind.signed, IntKind.bits] using hw
    · simp only [Prod.mk.injEq] at hx
      obtain ⟨rfl, _⟩ := hx
      have := bulk_slice (lits (H := H) .i64 (zs.take len)) (lits .i64 (zs.drop len))
      simp only [lits, List.length_map] at this
      simp only [lits]
      exact this
end Go.Proofs.YtoemceehmiaigaaDoor.LawSums
