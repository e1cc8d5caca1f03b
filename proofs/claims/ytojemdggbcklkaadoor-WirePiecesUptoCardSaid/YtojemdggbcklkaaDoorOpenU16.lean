/- An argument that is a list of small numbers (uint16). -/
import Derived.Test.YtojemdggbcklkaaDoorOpenRd2
import Derived.Test.YtojemdggbcklkaaDoorLawStream
namespace Go.Proofs.YtojemdggbcklkaaDoor.WireO
set_option linter.unusedVariables false
set_option linter.unusedSimpArgs false
open Go.RowKit Go.WideShapes Go.ChangeShapes Go.Deep Go.Proofs.YtojemdggbcklkaaDoor.Mem Go.Proofs.YtojemdggbcklkaaDoor.WireR

theorem open_u16s {H : Type} {enc : TypeId × Value → H} {W : World} {v : Value} {d : DataW H} {p : List MemPlace} (h : DataW.Trod enc Tryd.prog W 0 (fun _ => true) true 54 v d p) (hs : ∃ a len cap, v = .slice a len cap) :
    ∃ (A : Option Addr) (c : Nat) (zs : List Nat), v = .slice A zs.length c ∧ RV W A (zs.map u16V) ∧ (∀ z ∈ zs, z ≤ 65535) ∧ zs.length + 1 ≤ Rows.uptoBulk d := by
  obtain ⟨a, len, cap, rfl⟩ := hs
  obtain ⟨fuel, hf⟩ := h
  rcases open_ints Tryd.underlying54 Tryd.underlying55 (by kernel_rfl) hf with ⟨hcs, hx⟩ | ⟨a', len', cap', zs, hcs, _, hl', hm, hz, hx, hcell, hwz⟩
  · simp [Value.cells] at hcs
    obtain ⟨rfl, rfl, rfl⟩ := hcs
    exact ⟨none, 0, [], rfl, RV.nil _ _, by simp, bulk_one d⟩
  · simp [Value.cells] at hcs
    obtain ⟨rfl, rfl, rfl⟩ := hcs
    have hzl : len ≤ zs.length := by rw [hz]; split <;> omega
    have hlen : (zs.take len).length = len := by rw [List.length_take]; omega
    have hb : ∀ z ∈ zs.take len, 0 ≤ z ∧ z ≤ 65535 := fun z hz' => by
      have hw := hwz z (List.mem_of_mem_take hz')
      simpa [Lit.wf, IntKind.min, IntKind.max, IntKind.signed, IntKind.bits] using hw
    refine ⟨some a', cap, (zs.take len).map Int.toNat, by rw [List.length_map, hlen], fun k hk => ?_, fun z hz' => ?_, ?_⟩
    · refine ⟨a', rfl, ?_⟩
      have hk2 : k < len := by rw [List.length_map, List.length_map, hlen] at hk; exact hk
      have hk' : k < zs.length := by omega
      have hbk := hb zs[k] (List.mem_take_iff_getElem.2 ⟨k, by omega, rfl⟩)
      have e : (((zs.take len).map Int.toNat).map u16V)[k] = .int .u16 zs[k] := by
        simp only [List.getElem_map, List.getElem_take, u16V]
        rw [Int.toNat_of_nonneg hbk.1]
      rw [hcell k hk', e, List.getD_eq_getElem?_getD, List.getElem?_eq_getElem hk']
      rfl
    · obtain ⟨y, hy, rfl⟩ := List.mem_map.1 hz'
      have := hb y hy
      omega
    · simp only [Prod.mk.injEq] at hx
      obtain ⟨rfl, _⟩ := hx
      have := bulk_slice (lits (H := H) .u16 (zs.take len)) (lits .u16 (zs.drop len))
      simp only [lits, List.length_map] at this
      simp only [lits, List.length_map]
      exact this
end Go.Proofs.YtojemdggbcklkaaDoor.WireO
