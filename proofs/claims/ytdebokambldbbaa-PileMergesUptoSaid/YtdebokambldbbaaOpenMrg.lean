/- The arguments of PileMerges: a list of lists of things, a truth value. -/
import Derived.Test.YtdebokambldbbaaLawMerges
import Derived.Test.YtdebokambldbbaaOpenItems
namespace Go.Proofs.Ytdebokambldbbaa.LawP
set_option linter.unusedVariables false
set_option linter.unusedSectionVars false
set_option linter.unusedSimpArgs false
open Go.RowKit Go.WideShapes Go.ChangeShapes Go.Deep Go.Proofs.Ytdebokambldbbaa.Mem Go.Proofs.Ytdebokambldbbaa.Heap

theorem bulk_total {H : Type} : ∀ (ls : List (List Itm)) (ds : List (DataW H)), ls.length = ds.length → (∀ (i : Nat) (h1 : i < ls.length) (h2 : i < ds.length), ls[i].length ≤ Rows.uptoBulk ds[i]) → total ls ≤ Rows.uptoBulkAll ds
  | [], _, _, _ => by simp [total]
  | l :: ls, [], h, _ => by simp at h
  | l :: ls, d :: ds, h, hi => by
    have h0 := hi 0 (by simp) (by simp)
    have h1 := bulk_total ls ds (by simpa using h) (fun i a b => by have := hi (i + 1) (by simpa using a) (by simpa using b); simpa using this)
    simp only [List.getElem_cons_zero] at h0
    unfold total at h1 ⊢
    simp only [List.map_cons, List.sum_cons, Rows.uptoBulkAll]
    omega
theorem items_of {H : Type} {enc : TypeId × Value → H} {W : World} {fuel : Nat} {V : Value} {x : DataW H × List MemPlace} (hf : DataW.trod enc Try.prog W 0 (fun _ => true) true fuel 32 [V] = some x) :
    ∃ (A : Option Addr) (c : Nat) (rs : List Itm), V = .slice A rs.length c ∧ RV W A (rs.flatMap Itm.cells) ∧ rs.length ≤ c ∧ rs.length ≤ Rows.uptoBulk x.1 := by
  rcases open_slice_fields (fs := _) Try.underlying32 Try.underlying35 (by kernel_rfl) (by kernel_rfl) hf with ⟨hcs, hx⟩ | ⟨a', len, cap, m, D, Pl, hcs, _, hl, _, hm, hx, hi⟩
  · injection hcs with hcs _
    subst hcs
    exact ⟨none, 0, [], rfl, RV.nil _ _, by simp, by simp⟩
  · injection hcs with hcs _
    subst hcs
    subst hx
    have hm' : m = cap := by simpa using hm
    have each : ∀ i, i < len → ∃ r : Itm, W.cell? (a'.add (i * 2 + 0)) = some (.int .i64 r.1) ∧ W.cell? (a'.add (i * 2 + 1)) = some (.int .i64 r.2) := by
      intro i hil
      obtain ⟨ys, n, hD, _, hyl, hfl⟩ := hi i (by omega)
      obtain ⟨v0, y0, hc0, hy0, ht0⟩ := hfl 0 _ rfl
      obtain ⟨v1, y1, hc1, hy1, ht1⟩ := hfl 1 _ rfl
      obtain ⟨z, hz, hx0, hwf⟩ := DataW.trod_int Try.underlying3 ht0
      obtain ⟨s, hs, hx1, hwf1⟩ := DataW.trod_int Try.underlying3 ht1
      injection hz with hz _
      injection hs with hs _
      exact ⟨(z, s), hz ▸ hc0, hs ▸ hc1⟩
    obtain ⟨rs, hrs, hall⟩ := list_choose len _ each
    refine ⟨some a', cap, rs, by rw [hrs], rv_of_fields rs 2 Itm.cells (fun _ => rfl) ?_, by omega, ?_⟩
    · intro i hil j u hu
      obtain ⟨h0, h1⟩ := hall i hil
      match j, hu with
      | 0, hu => simp [Itm.cells] at hu; subst hu; exact h0
      | 1, hu => simp [Itm.cells] at hu; subst hu; exact h1
      | j + 2, hu => simp [Itm.cells] at hu
    · have h3 := bulk_slice ((List.range len).map D) ((List.range (m - len)).map fun j => D (len + j))
      simp only [List.length_map, List.length_range] at h3
      simp only
      omega
theorem open_lists {H : Type} {enc : TypeId × Value → H} {W : World} {v : Value} {d : DataW H} {p : List MemPlace} (hk : Rows.uptoBulk d ≤ 1048576) (h : DataW.Trod enc Try.prog W 0 (fun _ => true) true 26 v d p) (hs : ∃ a len cap, v = .slice a len cap) :
    ∃ (A : Option Addr) (c : Nat) (lv : Nat → Value) (ls : List (List Itm)), v = .slice A ls.length c ∧ RV W A ((List.range ls.length).map lv) ∧ (∀ i, i < ls.length → ∃ A c, lv i = .slice A (nth ls i).length c ∧ RV W A ((nth ls i).flatMap Itm.cells) ∧ (nth ls i).length ≤ c) ∧ total ls ≤ 1048576 ∧ ls.length ≤ 1048576 := by
  obtain ⟨a, len, cap, rfl⟩ := hs
  obtain ⟨fuel, hf⟩ := h
  rcases open_slice1 Try.underlying26 (by kernel_rfl) hf with ⟨hcs, hx⟩ | ⟨a', len', cap', m, n, V, D, Pl, hcs, _, hl, _, hm, hx, hi⟩
  · simp [Value.cells] at hcs
    obtain ⟨rfl, rfl, rfl⟩ := hcs
    exact ⟨none, 0, fun _ => .slice none 0 0, [], rfl, RV.nil _ _, fun i hi => absurd hi (Nat.not_lt_zero i), by simp [total], by simp⟩
  · simp [Value.cells] at hcs
    obtain ⟨rfl, rfl, rfl⟩ := hcs
    simp only [Prod.mk.injEq] at hx
    obtain ⟨rfl, _⟩ := hx
    have hm' : m = cap := by simpa using hm
    have hbA : Rows.uptoBulkAll ((List.range len).map D) ≤ 1048576 := by
      have h3 := bulk_slice_all ((List.range len).map D) ((List.range (m - len)).map fun j => D (len + j))
      omega
    have each : ∀ i, i < len → ∃ l : List Itm, (∃ A c, V i = .slice A l.length c ∧ RV W A (l.flatMap Itm.cells) ∧ l.length ≤ c) ∧ l.length ≤ Rows.uptoBulk (D i) ∧ W.cell? (a'.add i) = some (V i) := by
      intro i hil
      obtain ⟨hc, ht⟩ := hi i (by omega)
      obtain ⟨A, c, rs, hv, hr, hcap, hlen⟩ := items_of ht
      exact ⟨rs, ⟨A, c, hv, hr, hcap⟩, hlen, hc⟩
    obtain ⟨ls, hls, hall⟩ := list_choose len _ each
    subst hls
    refine ⟨some a', cap, V, ls, rfl, ?_, fun i hi => ?_, ?_, ?_⟩
    · intro k hk
      have hk' : k < ls.length := by simpa using hk
      exact ⟨a', rfl, by simpa using (hall k hk').2.2⟩
    · rw [nth_eq hi]
      exact (hall i hi).1
    · refine Nat.le_trans (bulk_total ls ((List.range ls.length).map D) (by simp) fun i h1 h2 => ?_) hbA
      simpa using (hall i h1).2.1
    · have h3 := bulk_slice ((List.range ls.length).map D) ((List.range (m - ls.length)).map fun j => D (ls.length + j))
      simp only [List.length_map, List.length_range] at h3
      omega
theorem open_bool {H : Type} {enc : TypeId × Value → H} {W : World} {v : Value} {d : DataW H} {p : List MemPlace} (h : DataW.Trod enc Try.prog W 0 (fun _ => true) true 4 v d p) (hs : ∃ b, v = .bool b) : ∃ b : Bool, v = .bool b := hs
end Go.Proofs.Ytdebokambldbbaa.LawP
