/- A digest under way: the state ahead of the block, the new one. -/
import Derived.Test.YtoemceehmiaigaaDoorShaBlock
import Derived.Test.YtoemceehmiaigaaDoorShaRef
namespace Go.Proofs.YtoemceehmiaigaaDoor.Sha
open Go.RowKit Go.Proofs.YtoemceehmiaigaaDoor.Mem Go.Proofs.YtoemceehmiaigaaDoor.Loan

theorem A43 : Arr Tryd.prog 43 (hashCells []) := Arr.mk' Tryd.underlying43 rfl (by kernel_rfl)

theorem hash_one (b : List UInt8) : ∀ v ∈ hashCells b, v.oneCell' = true := by
  intro v hv
  unfold hashCells at hv
  rcases List.mem_append.1 hv with h | h
  · exact cells_one _ v h
  · rcases List.mem_append.1 h with h | h
    · exact bytes_oneCell _ v h
    · simp at h; subst h; rfl

/-- the package's start words lie where the program keeps them -/
def GB (w : World) : Prop := w.rangeAt 0 0 start.cells ∧ 0 < w.heap.size
theorem GB.below {B : Nat} {w w' : World} (h : GB w) (hb : Below B w w') (hB : 0 < B) : GB w' :=
  ⟨fun j v hv => (hb.cell (show (⟨0, 0 + j, none⟩ : Addr).block < B from hB)).trans (h.1 j v hv), by have := hb.size; have := h.2; omega⟩
theorem GB.grow {w w' : World} (h : GB w) (hb : Below w.heap.size w w') : GB w' := h.below hb h.2

theorem wpList_loadR {P : Program} {ty : TypeId} {zs : List Value} (A : Arr P ty zs) {w : World} {ops : Array Oper} {rest : List Oper} {op : Oper} {a : Act} {Q : Exit → Act → World → Prop} (hgd : op.guard = none) (x : Operand) (ho : op.op = .load ty x)
    (g o : Nat) (hx : a.eval x = .pointer (some ⟨g, o, none⟩)) (vs : List Value) (hr : w.rangeAt g o vs) (hl : vs.length = zs.length)
    (h : wpList P ops Q rest (a.put op.dst (.agg vs.toArray)) w) : wpList P ops Q (op :: rest) a w := by
  obtain ⟨d, hu, hd⟩ := A.und
  exact wpList_load_mid hgd ty x ho g o hx vs d hr hu (by cases d <;> first | rfl | cases hd) (by rw [A.size, hl]) h

set_option maxHeartbeats 800000 in
set_option maxRecDepth 8000 in
theorem from_any (hc : List Value) (h73 : hc.length = 73) (h1 : ∀ v ∈ hc, v.oneCell' = true) (n : Int) (w : World) (hG : GB w) :
    Calls Tryd.prog 56 #[.agg hc.toArray, .int .i64 n] w fun e w' => e = .returned (.agg (if n < 64 then start.cells else hc.take 8).toArray) ∧ Below w.heap.size w w' := by
  generalize hH : w.heap.size = H
  have h40 : (hc.take 8).length = zero8.cells.length := by rw [List.length_take, h73]; rfl
  have hG' := Lib.hid hG
  have hH0 : 0 < H := hH ▸ hG.2
  clear hG
  go_enter Tryd.func56, Tryd.ntmps56
  by_cases hn : n < 64
  · go_wp2_with (first
      | ((with_reducible show wpList _ _ _ (⟨some 2, _, _, _, _, _⟩ :: _) _ _); go_must (refine wpList_boxB (op := ⟨some 2, _, _, _, _, _⟩) rfl _ rfl hc rfl H hH ?_); intro w1 hB1 hb1 hz1)
      | ((with_reducible show wpList _ _ _ (⟨some 4, _, _, _, _, _⟩ :: _) _ _); go_must (refine wpList_allocB (op := ⟨some 4, _, _, _, _, _⟩) A40 rfl rfl (H + 1) hz1 ?_); intro w2 hB2 hb2 hz2)
      | ((with_reducible show wpList _ _ _ (⟨some 7, _, _, _, _, _⟩ :: _) _ _); go_must (refine wpList_loadR (op := ⟨some 7, _, _, _, _, _⟩) A40 rfl _ rfl 0 0 rfl start.cells ((hG'.out.below hb1 hH0).below hb2 (by omega)).1 rfl ?_))
      | ((with_reducible show wpList _ _ _ (⟨none, .store 40 _ _, _, _, _, _⟩ :: _) _ _); go_must (refine wpList_storeB (op := ⟨none, _, _, _, _, _⟩) A40 rfl _ _ rfl (H + 1) 0 rfl start.cells rfl rfl _ _ hB2 (Nat.le_refl 8) (cells_one _) ?_); intro w3 hB3 hg3 hz3))
    rw [splice_all zero8.cells start.cells rfl] at hB3
    refine ret_cell A40 Tryd.results56 (H + 1) rfl _ start.cells hB3 rfl rfl ⟨rfl, ?_⟩
    exact (hb1.trans (hb2.mono (by omega))).grown hg3 (by omega) (fun j hj => by simp at hj; omega)
  · go_wp2_with (first
      | ((with_reducible show wpList _ _ _ (⟨some 2, _, _, _, _, _⟩ :: _) _ _); go_must (refine wpList_boxB (op := ⟨some 2, _, _, _, _, _⟩) rfl _ rfl hc rfl H hH ?_); intro w1 hB1 hb1 hz1)
      | ((with_reducible show wpList _ _ _ (⟨some 4, _, _, _, _, _⟩ :: _) _ _); go_must (refine wpList_allocB (op := ⟨some 4, _, _, _, _, _⟩) A40 rfl rfl (H + 1) hz1 ?_); intro w2 hB2 hb2 hz2)
      | ((with_reducible show wpList _ _ _ (⟨some 9, _, _, _, _, _⟩ :: _) _ _); go_must (refine wpList_loadB (op := ⟨some 9, _, _, _, _, _⟩) A40 rfl _ rfl H 0 rfl _ _ (hB1.below hb2 (by omega)) (hc.take 8) rfl h40 ?_))
      | ((with_reducible show wpList _ _ _ (⟨none, .store 40 _ _, _, _, _, _⟩ :: _) _ _); go_must (refine wpList_storeB (op := ⟨none, _, _, _, _, _⟩) A40 rfl _ _ rfl (H + 1) 0 rfl (hc.take 8) rfl h40 _ _ hB2 (Nat.le_of_eq ((Nat.zero_add _).trans h40)) (fun v hv => h1 v (List.mem_of_mem_take hv)) ?_); intro w3 hB3 hg3 hz3))
    rw [splice_all _ _ h40] at hB3
    refine ret_cell A40 Tryd.results56 (H + 1) rfl _ (hc.take 8) hB3 h40 rfl ⟨rfl, ?_⟩
    exact (hb1.trans (hb2.mono (by omega))).grown hg3 (by omega) (fun j hj => by simp at hj; omega)

set_option maxHeartbeats 400000 in
set_option maxRecDepth 8000 in
theorem new_any (w : World) :
    Calls Tryd.prog 25 #[] w fun e w' => e = .returned (.agg (hashCells []).toArray) ∧ Below w.heap.size w w' := by
  have hz43 : Tryd.zeroCells43 = (hashCells []).toArray := by kernel_rfl
  have hl := hashCells_length []
  have h1 := hash_one []
  obtain ⟨hc, hhc⟩ : ∃ hc, hc = hashCells [] := ⟨_, rfl⟩
  rw [← hhc] at hz43 hl h1
  have HC := Lib.hid hhc
  have hl2 : hc.length = (hashCells []).length := by rw [HC.out]
  clear hhc
  go_enter Tryd.func25, Tryd.ntmps25
  go_wp2_with (first
    | ((with_reducible show wpList _ _ _ (⟨some 0, _, _, _, _, _⟩ :: _) _ _); go_must (refine wpList_allocB (op := ⟨some 0, _, _, _, _, _⟩) A43 rfl rfl w.heap.size rfl ?_); intro w1 hB1 hb1 hz1)
    | ((with_reducible show wpList _ _ _ (⟨none, .store 43 _ _, _, _, _, _⟩ :: _) _ _); go_must (refine wpList_storeB (op := ⟨none, _, _, _, _, _⟩) A43 rfl _ _ rfl w.heap.size 0 rfl hc rfl hl2 _ _ hB1 (Nat.le_of_eq ((Nat.zero_add _).trans hl2)) h1 ?_); intro w3 hB3 hg3 hz3))
  rw [splice_all _ _ hl2] at hB3
  exact ret_cell A43 Tryd.results25 w.heap.size rfl _ hc hB3 hl2 rfl ⟨by rw [HC.out], hb1.grown hg3 (by omega) (fun j hj => by simp at hj; omega)⟩
end Go.Proofs.YtoemceehmiaigaaDoor.Sha
