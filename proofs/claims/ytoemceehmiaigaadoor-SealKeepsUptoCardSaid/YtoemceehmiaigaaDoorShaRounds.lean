/- SHA-256's tables, the program's and the reference's. -/
import Derived.Test.YtoemceehmiaigaaDoorShaSpec
import Derived.Test.YtoemceehmiaigaaDoorShaTurned
namespace Go.Proofs.YtoemceehmiaigaaDoor.Sha
open Go.RowKit Go.Proofs.YtoemceehmiaigaaDoor.Mem

theorem A40 : Arr Tryd.prog 40 zero8.cells := Arr.mk' (d := .array 8 25) (by kernel_rfl) rfl (by kernel_rfl)
theorem A41 : Arr Tryd.prog 41 (List.replicate 64 (bv 0)) := Arr.mk' (d := .array 64 5) (by kernel_rfl) rfl (by kernel_rfl)
theorem A92 : Arr Tryd.prog 92 (col (fun _ => 0) 64) := Arr.mk' (d := .array 64 25) (by kernel_rfl) rfl (by kernel_rfl)

set_option maxHeartbeats 400000 in
set_option maxRecDepth 8000 in
theorem rounds_any (w : World) :
    Calls Tryd.prog 48 #[] w fun e w' => e = .returned (.agg (col K 64).toArray) ∧ Below w.heap.size w w' := by
  go_enter Tryd.func48, Tryd.ntmps48
  go_wp2_with (first
    | (refine wpList_allocB (op := ⟨some 0, _, _, _, _, _⟩) A92 rfl rfl w.heap.size rfl ?_; intro w1 hB1 hb1 hz1)
    | (refine wpList_storeB (op := ⟨none, _, _, _, _, _⟩) A92 rfl _ _ rfl w.heap.size 0 rfl (col K 64) (by rfl) (by rw [col_length, col_length]) _ _ hB1 (by rw [col_length, col_length]; omega) (col_one _ _) ?_; intro w2 hB2 hg2 hz2))
  rw [splice_all _ _ (by rw [col_length, col_length])] at hB2
  exact ret_cell A92 Tryd.results48 w.heap.size rfl _ _ hB2 (by rw [col_length, col_length]) rfl ⟨rfl, hb1.grown hg2 (by omega) (fun k hk => by simp at hk; omega)⟩

set_option maxHeartbeats 400000 in
set_option maxRecDepth 8000 in
theorem rrounds_any (w : World) :
    Calls Tryd.prog 70 #[] w fun e w' => e = .returned (.agg (col K 64).toArray) ∧ Below w.heap.size w w' := by
  go_enter Tryd.func70, Tryd.ntmps70
  go_wp2_with (first
    | (refine wpList_allocB (op := ⟨some 0, _, _, _, _, _⟩) A92 rfl rfl w.heap.size rfl ?_; intro w1 hB1 hb1 hz1)
    | (refine wpList_storeB (op := ⟨none, _, _, _, _, _⟩) A92 rfl _ _ rfl w.heap.size 0 rfl (col K 64) (by rfl) (by rw [col_length, col_length]) _ _ hB1 (by rw [col_length, col_length]; omega) (col_one _ _) ?_; intro w2 hB2 hg2 hz2))
  rw [splice_all _ _ (by rw [col_length, col_length])] at hB2
  exact ret_cell A92 Tryd.results70 w.heap.size rfl _ _ hB2 (by rw [col_length, col_length]) rfl ⟨rfl, hb1.grown hg2 (by omega) (fun k hk => by simp at hk; omega)⟩

set_option maxHeartbeats 400000 in
set_option maxRecDepth 8000 in
theorem rstarts_any (w : World) :
    Calls Tryd.prog 52 #[] w fun e w' => e = .returned (.agg start.cells.toArray) ∧ Below w.heap.size w w' := by
  go_enter Tryd.func52, Tryd.ntmps52
  go_wp2_with (first
    | (refine wpList_allocB (op := ⟨some 0, _, _, _, _, _⟩) A40 rfl rfl w.heap.size rfl ?_; intro w1 hB1 hb1 hz1)
    | (refine wpList_storeB (op := ⟨none, _, _, _, _, _⟩) A40 rfl _ _ rfl w.heap.size 0 rfl start.cells (by rfl) rfl _ _ hB1 (by show 0 + 8 ≤ 8; omega) (cells_one _) ?_; intro w2 hB2 hg2 hz2))
  rw [splice_all zero8.cells start.cells rfl] at hB2
  exact ret_cell A40 Tryd.results52 w.heap.size rfl _ _ hB2 rfl rfl ⟨rfl, hb1.grown hg2 (by omega) (fun k hk => by simp at hk; omega)⟩
end Go.Proofs.YtoemceehmiaigaaDoor.Sha
