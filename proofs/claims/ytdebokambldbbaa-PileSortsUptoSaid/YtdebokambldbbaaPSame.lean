/- weirlaw07.same: true where both lists hold the same things. -/
import Derived.Test.YtdebokambldbbaaPSort
namespace Go.Proofs.Ytdebokambldbbaa.LawP
open Go.RowKit Go.Shelf Go.Proofs.Ytdebokambldbbaa.Mem Go.Proofs.Ytdebokambldbbaa.Heap Go.Proofs.Ytdebokambldbbaa.Pile Go.Proofs.Ytdebokambldbbaa.PileI
set_option linter.unusedVariables false
set_option linter.unusedSectionVars false
set_option linter.unusedSimpArgs false
set_option maxRecDepth 4000
set_option maxHeartbeats 3200000

theorem same_items (A A' : Option Addr) (n c c' : Nat) (l : List Itm) (W : World) (hr : RV W A (l.flatMap Itm.cells)) (hr' : RV W A' (l.flatMap Itm.cells)) (hn : n = l.length) (hl : l.length ≤ 1099511627776) :
    Calls Try.prog 32 #[.slice A n c, .slice A' n c'] W fun e W' => e = .returned (.bool true) ∧ Below W.heap.size W W' := by
  have hnb : n ≤ 1099511627776 := by omega
  have H0 := Lib.hid (And.intro hr (And.intro hr' hn))
  clear hr hr' hn hl
  go_enter Try.func32, Try.ntmps32
  go_wp2
  go_loopw [13] (fun v13 wr => ∃ k : Nat, k ≤ n ∧ v13 = .int .i64 k ∧ Below W.heap.size W wr) (fun v _ => n - (intOf v).toNat)
  case atStart => exact ⟨0, Nat.zero_le _, rfl, gr W⟩
  case round =>
    obtain ⟨k, hk, rfl, hb⟩ := hrel
    by_cases hlt : k < n
    · have hkl : k < l.length := by rw [← H0.out.2.2]; exact hlt
      obtain ⟨ad, rfl, c1, c2⟩ := item_gen (H0.out.1.below hb) hkl
      obtain ⟨ad', rfl, c3, c4⟩ := item_gen (H0.out.2.1.below hb) hkl
      obtain ⟨y, hy⟩ : ∃ y, y = l[k] := ⟨_, rfl⟩
      rw [← hy] at c1 c2 c3 c4
      obtain ⟨y1, y2⟩ := y
      simp only at c1 c2 c3 c4
      have hki : (k : Int) < (n : Int) := by omega
      have hk0 : (0 : Int) ≤ (k : Int) := by omega
      have Q := Lib.hid (And.intro hlt hb)
      have f1 := fun (w : World) (h : Below wr.heap.size wr w) => cell_grow c1 h
      have f2 := fun (w : World) (h : Below wr.heap.size wr w) => cell_grow c2 h
      have f3 := fun (w : World) (h : Below wr.heap.size wr w) => cell_grow c3 h
      have f4 := fun (w : World) (h : Below wr.heap.size wr w) => cell_grow c4 h
      have CC := Lib.hid (And.intro f1 (And.intro f2 (And.intro f3 f4)))
      clear hk hlt hkl hb hy c1 c2 c3 c4 f1 f2 f3 f4
      go_wp2
      try simp only [Act.put, List.setIfInBounds_toArray, List.set_cons_succ, List.set_cons_zero]
      refine wp_region_qb (by kernel_rfl) (by kernel_rfl) ?_
      refine wq_val (o := ⟨some 16, _, _, _, _, _⟩) (v := .slice (some ad) n c) rfl (fun w' hC => by go_simp) ?_
      simp only [Act.put, List.setIfInBounds_toArray, List.set_cons_succ, List.set_cons_zero]
      refine wq_val (o := ⟨some 17, _, _, _, _, _⟩) (v := .int .i64 k) rfl (fun w' hC => by go_simp) ?_
      simp only [Act.put, List.setIfInBounds_toArray, List.set_cons_succ, List.set_cons_zero]
      refine wq_val (o := ⟨some 18, _, _, _, _, _⟩) (v := .pointer (some (ad.add (k * 2)))) rfl (fun w' hC => by go_simp) ?_
      simp only [Act.put, List.setIfInBounds_toArray, List.set_cons_succ, List.set_cons_zero]
      refine wq_val (o := ⟨some 19, _, _, _, _, _⟩) (v := .agg #[.int .i64 y1, .int .i64 y2]) rfl (fun w' hC => by have d1 := CC.out.1 w' hC; have d2 := CC.out.2.1 w' hC; go_simp) ?_
      simp only [Act.put, List.setIfInBounds_toArray, List.set_cons_succ, List.set_cons_zero]
      refine wq_val (o := ⟨some 20, _, _, _, _, _⟩) (v := .slice (some ad') n c') rfl (fun w' hC => by go_simp) ?_
      simp only [Act.put, List.setIfInBounds_toArray, List.set_cons_succ, List.set_cons_zero]
      refine wq_val (o := ⟨some 21, _, _, _, _, _⟩) (v := .int .i64 k) rfl (fun w' hC => by go_simp) ?_
      simp only [Act.put, List.setIfInBounds_toArray, List.set_cons_succ, List.set_cons_zero]
      refine wq_val (o := ⟨some 22, _, _, _, _, _⟩) (v := .pointer (some (ad'.add (k * 2)))) rfl (fun w' hC => by go_simp) ?_
      simp only [Act.put, List.setIfInBounds_toArray, List.set_cons_succ, List.set_cons_zero]
      refine wq_val (o := ⟨some 23, _, _, _, _, _⟩) (v := .agg #[.int .i64 y1, .int .i64 y2]) rfl (fun w' hC => by have d1 := CC.out.2.2.1 w' hC; have d2 := CC.out.2.2.2 w' hC; go_simp) ?_
      simp only [Act.put, List.setIfInBounds_toArray, List.set_cons_succ, List.set_cons_zero]
      refine wq_val (o := ⟨some 24, _, _, _, _, _⟩) (v := .bool false) rfl (fun w' hC => by go_simp) ?_
      simp only [Act.put, List.setIfInBounds_toArray, List.set_cons_succ, List.set_cons_zero]
      refine wpQuiet_nil ?_
      intro w5 hC5
      go_wp2
      go_roundw
      case rel => exact ⟨k + 1, Q.out.1, by go_num, gt Q.out.2 hC5⟩
      case measure => exact meas_in Q.out.1
    · have X := Lib.hid hb
      obtain rfl : n = k := by omega
      clear hb hk hlt
      go_wp2
      go_ret
      exact ⟨rfl, X.out⟩
end Go.Proofs.Ytdebokambldbbaa.LawP
