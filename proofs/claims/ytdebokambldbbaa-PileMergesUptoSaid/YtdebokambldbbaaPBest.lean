/- weirref07.Best: what it answers. -/
import Derived.Test.YtdebokambldbbaaPSort

/- weirlaw07.same: true where both lists hold the same things. -/
namespace Go.Proofs.Ytdebokambldbbaa.LawP
open Go.RowKit Go.Shelf Go.Proofs.Ytdebokambldbbaa.Mem Go.Proofs.Ytdebokambldbbaa.Heap Go.Proofs.Ytdebokambldbbaa.Pile Go.Proofs.Ytdebokambldbbaa.PileI
set_option linter.unusedVariables false
set_option linter.unusedSectionVars false
set_option linter.unusedSimpArgs false
set_option maxRecDepth 4000
set_option maxHeartbeats 3200000

theorem same_items (A A' : Option Addr) (n c c' : Nat) (l : List Itm) (W : World) (hr : RV W A (l.flatMap Itm.cells)) (hr' : RV W A' (l.flatMap Itm.cells)) (hn : n = l.length) (hl : l.length ≤ 1099511627776) :
    Calls Try.prog 32 #[.slice A n c, .slice A' n c'] W fun e W' => e = .returned (.bool true) ∧ Below W.heap.size W W' := by
  have hnb : n ≤ 1099511627776 := by omega
  have H0 := Lib.hid (And.intro hr (And.intro hr' hn))
  clear hr hr' hn hl
  go_enter Try.func32, Try.ntmps32
  go_wp2
  go_loopw [13] (fun v13 wr => ∃ k : Nat, k ≤ n ∧ v13 = .int .i64 k ∧ Below W.heap.size W wr) (fun v _ => n - (intOf v).toNat)
  case atStart => exact ⟨0, Nat.zero_le _, rfl, gr W⟩
  case round =>
    obtain ⟨k, hk, rfl, hb⟩ := hrel
    by_cases hlt : k < n
    · have hkl : k < l.length := by rw [← H0.out.2.2]; exact hlt
      obtain ⟨ad, rfl, c1, c2⟩ := item_gen (H0.out.1.below hb) hkl
      obtain ⟨ad', rfl, c3, c4⟩ := item_gen (H0.out.2.1.below hb) hkl
      obtain ⟨y, hy⟩ : ∃ y, y = l[k] := ⟨_, rfl⟩
      rw [← hy] at c1 c2 c3 c4
      obtain ⟨y1, y2⟩ := y
      simp only at c1 c2 c3 c4
      have hki : (k : Int) < (n : Int) := by omega
      have hk0 : (0 : Int) ≤ (k : Int) := by omega
      have Q := Lib.hid (And.intro hlt hb)
      have f1 := fun (w : World) (h : Below wr.heap.size wr w) => cell_grow c1 h
      have f2 := fun (w : World) (h : Below wr.heap.size wr w) => cell_grow c2 h
      have f3 := fun (w : World) (h : Below wr.heap.size wr w) => cell_grow c3 h
      have f4 := fun (w : World) (h : Below wr.heap.size wr w) => cell_grow c4 h
      have CC := Lib.hid (And.intro f1 (And.intro f2 (And.intro f3 f4)))
      clear hk hlt hkl hb hy c1 c2 c3 c4 f1 f2 f3 f4
      go_wp2
      try simp only [Act.put, List.setIfInBounds_toArray, List.set_cons_succ, List.set_cons_zero]
      refine wp_region_qb (by kernel_rfl) (by kernel_rfl) ?_
      refine wq_val (o := ⟨some 16, _, _, _, _, _⟩) (v := .slice (some ad) n c) rfl (fun w' hC => by go_simp) ?_
      simp only [Act.put, List.setIfInBounds_toArray, List.set_cons_succ, List.set_cons_zero]
      refine wq_val (o := ⟨some 17, _, _, _, _, _⟩) (v := .int .i64 k) rfl (fun w' hC => by go_simp) ?_
      simp only [Act.put, List.setIfInBounds_toArray, List.set_cons_succ, List.set_cons_zero]
      refine wq_val (o := ⟨some 18, _, _, _, _, _⟩) (v := .pointer (some (ad.add (k * 2)))) rfl (fun w' hC => by go_simp) ?_
      simp only [Act.put, List.setIfInBounds_toArray, List.set_cons_succ, List.set_cons_zero]
      refine wq_val (o := ⟨some 19, _, _, _, _, _⟩) (v := .agg #[.int .i64 y1, .int .i64 y2]) rfl (fun w' hC => by have d1 := CC.out.1 w' hC; have d2 := CC.out.2.1 w' hC; go_simp) ?_
      simp only [Act.put, List.setIfInBounds_toArray, List.set_cons_succ, List.set_cons_zero]
      refine wq_val (o := ⟨some 20, _, _, _, _, _⟩) (v := .slice (some ad') n c') rfl (fun w' hC => by go_simp) ?_
      simp only [Act.put, List.setIfInBounds_toArray, List.set_cons_succ, List.set_cons_zero]
      refine wq_val (o := ⟨some 21, _, _, _, _, _⟩) (v := .int .i64 k) rfl (fun w' hC => by go_simp) ?_
      simp only [Act.put, List.setIfInBounds_toArray, List.set_cons_succ, List.set_cons_zero]
      refine wq_val (o := ⟨some 22, _, _, _, _, _⟩) (v := .pointer (some (ad'.add (k * 2)))) rfl (fun w' hC => by go_simp) ?_
      simp only [Act.put, List.setIfInBounds_toArray, List.set_cons_succ, List.set_cons_zero]
      refine wq_val (o := ⟨some 23, _, _, _, _, _⟩) (v := .agg #[.int .i64 y1, .int .i64 y2]) rfl (fun w' hC => by have d1 := CC.out.2.2.1 w' hC; have d2 := CC.out.2.2.2 w' hC; go_simp) ?_
      simp only [Act.put, List.setIfInBounds_toArray, List.set_cons_succ, List.set_cons_zero]
      refine wq_val (o := ⟨some 24, _, _, _, _, _⟩) (v := .bool false) rfl (fun w' hC => by go_simp) ?_
      simp only [Act.put, List.setIfInBounds_toArray, List.set_cons_succ, List.set_cons_zero]
      refine wpQuiet_nil ?_
      intro w5 hC5
      go_wp2
      go_roundw
      case rel => exact ⟨k + 1, Q.out.1, by go_num, gt Q.out.2 hC5⟩
      case measure => exact meas_in Q.out.1
    · have X := Lib.hid hb
      obtain rfl : n = k := by omega
      clear hb hk hlt
      go_wp2
      go_ret
      exact ⟨rfl, X.out⟩
end Go.Proofs.Ytdebokambldbbaa.LawP
namespace Go.Proofs.Ytdebokambldbbaa.LawP
open Go.RowKit Go.Shelf Go.Proofs.Ytdebokambldbbaa.Mem Go.Proofs.Ytdebokambldbbaa.Heap Go.Proofs.Ytdebokambldbbaa.Pile Go.Proofs.Ytdebokambldbbaa.PileI
set_option linter.unusedVariables false
set_option linter.unusedSectionVars false
set_option linter.unusedSimpArgs false
set_option maxRecDepth 4000
set_option maxHeartbeats 3200000

theorem cut_items {ρ : Operand → Value} {w : World} {o : Oper} {x y : Operand} {A : Option Addr} {n c m : Nat} {mi : Int} (ho : o.op = .slice 32 x none (some y) none) (hx : ρ x = .slice A n c) (hy : ρ y = .int .i64 mi) (he : mi = m) (hm : m ≤ c) :
    (execOp ρ o).run Try.prog w = .ok (.value (.slice A m c)) w := by
  subst he
  have h := run_slice_h (P := Try.prog) (w := w) 32 A n c (by rfl) .i64 (m : Int) (by omega) (by omega)
  have hs : (sizeOf (Try.prog.elem 32)).run Try.prog w = .ok 2 w := by rfl
  rw [hs] at h
  have e : sliced A 0 (m : Int).toNat c 2 = .slice A m c := by
    unfold sliced
    cases A <;> simp [Addr.add]
  simp only [Result.andThen, e] at h
  simp [execOp, ho, hx, hy, run_sliceAt_slice, h, Result.andThen, (show Try.prog.underlying 32 = some (.slice (Try.prog.elem 32)) from rfl)]
theorem rv_items_to {W : World} {A : Option Addr} {l : List Itm} (h : RV W A (l.flatMap Itm.cells)) (m : Nat) : RV W A ((l.take m).flatMap Itm.cells) := by
  rw [flat_take]; exact h.take _
theorem wpList_is {P : Program} {w : World} {ops : Array Oper} {rest : List Oper} {o : Oper} {a : Act} {Q : Exit → Act → World → Prop} (hgd : o.guard = none) {v : Value} (hr : (execOp a.eval o).run P w = .ok (.value v) w)
    (h : wpList P ops Q rest (a.put o.dst v) w) : wpList P ops Q (o :: rest) a w := by
  refine wpList_plain hgd fun K hK => ?_
  unfold Oper.wp
  rw [hr]
  exact hK _ _ h
theorem refbest_any (flat : Bool) (A0 : Option Addr) (n c : Nat) (k : Int) (l : List Itm) (W : World) (hr : RV W A0 (l.flatMap Itm.cells)) (hn : n = l.length) (hc : n ≤ c) (hl : l.length ≤ 1073741824) :
    Calls Try.prog 36 #[.slice A0 n c, .int .i64 k, .bool flat] W fun e W' => ∃ A1 c1, e = .returned (.slice A1 (min k.toNat n) c1) ∧ RV W' A1 (((msort (ltF flat) l).take (min k.toNat n)).flatMap Itm.cells) ∧ Below W.heap.size W W' := by
  have hnb : n ≤ 1073741824 := by omega
  have cS : ∀ w, Below W.heap.size W w → Calls Try.prog 29 #[.slice A0 n c, .bool flat] w fun e W' => ∃ v, e = .returned v ∧ W'.ownsRow w.heap.size 35 2 v n ((msort (ltF flat) l).flatMap Itm.cells) ∧ Below w.heap.size w W' := fun w h => by
    have := refsort_any flat n A0 n c l w (Nat.le_refl _) (hr.below h) hn hc hl
    rw [← hn] at this
    exact this
  have hL : (msort (ltF flat) l).length = n := by rw [msort_len, hn]
  have H0 := Lib.hid (And.intro cS hL)
  clear cS hL hr hn hc hl
  obtain ⟨S, hS⟩ : ∃ S, S = msort (ltF flat) l := ⟨_, rfl⟩
  rw [← hS] at H0 ⊢
  clear hS
  obtain ⟨m, hm⟩ : ∃ m, m = min k.toNat n := ⟨_, rfl⟩
  rw [← hm]
  by_cases k1 : k < 0
  · have b1 : decide (k < 0) = true := by rw [decide_eq_true_eq]; exact k1
    by_cases k2 : 0 < n
    · have b2 : decide ((0 : Int) < (n : Int)) = true := by rw [decide_eq_true_eq]; omega
      have HE : Hid ((0 : Int) = (m : Int)) := Lib.hid (by omega)
      have HM : Hid (m ≤ n) := Lib.hid (by omega)
      clear hm
      go_enter Try.func36, Try.ntmps36
      go_wp2_with (first
        | (go_at_call 29
           go_must (refine (H0.out.1 W (gr W)).mono ?_)
           rintro e w1 ⟨v1, rfl, ho1, hb1⟩
           obtain ⟨A1, c1, rfl, hc1⟩ := own_slice ho1
           have X1 := Lib.hid (And.intro ho1 hb1)
           have HC := Lib.hid hc1
           clear ho1 hb1 hc1)
        | ((with_reducible show wpList _ _ _ (⟨some 19, _, _, _, _, _⟩ :: _) _ _)
           go_must (refine wpList_is (o := ⟨some 19, _, _, _, _, _⟩) rfl (cut_items (x := .tmp 17) (y := .tmp 18) rfl rfl rfl HE.out (Nat.le_trans HM.out HC.out)) ?_)))
      go_ret
      refine ⟨_, _, rfl, rv_items_to (own_rv X1.out.1) m, X1.out.2⟩
    · have b2 : decide ((0 : Int) < (n : Int)) = false := by rw [decide_eq_false_iff_not]; omega
      have HE : Hid (m = n) := Lib.hid (by omega)
      clear hm
      go_enter Try.func36, Try.ntmps36
      go_wp2_with (first
        | (go_at_call 29
           go_must (refine (H0.out.1 W (gr W)).mono ?_)
           rintro e w1 ⟨v1, rfl, ho1, hb1⟩
           obtain ⟨A1, c1, rfl, hc1⟩ := own_slice ho1
           have X1 := Lib.hid (And.intro ho1 hb1)
           have HC := Lib.hid hc1
           clear ho1 hb1 hc1))
      go_ret
      refine ⟨A1, c1, by rw [HE.out]; rfl, ?_, X1.out.2⟩
      rw [HE.out, ← H0.out.2, List.take_length]
      exact own_rv X1.out.1
  · have b1 : decide (k < 0) = false := by rw [decide_eq_false_iff_not]; exact k1
    by_cases k2 : k < (n : Int)
    · have b2 : decide (k < (n : Int)) = true := by rw [decide_eq_true_eq]; exact k2
      have HE : Hid (k = (m : Int)) := Lib.hid (by omega)
      have HM : Hid (m ≤ n) := Lib.hid (by omega)
      clear hm
      go_enter Try.func36, Try.ntmps36
      go_wp2_with (first
        | (go_at_call 29
           go_must (refine (H0.out.1 W (gr W)).mono ?_)
           rintro e w1 ⟨v1, rfl, ho1, hb1⟩
           obtain ⟨A1, c1, rfl, hc1⟩ := own_slice ho1
           have X1 := Lib.hid (And.intro ho1 hb1)
           have HC := Lib.hid hc1
           clear ho1 hb1 hc1)
        | ((with_reducible show wpList _ _ _ (⟨some 19, _, _, _, _, _⟩ :: _) _ _)
           go_must (refine wpList_is (o := ⟨some 19, _, _, _, _, _⟩) rfl (cut_items (x := .tmp 17) (y := .tmp 18) rfl rfl rfl HE.out (Nat.le_trans HM.out HC.out)) ?_)))
      go_ret
      refine ⟨_, _, rfl, rv_items_to (own_rv X1.out.1) m, X1.out.2⟩
    · have b2 : decide (k < (n : Int)) = false := by rw [decide_eq_false_iff_not]; exact k2
      have HE : Hid (m = n) := Lib.hid (by omega)
      clear hm
      go_enter Try.func36, Try.ntmps36
      go_wp2_with (first
        | (go_at_call 29
           go_must (refine (H0.out.1 W (gr W)).mono ?_)
           rintro e w1 ⟨v1, rfl, ho1, hb1⟩
           obtain ⟨A1, c1, rfl, hc1⟩ := own_slice ho1
           have X1 := Lib.hid (And.intro ho1 hb1)
           have HC := Lib.hid hc1
           clear ho1 hb1 hc1))
      go_ret
      refine ⟨A1, c1, by rw [HE.out]; rfl, ?_, X1.out.2⟩
      rw [HE.out, ← H0.out.2, List.take_length]
      exact own_rv X1.out.1
end Go.Proofs.Ytdebokambldbbaa.LawP
