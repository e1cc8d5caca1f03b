/- Words: the helpers of the laws over texts. -/
import Derived.Test.YtdebokambldbbaaPlBstS
import Derived.Test.YtdebokambldbbaaPlMrgS
import Derived.Test.YtdebokambldbbaaWordsPure
import Derived.Test.YtdebokambldbbaaWdPlace
namespace Go.Proofs.Ytdebokambldbbaa.LawW
open Go.RowKit Go.Shelf Go.Proofs.Ytdebokambldbbaa.Mem Go.Proofs.Ytdebokambldbbaa.Heap Go.Proofs.Ytdebokambldbbaa.Pile Go.Proofs.Ytdebokambldbbaa.PileS
set_option linter.unusedVariables false
set_option linter.unusedSectionVars false
set_option linter.unusedSimpArgs false
set_option maxRecDepth 4000
set_option maxHeartbeats 3200000

abbrev Wd := List UInt8
def thS : Th Wd 1 := ⟨fun w => [strV w], fun _ => rfl, fun b u hu => by rw [List.mem_singleton.1 hu]; rfl⟩
theorem vlS (w : Wd) : vl thS w = strV w := rfl
theorem flS (l : List Wd) : l.flatMap thS.cells = l.map strV := by
  induction l with
  | nil => rfl
  | cons a r ih => rw [List.flatMap_cons, List.map_cons, ih]; rfl
def sh : Wd → Wd → Bool := ltN List.length
theorem shorter_any (a b : Wd) (W : World) : Calls Try.prog 38 #[strV a, strV b] W fun e W' => e = .returned (.bool (sh a b)) ∧ Below W.heap.size W W' := by
  unfold strV
  go_enter Try.func38, Try.ntmps38
  go_wp2
  go_ret
  exact ⟨rfl, gr W⟩
theorem fv_short (W : World) {D : Wd → Prop} : FvOk thS W (.func (.func 38) #[] #[]) sh D :=
  .inr ⟨⟨_, #[], rfl⟩, ⟨38, #[], rfl, enters_of Try.func38 (by kernel_rfl) rfl, fun W' a b _ _ _ => by have := shorter_any a b W'; simpa [vlS] using this⟩⟩
theorem word_at {W : World} {A : Option Addr} {l : List Wd} (h : RV W A (l.map strV)) {k : Nat} (hk : k < l.length) : ∃ ad, A = some ad ∧ W.cell? (ad.add k) = some (strV l[k]) := by
  obtain ⟨ad, hA, hc⟩ := h k (by rw [List.length_map]; exact hk)
  refine ⟨ad, hA, ?_⟩
  rw [hc, List.getElem_map]
theorem same_words (A A' : Option Addr) (n c c' : Nat) (l : List Wd) (W : World) (hr : RV W A (l.map strV)) (hr' : RV W A' (l.map strV)) (hn : n = l.length) (hl : l.length ≤ 1099511627776) :
    Calls Try.prog 39 #[.slice A n c, .slice A' n c'] W fun e W' => e = .returned (.bool true) ∧ Below W.heap.size W W' := by
  have hnb : n ≤ 1099511627776 := by omega
  have H0 := Lib.hid (And.intro hr (And.intro hr' hn))
  clear hr hr' hn hl
  go_enter Try.func39, Try.ntmps39
  go_wp2
  go_loopw [13] (fun v13 wr => ∃ k : Nat, k ≤ n ∧ v13 = .int .i64 k ∧ Below W.heap.size W wr) (fun v _ => n - (intOf v).toNat)
  case atStart => exact ⟨0, Nat.zero_le _, rfl, gr W⟩
  case round =>
    obtain ⟨k, hk, rfl, hb⟩ := hrel
    by_cases hlt : k < n
    · have hkl : k < l.length := by rw [← H0.out.2.2]; exact hlt
      obtain ⟨ad, rfl, c1⟩ := word_at (H0.out.1.below hb) hkl
      obtain ⟨ad', rfl, c2⟩ := word_at (H0.out.2.1.below hb) hkl
      obtain ⟨y, hy⟩ : ∃ y, y = l[k] := ⟨_, rfl⟩
      rw [← hy] at c1 c2
      have hki : (k : Int) < (n : Int) := by omega
      have hk0 : (0 : Int) ≤ (k : Int) := by omega
      have Q := Lib.hid (And.intro hlt hb)
      have c1' := fun (w : World) (h : Below wr.heap.size wr w) => cell_grow c1 h
      have c2' := fun (w : World) (h : Below wr.heap.size wr w) => cell_grow c2 h
      have CC := Lib.hid (And.intro c1' c2')
      clear hk hlt hkl hb hy c1 c2 c1' c2'
      go_wp2
      try simp only [Act.put, List.setIfInBounds_toArray, List.set_cons_succ, List.set_cons_zero]
      refine wp_region_qb (by kernel_rfl) (by kernel_rfl) ?_
      refine wq_val (o := ⟨some 16, _, _, _, _, _⟩) (v := .slice (some ad) n c) rfl (fun w' hC => by go_simp) ?_
      simp only [Act.put, List.setIfInBounds_toArray, List.set_cons_succ, List.set_cons_zero]
      refine wq_val (o := ⟨some 17, _, _, _, _, _⟩) (v := .int .i64 k) rfl (fun w' hC => by go_simp) ?_
      simp only [Act.put, List.setIfInBounds_toArray, List.set_cons_succ, List.set_cons_zero]
      refine wq_val (o := ⟨some 18, _, _, _, _, _⟩) (v := .pointer (some (ad.add k))) rfl (fun w' hC => by go_simp) ?_
      simp only [Act.put, List.setIfInBounds_toArray, List.set_cons_succ, List.set_cons_zero]
      refine wq_val (o := ⟨some 19, _, _, _, _, _⟩) (v := strV y) rfl (fun w' hC => by have c1 := CC.out.1 w' hC; go_simp) ?_
      simp only [Act.put, List.setIfInBounds_toArray, List.set_cons_succ, List.set_cons_zero]
      refine wq_val (o := ⟨some 20, _, _, _, _, _⟩) (v := (.slice (some ad') n c')) rfl (fun w' hC => by go_simp) ?_
      simp only [Act.put, List.setIfInBounds_toArray, List.set_cons_succ, List.set_cons_zero]
      refine wq_val (o := ⟨some 21, _, _, _, _, _⟩) (v := .int .i64 k) rfl (fun w' hC => by go_simp) ?_
      simp only [Act.put, List.setIfInBounds_toArray, List.set_cons_succ, List.set_cons_zero]
      refine wq_val (o := ⟨some 22, _, _, _, _, _⟩) (v := (.pointer (some (ad'.add k)))) rfl (fun w' hC => by go_simp) ?_
      simp only [Act.put, List.setIfInBounds_toArray, List.set_cons_succ, List.set_cons_zero]
      refine wq_val (o := ⟨some 23, _, _, _, _, _⟩) (v := strV y) rfl (fun w' hC => by have c1 := CC.out.2 w' hC; go_simp) ?_
      simp only [Act.put, List.setIfInBounds_toArray, List.set_cons_succ, List.set_cons_zero]
      refine wq_val (o := ⟨some 24, _, _, _, _, _⟩) (v := .bool false) rfl (fun w' hC => by unfold strV; go_simp) ?_
      simp only [Act.put, List.setIfInBounds_toArray, List.set_cons_succ, List.set_cons_zero]
      refine wpQuiet_nil ?_
      intro w5 hC5
      go_wp2
      go_roundw
      case rel => exact ⟨k + 1, Q.out.1, by go_num, gt Q.out.2 hC5⟩
      case measure => exact meas_in Q.out.1
    · have X := Lib.hid hb
      obtain rfl : n = k := by omega
      clear hb hk hlt
      go_wp2
      go_ret
      exact ⟨rfl, X.out⟩
theorem of_length (A : Option Addr) (n c m : Nat) (l : List Wd) (W : World) (hr : RV W A (l.map strV)) (hn : n = l.length) (hl : l.length ≤ 1073741824) :
    Calls Try.prog 40 #[.slice A n c, .int .i64 m] W fun e W' => ∃ v, e = .returned v ∧ W'.ownsRow W.heap.size 9 1 v (l.filter fun x => x.length == m).length ((l.filter fun x => x.length == m).map strV) ∧ Below W.heap.size W W' := by
  have hnb : n ≤ 1073741824 := by omega
  have H0 := Lib.hid (And.intro hr hn)
  clear hr hn hl
  go_enter Try.func40, Try.ntmps40
  go_wp2
  go_loopw [10, 5] (fun v10 v5 wr => ∃ k : Nat, k ≤ n ∧ v10 = .int .i64 k ∧ wr.ownsRow W.heap.size 9 1 v5 ((l.take k).filter fun x => x.length == m).length (((l.take k).filter fun x => x.length == m).map strV) ∧ Below W.heap.size W wr) (fun v _ _ => n - (intOf v).toNat)
  case atStart => exact ⟨0, Nat.zero_le _, rfl, World.ownsRow_nil _ _ _ _, gr W⟩
  case round =>
    obtain ⟨k, hk, rfl, ho, hb⟩ := hrel
    by_cases hlt : k < n
    · have hkl : k < l.length := by rw [← H0.out.2]; exact hlt
      obtain ⟨ad, rfl, c1⟩ := word_at (H0.out.1.below hb) hkl
      obtain ⟨y, hy⟩ : ∃ y, y = l[k] := ⟨_, rfl⟩
      have hst : (l.take (k + 1)).filter (fun x => x.length == m) = (l.take k).filter (fun x => x.length == m) ++ if y.length == m then [y] else [] := by
        rw [take_succ_ hkl, List.filter_append, ← hy, List.filter_cons, List.filter_nil]
      rw [← hy] at c1
      obtain ⟨o, hol⟩ : ∃ o, o = (l.take k).filter (fun x => x.length == m) := ⟨_, rfl⟩
      have hole : o.length ≤ k := by rw [hol]; exact Nat.le_trans (List.length_filter_le _ _) (by rw [List.length_take]; omega)
      rw [← hol] at ho hst
      have hki : (k : Int) < (n : Int) := by omega
      have hk0 : (0 : Int) ≤ (k : Int) := by omega
      obtain ⟨Au, nu, cu, rfl, hnu⟩ := own_form ho
      subst hnu
      have Q := Lib.hid (And.intro hlt (And.intro hb (And.intro ho (And.intro hst (show o.length + 1 ≤ 1073741825 by omega)))))
      have hH : W.heap.size ≤ wr.heap.size := hb.size
      have HH := Lib.hid hH
      clear hk hlt hkl hb hy ho hst hol hole hH
      unfold strV at c1
      by_cases hm : y.length = m
      · have hm1 : ((y.length : Int) == (m : Int)) = true := by rw [beq_iff_eq]; omega
        have hm2 : (y.length == m) = true := by rw [beq_iff_eq]; exact hm
        have HM := Lib.hid hm2
        have hm3 : decide (y.length = m) = true := by rw [decide_eq_true_iff]; exact hm
        clear hm
        go_wp2_with (first
          | ((with_reducible show wpList _ _ _ (⟨some 20, _, _, _, _, _⟩ :: _) _ _)
             go_must (refine wpList_build1 ET (o := ⟨some 20, _, _, _, _, _⟩) rfl (.tmp 19) rfl (by decide) [strV y] rfl rfl _ rfl ?_)
             intro w7 hB7 hb7 hz7)
          | ((with_reducible show wpList _ _ _ (⟨some 21, _, _, _, _, _⟩ :: _) _ _)
             go_must (refine wpList_app ET (o := ⟨some 21, _, _, _, _, _⟩) rfl (.tmp 18) (.tmp 20) rfl W.heap.size (.slice Au o.length cu) o.length (o.map strV) rfl (own_below' Q.out.2.2.1 hb7) _ 1 1 [strV y] rfl (own_rv (own_made (B := 0) (size := 1) (n := 1) hB7 (Nat.zero_le _) rfl (by decide))) rfl (fun u hu => thS.one y u hu) (by have h1 := Q.out.2.2.2.2; unfold maxLen; omega) (by have h1 := Q.out.2.2.2.2; omega) (Nat.le_trans HH.out hb7.size) ?_)
             intro va w8 hov hg hv'))
        have hb9 : Below W.heap.size W w8 := (gt Q.out.2.1 hb7).grown hg (gt Q.out.2.1 hb7).size (fun r hr => (Q.out.2.2.1.lt r hr).1)
        have X8 := Lib.hid (And.intro hov hb9)
        clear hov hb9 hg hv' hB7 hb7 hz7
        go_roundw
        case rel => exact ⟨k + 1, Q.out.1, by go_num, by rw [Q.out.2.2.2.1, if_pos HM.out, List.length_append, List.map_append]; exact X8.out.1, X8.out.2⟩
        case measure => exact meas_in Q.out.1
      · have hm1 : ((y.length : Int) == (m : Int)) = false := by rw [beq_eq_false_iff_ne]; omega
        have hm2 : (y.length == m) = false := by rw [beq_eq_false_iff_ne]; exact hm
        have HM := Lib.hid hm2
        go_wp2
        go_roundw
        case rel => exact ⟨k + 1, Q.out.1, by go_num, by rw [Q.out.2.2.2.1, HM.out]; simpa using Q.out.2.2.1, Q.out.2.1⟩
        case measure => exact meas_in Q.out.1
    · obtain rfl : n = k := by omega
      have X := Lib.hid (And.intro ho hb)
      have hl : l.take n = l := by rw [H0.out.2, List.take_length]
      rw [hl] at X
      clear ho hb hk hlt hl
      go_wp2
      go_ret
      exact ⟨_, rfl, X.out.1, X.out.2⟩
end Go.Proofs.Ytdebokambldbbaa.LawW
