/- weirlaw07.PileMerges: what the walk rests on. -/
import Derived.Test.YtdebokambldbbaaPSort
import Derived.Test.YtdebokambldbbaaPileMerge2
import Derived.Test.YtdebokambldbbaaPApB
import Derived.Test.YtdebokambldbbaaPSorts
import Derived.Test.YtdebokambldbbaaPlMrgI

/- weirref07.Merge: what it answers. -/
namespace Go.Proofs.Ytdebokambldbbaa.LawP
open Go.RowKit Go.Shelf Go.Proofs.Ytdebokambldbbaa.Mem Go.Proofs.Ytdebokambldbbaa.Heap Go.Proofs.Ytdebokambldbbaa.Pile Go.Proofs.Ytdebokambldbbaa.PileI
set_option linter.unusedVariables false
set_option linter.unusedSectionVars false
set_option linter.unusedSimpArgs false
set_option maxRecDepth 8000
set_option maxHeartbeats 12800000

theorem EI : Elt Try.prog 61 3 [.int .i64 0] 8 := Elt.mk1 Try.underlying61 (by kernel_rfl) rfl
def nums (l : List Nat) : List Value := l.map fun a : Nat => .int .i64 (a : Int)
def slen : Value → Nat
  | .slice _ n _ => n
  | _ => 0
/-- the lists, each a row that reads -/
def Lists (W : World) (lv : Nat → Value) (ls : List (List Itm)) (N : Nat) : Prop := ∀ i, i < N → ∃ A c, lv i = .slice A (nth ls i).length c ∧ RV W A ((nth ls i).flatMap Itm.cells)
theorem Lists.below {W W' : World} {lv : Nat → Value} {ls : List (List Itm)} {N : Nat} (h : Lists W lv ls N) (hb : Below W.heap.size W W') : Lists W' lv ls N := fun i hi => by
  obtain ⟨A, c, e, hr⟩ := h i hi
  exact ⟨A, c, e, hr.below hb⟩
theorem rv_nat {W : World} {A : Option Addr} {N : Nat} {lv : Nat → Value} (h : RV W A ((List.range N).map lv)) {k : Nat} (hk : k < N) : ∃ ad, A = some ad ∧ W.cell? (ad.add k) = some (lv k) := by
  obtain ⟨ad, e, hc⟩ := h k (by simpa using hk)
  exact ⟨ad, e, by simpa using hc⟩
/-- the walk's round: behind o things, the places at -/
structure RM (lt : Itm → Itm → Bool) (ls : List (List Itm)) (o : List Itm) (ats : List Nat) : Prop where
  len : ats.length = ls.length
  left : o.length + rem ls ats = total ls
  eq : o ++ mergeF lt ls (rem ls ats) ats = merged lt ls
theorem RM.start (lt : Itm → Itm → Bool) (ls : List (List Itm)) : RM lt ls [] (List.replicate ls.length 0) :=
  ⟨by simp, by rw [rem_zero]; simp, by rw [rem_zero]; rfl⟩
theorem RM.done {lt : Itm → Itm → Bool} {ls : List (List Itm)} {o : List Itm} {ats : List Nat} (h : RM lt ls o ats) (hb : bestMF lt ls ats ls.length = none) : o = merged lt ls := by
  have := h.eq
  cases hr : rem ls ats with
  | zero => rw [hr] at this; simpa [mergeF] using this
  | succ n => rw [hr, mergeF, hb] at this; simpa using this
theorem RM.step {lt : Itm → Itm → Bool} {ls : List (List Itm)} {o : List Itm} {ats : List Nat} {b : Nat} (h : RM lt ls o ats) (hb : bestMF lt ls ats ls.length = some b) (h1 : b < ls.length) (h2 : nth ats b < (nth ls b).length) :
    RM lt ls (o ++ [cellAt ls b (nth ats b)]) (ats.set b (nth ats b + 1)) := by
  have hr := rem_set ls ats b h1 (by rw [h.len]; exact h1) h2
  have he := h.eq
  have hl := h.left
  refine ⟨by rw [List.length_set]; exact h.len, by rw [List.length_append]; simp; omega, ?_⟩
  rw [← hr, mergeF, hb] at he
  rw [← he, List.append_assoc]
  rfl
theorem nums_at (l : List Nat) {k : Nat} (h : k < l.length) : (nums l)[k]? = some (.int .i64 ((nth l k : Nat) : Int)) := by
  unfold nums
  rw [List.getElem?_map, List.getElem?_eq_getElem h, nth_eq h]
  rfl
theorem nums_len (l : List Nat) : (nums l).length = l.length := by unfold nums; simp
theorem nums_set (l : List Nat) (k a : Nat) : nums (l.set k a) = (nums l).set k (.int .i64 (a : Int)) := by unfold nums; rw [List.map_set]
theorem bestM_skip {lt : Itm → Itm → Bool} {ls : List (List Itm)} {ats : List Nat} {k : Nat} (h : ¬ nth ats k < (nth ls k).length) : bestMF lt ls ats (k + 1) = bestMF lt ls ats k := by
  rw [bestMF]
  cases bestMF lt ls ats k with
  | none => simp [h]
  | some b => simp [h]
theorem bestM_first {lt : Itm → Itm → Bool} {ls : List (List Itm)} {ats : List Nat} {k : Nat} (h : nth ats k < (nth ls k).length) (h0 : bestMF lt ls ats k = none) : bestMF lt ls ats (k + 1) = some k := by
  rw [bestMF, h0]
  simp [h]
theorem bestM_more {lt : Itm → Itm → Bool} {ls : List (List Itm)} {ats : List Nat} {k b : Nat} (h : nth ats k < (nth ls k).length) (h0 : bestMF lt ls ats k = some b) : bestMF lt ls ats (k + 1) = if lt (cellAt ls k (nth ats k)) (cellAt ls b (nth ats b)) = true then some k else some b := by
  rw [bestMF, h0]
  simp [h]
theorem refmerge_any (flat : Bool) (W : World) (AL : Option Addr) (N cl : Nat) (lv : Nat → Value) (ls : List (List Itm)) (hN : N = ls.length) (hNb : N ≤ 1048576) (hr : RV W AL ((List.range N).map lv)) (hlv : Lists W lv ls N) (ht : total ls ≤ 1073741824) :
    Calls Try.prog 31 #[.slice AL N cl, .bool flat] W fun e W' => ∃ v, e = .returned v ∧ W'.ownsRow W.heap.size TI 2 v (merged (ltF flat) ls).length ((merged (ltF flat) ls).flatMap Itm.cells) ∧ Below W.heap.size W W' := by
  have H0 := Lib.hid (And.intro hr (And.intro hlv (And.intro hN ht)))
  clear hr hlv hN ht
  go_enter Try.func31, Try.ntmps31
  go_wp2
  go_loopw [6, 7] (fun v6 v7 wr => ∃ k : Nat, k ≤ N ∧ v7 = .int .i64 k ∧ wr.ownsRow W.heap.size 3 1 v6 k (nums (List.replicate k 0)) ∧ Below W.heap.size W wr) (fun _ v _ => N - (intOf v).toNat)
  case atStart => exact ⟨0, Nat.zero_le _, rfl, World.ownsRow_nil _ _ _ _, gr W⟩
  case round =>
    obtain ⟨k, hk, rfl, ho, hb⟩ := hrel
    by_cases hlt : k < N
    · have hki : (k : Int) < (N : Int) := by omega
      have hk0 : (0 : Int) ≤ (k : Int) := by omega
      have Q := Lib.hid (And.intro ho (And.intro hb hlt))
      clear ho hb hk hlt
      go_wp2_with (first
        | ((with_reducible show wpList _ _ _ (⟨some 17, _, _, _, _, _⟩ :: _) _ _)
           go_must (refine wpList_build1 EI (o := ⟨some 17, _, _, _, _, _⟩) rfl _ rfl (by decide) [.int .i64 0] rfl rfl _ rfl ?_)
           intro w4 hB4 hb4 hz4)
        | ((with_reducible show wpList _ _ _ (⟨some 18, _, _, _, _, _⟩ :: _) _ _)
           go_must (refine wpList_app EI (o := ⟨some 18, _, _, _, _, _⟩) rfl (.tmp 16) (.tmp 17) rfl W.heap.size u6 k _ rfl (own_below'' Q.out.1 hb4) _ 1 1 [.int .i64 0] rfl hB4.rv rfl (fun u hu => by simp at hu; subst hu; rfl) (by unfold maxLen; omega) (by omega) (Nat.le_trans Q.out.2.1.size hb4.size) ?_)
           intro v5 w5 ho5 hg5 hv5))
      have ho6 : w5.ownsRow W.heap.size 3 1 v5 (k + 1) (nums (List.replicate (k + 1) 0)) := by
        rw [List.replicate_succ', show nums (List.replicate k 0 ++ [0]) = nums (List.replicate k 0) ++ [.int .i64 0] by unfold nums; simp]
        exact ho5
      have X := Lib.hid (And.intro ho6 (And.intro (below_own (gt Q.out.2.1 hb4) (own_below'' Q.out.1 hb4) hg5 (Nat.le_trans Q.out.2.1.size hb4.size)) Q.out.2.2))
      clear Q hB4 hb4 hz4 ho5 hg5 hv5 ho6
      go_roundw
      case rel => exact ⟨k + 1, X.out.2.2, by go_num, X.out.1, X.out.2.1⟩
      case measure => exact meas_in X.out.2.2
    · obtain rfl : k = N := by omega
      have hki : ¬ (k : Int) < (k : Int) := by omega
      have S0 := Lib.hid (show RM (ltF flat) ls [] (List.replicate k 0) from by rw [H0.out.2.2.1]; exact RM.start _ _)
      have X := Lib.hid (And.intro ho hb)
      clear ho hb hk hlt
      go_wp2
      obtain ⟨A6, n6, cA, rfl, hn6⟩ := own_form X.out.1
      subst hn6
      go_loopw [5] (fun v5 wr => ∃ (o : List Itm) (ats : List Nat), wr.ownsRow W.heap.size TI 2 v5 o.length (o.flatMap Itm.cells) ∧ wr.ownsRow W.heap.size 3 1 (.slice A6 n6 cA) n6 (nums ats) ∧ Below W.heap.size W wr ∧ RM (ltF flat) ls o ats) (fun v5 _ => total ls + 1 - slen v5)
      case atStart => exact ⟨[], _, World.ownsRow_nil _ _ _ _, X.out.1, X.out.2, S0.out⟩
      case round =>
        clear X S0
        obtain ⟨o, ats, ho, hat, hb, hR⟩ := hrel
        obtain ⟨A5, n5, c5, rfl, hn5⟩ := own_form ho
        subst hn5
        have hlen : ats.length = n6 := by rw [hR.len, ← H0.out.2.2.1]
        have Q := Lib.hid (And.intro ho (And.intro hat (And.intro hb (And.intro hR hlen))))
        clear ho hat hb hR hlen
        rename World => wA
        go_wp2
        go_loopw [8, 9] (fun v8 v9 wr => ∃ k : Nat, k ≤ n6 ∧ v9 = .int .i64 k ∧ v8 = .int .i64 (fi (bestMF (ltF flat) ls ats k)) ∧ Below wA.heap.size wA wr) (fun _ v _ => n6 - (intOf v).toNat)
        case atStart => exact ⟨0, Nat.zero_le _, rfl, rfl, gr wA⟩
        case round =>
          obtain ⟨k, hk, rfl, rfl, hb⟩ := hrel
          by_cases hlt : k < n6
          · obtain ⟨aL, rfl, hcL⟩ := rv_nat H0.out.1 hlt
            obtain ⟨Ak, ck, hvk, hrk⟩ := H0.out.2.1 k hlt
            obtain ⟨gA, rfl, _, _⟩ := own_addr Q.out.2.1 (by omega)
            have hcA : wA.cell? ⟨gA, k, none⟩ = some (.int .i64 ((nth ats k : Nat) : Int)) := by
              rw [Q.out.2.1.cellAt k (by omega)]
              exact nums_at ats (by rw [Q.out.2.2.2.2]; exact hlt)
            obtain ⟨nk, hnk⟩ : ∃ nk, nk = (nth ls k).length := ⟨_, rfl⟩
            obtain ⟨ak, hak⟩ : ∃ ak, ak = nth ats k := ⟨_, rfl⟩
            rw [hvk, ← hnk] at hcL
            rw [← hak] at hcA
            have hki : (k : Int) < (n6 : Int) := by omega
            have hk0 : (0 : Int) ≤ (k : Int) := by omega
            have f1 := fun (w : World) (h : Below wr.heap.size wr w) => cell_grow hcA (gt hb h)
            have f2 := fun (w : World) (h : Below wr.heap.size wr w) => cell_grow hcL (gt (gt Q.out.2.2.1 hb) h)
            have ha0 : (0 : Int) ≤ (ak : Int) := by omega
            by_cases hak2 : ak < nk
            · cases hbm : bestMF (ltF flat) ls ats k with
              | none =>
                have CC := Lib.hid (And.intro f1 f2)
                have hbs := bestM_first (lt := ltF flat) (ls := ls) (ats := ats) (k := k) (by rw [← hak, ← hnk]; exact hak2) hbm
                have e1 : (ak : Int) < (nk : Int) := by omega
                have Z := Lib.hid (And.intro hlt (And.intro hb hbs))
                clear hk hlt hb hcL hrk hcA hnk hak f1 f2 hbs hvk hbm
                rw [show fi none = -1 from rfl]
                go_wp2
                refine wp_region_qb (by kernel_rfl) (by kernel_rfl) ?_
                refine wq_val (o := ⟨some 25, _, _, _, _, _⟩) (v := .slice (some ⟨gA, 0, none⟩) n6 cA) rfl (fun w' hC => by go_simp) ?_
                simp only [Act.put, List.setIfInBounds_toArray, List.set_cons_succ, List.set_cons_zero]
                refine wq_val (o := ⟨some 26, _, _, _, _, _⟩) (v := .int .i64 k) rfl (fun w' hC => by go_simp) ?_
                simp only [Act.put, List.setIfInBounds_toArray, List.set_cons_succ, List.set_cons_zero]
                refine wq_val (o := ⟨some 27, _, _, _, _, _⟩) (v := .pointer (some ⟨gA, k, none⟩)) rfl (fun w' hC => by go_simp) ?_
                simp only [Act.put, List.setIfInBounds_toArray, List.set_cons_succ, List.set_cons_zero]
                refine wq_val (o := ⟨some 28, _, _, _, _, _⟩) (v := .int .i64 ak) rfl (fun w' hC => by have x1 := CC.out.1 w' hC; go_simp) ?_
                simp only [Act.put, List.setIfInBounds_toArray, List.set_cons_succ, List.set_cons_zero]
                refine wq_val (o := ⟨some 29, _, _, _, _, _⟩) (v := .slice (some aL) n6 cl) rfl (fun w' hC => by go_simp) ?_
                simp only [Act.put, List.setIfInBounds_toArray, List.set_cons_succ, List.set_cons_zero]
                refine wq_val (o := ⟨some 30, _, _, _, _, _⟩) (v := .int .i64 k) rfl (fun w' hC => by go_simp) ?_
                simp only [Act.put, List.setIfInBounds_toArray, List.set_cons_succ, List.set_cons_zero]
                refine wq_val (o := ⟨some 31, _, _, _, _, _⟩) (v := .pointer (some (aL.add k))) rfl (fun w' hC => by go_simp) ?_
                simp only [Act.put, List.setIfInBounds_toArray, List.set_cons_succ, List.set_cons_zero]
                refine wq_val (o := ⟨some 32, _, _, _, _, _⟩) (v := .slice Ak nk ck) rfl (fun w' hC => by have x1 := CC.out.2 w' hC; go_simp) ?_
                simp only [Act.put, List.setIfInBounds_toArray, List.set_cons_succ, List.set_cons_zero]
                refine wq_val (o := ⟨some 33, _, _, _, _, _⟩) (v := .int .i64 nk) rfl (fun w' hC => by go_simp) ?_
                simp only [Act.put, List.setIfInBounds_toArray, List.set_cons_succ, List.set_cons_zero]
                refine wq_val (o := ⟨some 34, _, _, _, _, _⟩) (v := .bool true) rfl (fun w' hC => by go_simp) ?_
                simp only [Act.put, List.setIfInBounds_toArray, List.set_cons_succ, List.set_cons_zero]
                refine wq_val (o := ⟨some 35, _, _, _, _, _⟩) (v := .bool true) rfl (fun w' hC => by go_simp) ?_
                simp only [Act.put, List.setIfInBounds_toArray, List.set_cons_succ, List.set_cons_zero]
                refine wq_val (o := ⟨some 36, _, _, _, _, _⟩) (v := .int .i64 (-1)) rfl (fun w' hC => by go_simp) ?_
                simp only [Act.put, List.setIfInBounds_toArray, List.set_cons_succ, List.set_cons_zero]
                refine wq_val (o := ⟨some 37, _, _, _, _, _⟩) (v := .bool true) rfl (fun w' hC => by go_simp) ?_
                simp only [Act.put, List.setIfInBounds_toArray, List.set_cons_succ, List.set_cons_zero]
                refine wq_val (o := ⟨some 38, _, _, _, _, _⟩) (v := .bool true) rfl (fun w' hC => by go_simp) ?_
                simp only [Act.put, List.setIfInBounds_toArray, List.set_cons_succ, List.set_cons_zero]
                go_big_quiet_step (fail)
                go_big_quiet_step (fail)
                go_big_quiet_step (fail)
                go_big_quiet_step (fail)
                go_big_quiet_step (fail)
                go_big_quiet_step (fail)
                go_big_quiet_step (fail)
                go_big_quiet_step (fail)
                go_big_quiet_step (fail)
                go_big_quiet_step (fail)
                go_big_quiet_step (fail)
                go_big_quiet_step (fail)
                go_big_quiet_step (fail)
                go_big_quiet_step (fail)
                go_big_quiet_step (fail)
                go_big_quiet_step (fail)
                go_big_quiet_step (fail)
                go_big_quiet_step (fail)
                go_big_quiet_step (fail)
                go_big_quiet_step (fail)
                go_big_quiet_step (fail)
                go_big_quiet_step (fail)
                refine wq_val (o := ⟨some 61, _, _, _, _, _⟩) (v := .bool true) rfl (fun w' hC => by go_simp) ?_
                simp only [Act.put, List.setIfInBounds_toArray, List.set_cons_succ, List.set_cons_zero]
                refine wq_val (o := ⟨some 62, _, _, _, _, _⟩) (v := .bool true) rfl (fun w' hC => by go_simp) ?_
                simp only [Act.put, List.setIfInBounds_toArray, List.set_cons_succ, List.set_cons_zero]
                refine wpQuiet_nil ?_
                intro w5 hC5
                have X := Lib.hid (And.intro Z.out.1 (And.intro (gt Z.out.2.1 hC5) (show (k : Int) = fi (bestMF (ltF flat) ls ats (k + 1)) by rw [Z.out.2.2]; rfl)))
                clear hC5 Z CC
                go_wp2
                go_roundw
                case rel => exact ⟨k + 1, X.out.1, by go_num, by rw [← X.out.2.2], X.out.2.1⟩
                case measure => exact meas_in X.out.1
              | some b =>
                obtain ⟨hbk, hbl⟩ : b < k ∧ nth ats b < (nth ls b).length := by
                  rcases bestMF_spec (swo_ltF flat) ls ats k with ⟨h1, _⟩ | ⟨b', h1, h2, h3, _⟩
                  · rw [hbm] at h1; cases h1
                  · rw [hbm] at h1; injection h1 with h1; subst h1; exact ⟨h2, h3⟩
                obtain ⟨aL', eL, hcb⟩ := rv_nat H0.out.1 (show b < n6 by omega)
                injection eL with eL
                subst eL
                obtain ⟨Ab, cb, hvb, hrb⟩ := H0.out.2.1 b (by omega)
                have hcB : wA.cell? ⟨gA, b, none⟩ = some (.int .i64 ((nth ats b : Nat) : Int)) := by
                  rw [Q.out.2.1.cellAt b (by omega)]
                  exact nums_at ats (by rw [Q.out.2.2.2.2]; omega)
                obtain ⟨adk, rfl, x1c, x2c⟩ := item_gen hrk (k := ak) (by rw [← hnk]; exact hak2)
                obtain ⟨adb, rfl, y1c, y2c⟩ := item_gen hrb (k := nth ats b) hbl
                have hbs := bestM_more (lt := ltF flat) (ls := ls) (ats := ats) (k := k) (b := b) (by rw [← hak, ← hnk]; exact hak2) hbm
                rw [← hak] at hbs
                obtain ⟨nb, hnb⟩ : ∃ nb, nb = (nth ls b).length := ⟨_, rfl⟩
                obtain ⟨ab, hab⟩ : ∃ ab, ab = nth ats b := ⟨_, rfl⟩
                have hx0 : cellAt ls k ak = (nth ls k)[ak]'(by rw [← hnk]; exact hak2) := nth_eq _
                have hy0 : cellAt ls b (nth ats b) = (nth ls b)[nth ats b] := nth_eq _
                rw [← hx0] at x1c x2c
                rw [← hy0] at y1c y2c
                rw [← hnb, ← hab] at hbl
                rw [hvb, ← hnb] at hcb
                rw [← hab] at hcB y1c y2c hbs
                obtain ⟨x, hx⟩ : ∃ x, x = cellAt ls k ak := ⟨_, rfl⟩
                obtain ⟨y, hy⟩ : ∃ y, y = cellAt ls b ab := ⟨_, rfl⟩
                rw [← hx] at x1c x2c hbs
                rw [← hy] at y1c y2c hbs
                obtain ⟨x1, x2⟩ := x
                obtain ⟨y1, y2⟩ := y
                simp only at x1c x2c y1c y2c
                have g0 := fun (w : World) (h : Below wr.heap.size wr w) => gt (gt Q.out.2.2.1 hb) h
                have f3 := fun (w : World) (h : Below wr.heap.size wr w) => cell_grow hcB (gt hb h)
                have f4 := fun (w : World) (h : Below wr.heap.size wr w) => cell_grow hcb (g0 w h)
                have f5 := fun (w : World) (h : Below wr.heap.size wr w) => cell_grow x1c (g0 w h)
                have f6 := fun (w : World) (h : Below wr.heap.size wr w) => cell_grow x2c (g0 w h)
                have f7 := fun (w : World) (h : Below wr.heap.size wr w) => cell_grow y1c (g0 w h)
                have f8 := fun (w : World) (h : Below wr.heap.size wr w) => cell_grow y2c (g0 w h)
                have CC := Lib.hid (And.intro f1 (And.intro f2 (And.intro f3 (And.intro f4 (And.intro f5 (And.intro f6 (And.intro f7 f8)))))))
                have e1 : (ak : Int) < (nk : Int) := by omega
                have e3 : (b : Int) < (n6 : Int) := by omega
                have e4 : (0 : Int) ≤ (b : Int) := by omega
                have e5 : ¬ (b : Int) < 0 := by omega
                have e6 : (ab : Int) < (nb : Int) := by omega
                have e7 : (0 : Int) ≤ (ab : Int) := by omega
                have Z := Lib.hid (And.intro hlt (And.intro hb hbs))
                clear hk hlt hb hcL hrk hcA hnk hak f1 f2 f3 f4 f5 f6 f7 f8 g0 hbs hvk hbm hbk hbl hcb hvb hrb hcB x1c x2c y1c y2c hnb hab hx0 hy0 hx hy
                rw [show fi (some b) = (b : Int) from rfl]
                go_wp2
                refine wp_region_qb (by kernel_rfl) (by kernel_rfl) ?_
                refine wq_val (o := ⟨some 25, _, _, _, _, _⟩) (v := .slice (some ⟨gA, 0, none⟩) n6 cA) rfl (fun w' hC => by go_simp) ?_
                simp only [Act.put, List.setIfInBounds_toArray, List.set_cons_succ, List.set_cons_zero]
                refine wq_val (o := ⟨some 26, _, _, _, _, _⟩) (v := .int .i64 k) rfl (fun w' hC => by go_simp) ?_
                simp only [Act.put, List.setIfInBounds_toArray, List.set_cons_succ, List.set_cons_zero]
                refine wq_val (o := ⟨some 27, _, _, _, _, _⟩) (v := .pointer (some ⟨gA, k, none⟩)) rfl (fun w' hC => by go_simp) ?_
                simp only [Act.put, List.setIfInBounds_toArray, List.set_cons_succ, List.set_cons_zero]
                refine wq_val (o := ⟨some 28, _, _, _, _, _⟩) (v := .int .i64 ak) rfl (fun w' hC => by have x1 := CC.out.1 w' hC; go_simp) ?_
                simp only [Act.put, List.setIfInBounds_toArray, List.set_cons_succ, List.set_cons_zero]
                refine wq_val (o := ⟨some 29, _, _, _, _, _⟩) (v := .slice (some aL) n6 cl) rfl (fun w' hC => by go_simp) ?_
                simp only [Act.put, List.setIfInBounds_toArray, List.set_cons_succ, List.set_cons_zero]
                refine wq_val (o := ⟨some 30, _, _, _, _, _⟩) (v := .int .i64 k) rfl (fun w' hC => by go_simp) ?_
                simp only [Act.put, List.setIfInBounds_toArray, List.set_cons_succ, List.set_cons_zero]
                refine wq_val (o := ⟨some 31, _, _, _, _, _⟩) (v := .pointer (some (aL.add k))) rfl (fun w' hC => by go_simp) ?_
                simp only [Act.put, List.setIfInBounds_toArray, List.set_cons_succ, List.set_cons_zero]
                refine wq_val (o := ⟨some 32, _, _, _, _, _⟩) (v := .slice (some adk) nk ck) rfl (fun w' hC => by have x1 := CC.out.2.1 w' hC; go_simp) ?_
                simp only [Act.put, List.setIfInBounds_toArray, List.set_cons_succ, List.set_cons_zero]
                refine wq_val (o := ⟨some 33, _, _, _, _, _⟩) (v := .int .i64 nk) rfl (fun w' hC => by go_simp) ?_
                simp only [Act.put, List.setIfInBounds_toArray, List.set_cons_succ, List.set_cons_zero]
                refine wq_val (o := ⟨some 34, _, _, _, _, _⟩) (v := .bool true) rfl (fun w' hC => by go_simp) ?_
                simp only [Act.put, List.setIfInBounds_toArray, List.set_cons_succ, List.set_cons_zero]
                refine wq_val (o := ⟨some 35, _, _, _, _, _⟩) (v := .bool true) rfl (fun w' hC => by go_simp) ?_
                simp only [Act.put, List.setIfInBounds_toArray, List.set_cons_succ, List.set_cons_zero]
                refine wq_val (o := ⟨some 36, _, _, _, _, _⟩) (v := .int .i64 b) rfl (fun w' hC => by go_simp) ?_
                simp only [Act.put, List.setIfInBounds_toArray, List.set_cons_succ, List.set_cons_zero]
                refine wq_val (o := ⟨some 37, _, _, _, _, _⟩) (v := .bool false) rfl (fun w' hC => by go_simp) ?_
                simp only [Act.put, List.setIfInBounds_toArray, List.set_cons_succ, List.set_cons_zero]
                refine wq_val (o := ⟨some 38, _, _, _, _, _⟩) (v := .bool false) rfl (fun w' hC => by go_simp) ?_
                simp only [Act.put, List.setIfInBounds_toArray, List.set_cons_succ, List.set_cons_zero]
                refine wq_val (o := ⟨some 39, _, _, _, _, _⟩) (v := .slice (some aL) n6 cl) rfl (fun w' hC => by go_simp) ?_
                simp only [Act.put, List.setIfInBounds_toArray, List.set_cons_succ, List.set_cons_zero]
                refine wq_val (o := ⟨some 40, _, _, _, _, _⟩) (v := .int .i64 k) rfl (fun w' hC => by go_simp) ?_
                simp only [Act.put, List.setIfInBounds_toArray, List.set_cons_succ, List.set_cons_zero]
                refine wq_val (o := ⟨some 41, _, _, _, _, _⟩) (v := .pointer (some (aL.add k))) rfl (fun w' hC => by go_simp) ?_
                simp only [Act.put, List.setIfInBounds_toArray, List.set_cons_succ, List.set_cons_zero]
                refine wq_val (o := ⟨some 42, _, _, _, _, _⟩) (v := .slice (some adk) nk ck) rfl (fun w' hC => by have x1 := CC.out.2.1 w' hC; go_simp) ?_
                simp only [Act.put, List.setIfInBounds_toArray, List.set_cons_succ, List.set_cons_zero]
                refine wq_val (o := ⟨some 43, _, _, _, _, _⟩) (v := .slice (some ⟨gA, 0, none⟩) n6 cA) rfl (fun w' hC => by go_simp) ?_
                simp only [Act.put, List.setIfInBounds_toArray, List.set_cons_succ, List.set_cons_zero]
                refine wq_val (o := ⟨some 44, _, _, _, _, _⟩) (v := .int .i64 k) rfl (fun w' hC => by go_simp) ?_
                simp only [Act.put, List.setIfInBounds_toArray, List.set_cons_succ, List.set_cons_zero]
                refine wq_val (o := ⟨some 45, _, _, _, _, _⟩) (v := .pointer (some ⟨gA, k, none⟩)) rfl (fun w' hC => by go_simp) ?_
                simp only [Act.put, List.setIfInBounds_toArray, List.set_cons_succ, List.set_cons_zero]
                refine wq_val (o := ⟨some 46, _, _, _, _, _⟩) (v := .int .i64 ak) rfl (fun w' hC => by have x1 := CC.out.1 w' hC; go_simp) ?_
                simp only [Act.put, List.setIfInBounds_toArray, List.set_cons_succ, List.set_cons_zero]
                refine wq_val (o := ⟨some 47, _, _, _, _, _⟩) (v := .pointer (some (adk.add (ak * 2)))) rfl (fun w' hC => by go_simp) ?_
                simp only [Act.put, List.setIfInBounds_toArray, List.set_cons_succ, List.set_cons_zero]
                refine wq_val (o := ⟨some 48, _, _, _, _, _⟩) (v := .agg #[.int .i64 x1, .int .i64 x2]) rfl (fun w' hC => by have q1 := CC.out.2.2.2.2.1 w' hC; have q2 := CC.out.2.2.2.2.2.1 w' hC; go_simp) ?_
                simp only [Act.put, List.setIfInBounds_toArray, List.set_cons_succ, List.set_cons_zero]
                refine wq_val (o := ⟨some 49, _, _, _, _, _⟩) (v := .slice (some aL) n6 cl) rfl (fun w' hC => by go_simp) ?_
                simp only [Act.put, List.setIfInBounds_toArray, List.set_cons_succ, List.set_cons_zero]
                refine wq_val (o := ⟨some 50, _, _, _, _, _⟩) (v := .int .i64 b) rfl (fun w' hC => by go_simp) ?_
                simp only [Act.put, List.setIfInBounds_toArray, List.set_cons_succ, List.set_cons_zero]
                refine wq_val (o := ⟨some 51, _, _, _, _, _⟩) (v := .pointer (some (aL.add b))) rfl (fun w' hC => by go_simp) ?_
                simp only [Act.put, List.setIfInBounds_toArray, List.set_cons_succ, List.set_cons_zero]
                refine wq_val (o := ⟨some 52, _, _, _, _, _⟩) (v := .slice (some adb) nb cb) rfl (fun w' hC => by have x1 := CC.out.2.2.2.1 w' hC; go_simp) ?_
                simp only [Act.put, List.setIfInBounds_toArray, List.set_cons_succ, List.set_cons_zero]
                refine wq_val (o := ⟨some 53, _, _, _, _, _⟩) (v := .slice (some ⟨gA, 0, none⟩) n6 cA) rfl (fun w' hC => by go_simp) ?_
                simp only [Act.put, List.setIfInBounds_toArray, List.set_cons_succ, List.set_cons_zero]
                refine wq_val (o := ⟨some 54, _, _, _, _, _⟩) (v := .int .i64 b) rfl (fun w' hC => by go_simp) ?_
                simp only [Act.put, List.setIfInBounds_toArray, List.set_cons_succ, List.set_cons_zero]
                refine wq_val (o := ⟨some 55, _, _, _, _, _⟩) (v := .pointer (some ⟨gA, b, none⟩)) rfl (fun w' hC => by go_simp) ?_
                simp only [Act.put, List.setIfInBounds_toArray, List.set_cons_succ, List.set_cons_zero]
                refine wq_val (o := ⟨some 56, _, _, _, _, _⟩) (v := .int .i64 ab) rfl (fun w' hC => by have x1 := CC.out.2.2.1 w' hC; go_simp) ?_
                simp only [Act.put, List.setIfInBounds_toArray, List.set_cons_succ, List.set_cons_zero]
                refine wq_val (o := ⟨some 57, _, _, _, _, _⟩) (v := .pointer (some (adb.add (ab * 2)))) rfl (fun w' hC => by go_simp) ?_
                simp only [Act.put, List.setIfInBounds_toArray, List.set_cons_succ, List.set_cons_zero]
                refine wq_val (o := ⟨some 58, _, _, _, _, _⟩) (v := .agg #[.int .i64 y1, .int .i64 y2]) rfl (fun w' hC => by have q1 := CC.out.2.2.2.2.2.2.1 w' hC; have q2 := CC.out.2.2.2.2.2.2.2 w' hC; go_simp) ?_
                simp only [Act.put, List.setIfInBounds_toArray, List.set_cons_succ, List.set_cons_zero]
                refine wq_val (o := ⟨some 59, _, _, _, _, _⟩) (v := .bool flat) rfl (fun w' hC => by go_simp) ?_
                simp only [Act.put, List.setIfInBounds_toArray, List.set_cons_succ, List.set_cons_zero]
                refine wq_call (f := 43) (args := #[.agg #[.int .i64 x1, .int .i64 x2], .agg #[.int .i64 y1, .int .i64 y2], .bool flat]) (v := .bool (ltF flat (x1, x2) (y1, y2))) rfl (fun w' _ => by go_simp) (fun w' hC => less2_any (x1, x2) (y1, y2) flat w') ?_
                simp only [Act.put, List.setIfInBounds_toArray, List.set_cons_succ, List.set_cons_zero]
                refine wq_val (o := ⟨some 61, _, _, _, _, _⟩) (v := .bool (ltF flat (x1, x2) (y1, y2))) rfl (fun w' hC => by go_simp) ?_
                simp only [Act.put, List.setIfInBounds_toArray, List.set_cons_succ, List.set_cons_zero]
                refine wq_val (o := ⟨some 62, _, _, _, _, _⟩) (v := .bool (ltF flat (x1, x2) (y1, y2))) rfl (fun w' hC => by go_simp) ?_
                simp only [Act.put, List.setIfInBounds_toArray, List.set_cons_succ, List.set_cons_zero]
                refine wpQuiet_nil ?_
                intro w5 hC5
                cases hq : ltF flat (x1, x2) (y1, y2) with
                | true =>
                  have X := Lib.hid (And.intro Z.out.1 (And.intro (gt Z.out.2.1 hC5) (show (k : Int) = fi (bestMF (ltF flat) ls ats (k + 1)) by rw [Z.out.2.2, hq]; rfl)))
                  clear hC5 Z CC hq
                  go_wp2
                  go_roundw
                  case rel => exact ⟨k + 1, X.out.1, by go_num, by rw [← X.out.2.2], X.out.2.1⟩
                  case measure => exact meas_in X.out.1
                | false =>
                  have X := Lib.hid (And.intro Z.out.1 (And.intro (gt Z.out.2.1 hC5) (show (b : Int) = fi (bestMF (ltF flat) ls ats (k + 1)) by rw [Z.out.2.2, hq]; rfl)))
                  clear hC5 Z CC hq
                  go_wp2
                  go_roundw
                  case rel => exact ⟨k + 1, X.out.1, by go_num, by rw [← X.out.2.2], X.out.2.1⟩
                  case measure => exact meas_in X.out.1
            · have CC := Lib.hid (And.intro f1 f2)
              have hbs := bestM_skip (lt := ltF flat) (ls := ls) (ats := ats) (k := k) (by rw [← hak, ← hnk]; exact hak2)
              have e1 : ¬ (ak : Int) < (nk : Int) := by omega
              have e2 : nk ≤ ak := by omega
              have Z := Lib.hid (And.intro hlt (And.intro hb hbs))
              clear hk hlt hb hcL hrk hcA hnk hak f1 f2 hak2 hbs hvk
              obtain ⟨bz, hbz⟩ : ∃ bz, bz = fi (bestMF (ltF flat) ls ats k) := ⟨_, rfl⟩
              rw [← hbz]
              have HB := Lib.hid hbz
              clear hbz
              go_wp2
              refine wp_region_qb (by kernel_rfl) (by kernel_rfl) ?_
              refine wq_val (o := ⟨some 25, _, _, _, _, _⟩) (v := .slice (some ⟨gA, 0, none⟩) n6 cA) rfl (fun w' hC => by go_simp) ?_
              simp only [Act.put, List.setIfInBounds_toArray, List.set_cons_succ, List.set_cons_zero]
              refine wq_val (o := ⟨some 26, _, _, _, _, _⟩) (v := .int .i64 k) rfl (fun w' hC => by go_simp) ?_
              simp only [Act.put, List.setIfInBounds_toArray, List.set_cons_succ, List.set_cons_zero]
              refine wq_val (o := ⟨some 27, _, _, _, _, _⟩) (v := .pointer (some ⟨gA, k, none⟩)) rfl (fun w' hC => by go_simp) ?_
              simp only [Act.put, List.setIfInBounds_toArray, List.set_cons_succ, List.set_cons_zero]
              refine wq_val (o := ⟨some 28, _, _, _, _, _⟩) (v := .int .i64 ak) rfl (fun w' hC => by have x1 := CC.out.1 w' hC; go_simp) ?_
              simp only [Act.put, List.setIfInBounds_toArray, List.set_cons_succ, List.set_cons_zero]
              refine wq_val (o := ⟨some 29, _, _, _, _, _⟩) (v := .slice (some aL) n6 cl) rfl (fun w' hC => by go_simp) ?_
              simp only [Act.put, List.setIfInBounds_toArray, List.set_cons_succ, List.set_cons_zero]
              refine wq_val (o := ⟨some 30, _, _, _, _, _⟩) (v := .int .i64 k) rfl (fun w' hC => by go_simp) ?_
              simp only [Act.put, List.setIfInBounds_toArray, List.set_cons_succ, List.set_cons_zero]
              refine wq_val (o := ⟨some 31, _, _, _, _, _⟩) (v := .pointer (some (aL.add k))) rfl (fun w' hC => by go_simp) ?_
              simp only [Act.put, List.setIfInBounds_toArray, List.set_cons_succ, List.set_cons_zero]
              refine wq_val (o := ⟨some 32, _, _, _, _, _⟩) (v := .slice Ak nk ck) rfl (fun w' hC => by have x1 := CC.out.2 w' hC; go_simp) ?_
              simp only [Act.put, List.setIfInBounds_toArray, List.set_cons_succ, List.set_cons_zero]
              refine wq_val (o := ⟨some 33, _, _, _, _, _⟩) (v := .int .i64 nk) rfl (fun w' hC => by go_simp) ?_
              simp only [Act.put, List.setIfInBounds_toArray, List.set_cons_succ, List.set_cons_zero]
              refine wq_val (o := ⟨some 34, _, _, _, _, _⟩) (v := .bool false) rfl (fun w' hC => by go_simp) ?_
              simp only [Act.put, List.setIfInBounds_toArray, List.set_cons_succ, List.set_cons_zero]
              refine wq_val (o := ⟨some 35, _, _, _, _, _⟩) (v := .bool false) rfl (fun w' hC => by go_simp) ?_
              simp only [Act.put, List.setIfInBounds_toArray, List.set_cons_succ, List.set_cons_zero]
              go_big_quiet_step (fail)
              go_big_quiet_step (fail)
              go_big_quiet_step (fail)
              go_big_quiet_step (fail)
              go_big_quiet_step (fail)
              go_big_quiet_step (fail)
              go_big_quiet_step (fail)
              go_big_quiet_step (fail)
              go_big_quiet_step (fail)
              go_big_quiet_step (fail)
              go_big_quiet_step (fail)
              go_big_quiet_step (fail)
              go_big_quiet_step (fail)
              go_big_quiet_step (fail)
              go_big_quiet_step (fail)
              go_big_quiet_step (fail)
              go_big_quiet_step (fail)
              go_big_quiet_step (fail)
              go_big_quiet_step (fail)
              go_big_quiet_step (fail)
              go_big_quiet_step (fail)
              go_big_quiet_step (fail)
              go_big_quiet_step (fail)
              go_big_quiet_step (fail)
              go_big_quiet_step (fail)
              go_big_quiet_step (fail)
              refine wq_val (o := ⟨some 62, _, _, _, _, _⟩) (v := .bool false) rfl (fun w' hC => by go_simp) ?_
              simp only [Act.put, List.setIfInBounds_toArray, List.set_cons_succ, List.set_cons_zero]
              refine wpQuiet_nil ?_
              intro w5 hC5
              have X := Lib.hid (And.intro Z.out.1 (And.intro (gt Z.out.2.1 hC5) (show bz = fi (bestMF (ltF flat) ls ats (k + 1)) by rw [Z.out.2.2]; exact HB.out)))
              clear hC5 Z CC HB
              go_wp2
              go_roundw
              case rel => exact ⟨k + 1, X.out.1, by go_num, by rw [X.out.2.2], X.out.2.1⟩
              case measure => exact meas_in X.out.1
          · obtain rfl : k = n6 := by omega
            have hki : ¬ (k : Int) < (k : Int) := by omega
            cases hbm : bestMF (ltF flat) ls ats k with
            | none =>
              have hdone := Q.out.2.2.2.1.done (by rw [← H0.out.2.2.1]; exact hbm)
              have X := Lib.hid (And.intro (own_below'' Q.out.1 hb) (And.intro (gt Q.out.2.2.1 hb) hdone))
              rw [show fi none = -1 from rfl]
              clear hbm hb hk hlt hdone
              go_wp2
              go_ret
              refine ⟨_, rfl, ?_, X.out.2.1⟩
              rw [← X.out.2.2]
              exact X.out.1
            | some b =>
              obtain ⟨hbk, hbl⟩ : b < k ∧ nth ats b < (nth ls b).length := by
                rcases bestMF_spec (swo_ltF flat) ls ats k with ⟨h1, _⟩ | ⟨b', h1, h2, h3, _⟩
                · rw [hbm] at h1; cases h1
                · rw [hbm] at h1; injection h1 with h1; subst h1; exact ⟨h2, h3⟩
              obtain ⟨aL, rfl, hcb⟩ := rv_nat H0.out.1 hbk
              obtain ⟨Ab, cb, hvb, hrb⟩ := H0.out.2.1 b hbk
              obtain ⟨gA, rfl, _, _⟩ := own_addr Q.out.2.1 (by omega)
              have hcB : wA.cell? ⟨gA, b, none⟩ = some (.int .i64 ((nth ats b : Nat) : Int)) := by
                rw [Q.out.2.1.cellAt b (by omega)]
                exact nums_at ats (by rw [Q.out.2.2.2.2]; omega)
              obtain ⟨adb, rfl, y1c, y2c⟩ := item_gen hrb (k := nth ats b) hbl
              have hstep := Q.out.2.2.2.1.step (b := b) (by rw [← H0.out.2.2.1]; exact hbm) (by rw [← H0.out.2.2.1]; exact hbk) hbl
              have hy0 : cellAt ls b (nth ats b) = (nth ls b)[nth ats b] := nth_eq _
              rw [← hy0] at y1c y2c
              have hle := Q.out.2.2.2.1.left
              have hpos := rem_pos ls ats b (by rw [← H0.out.2.2.1]; exact hbk) (by rw [Q.out.2.2.2.2]; exact hbk) hbl
              obtain ⟨nb, hnb⟩ : ∃ nb, nb = (nth ls b).length := ⟨_, rfl⟩
              obtain ⟨ab, hab⟩ : ∃ ab, ab = nth ats b := ⟨_, rfl⟩
              rw [← hnb, ← hab] at hbl
              rw [hvb, ← hnb] at hcb
              rw [← hab] at hcB y1c y2c hstep
              obtain ⟨y, hy⟩ : ∃ y, y = cellAt ls b ab := ⟨_, rfl⟩
              rw [← hy] at y1c y2c hstep
              obtain ⟨y1, y2⟩ := y
              simp only at y1c y2c
              have g0 := fun (w : World) (h : Below wr.heap.size wr w) => gt (gt Q.out.2.2.1 hb) h
              have f3 := fun (w : World) (h : Below wr.heap.size wr w) => cell_grow hcB (gt hb h)
              have f4 := fun (w : World) (h : Below wr.heap.size wr w) => cell_grow hcb (g0 w h)
              have f7 := fun (w : World) (h : Below wr.heap.size wr w) => cell_grow y1c (g0 w h)
              have f8 := fun (w : World) (h : Below wr.heap.size wr w) => cell_grow y2c (g0 w h)
              have CC := Lib.hid (And.intro f3 (And.intro f4 (And.intro f7 f8)))
              have e3 : (b : Int) < (k : Int) := by omega
              have e4 : (0 : Int) ≤ (b : Int) := by omega
              have e5 : ¬ (b : Int) < 0 := by omega
              have e6 : (ab : Int) < (nb : Int) := by omega
              have e7 : (0 : Int) ≤ (ab : Int) := by omega
              have e8 : (ab : Int) ≤ 1073741824 := by
                have h1 := H0.out.2.2.2
                have h2 : (nth ls b).length ≤ total ls := by
                  have h3 := tot_succ ls (k := b) (by rw [← H0.out.2.2.1]; exact hbk)
                  have h4 := tot_le ls (b + 1)
                  omega
                omega
              have Z := Lib.hid (And.intro hb (And.intro hstep (And.intro hbk (And.intro (show o.length + 1 ≤ total ls by omega) hab))))
              clear hk hlt hb hcb hvb hrb hcB f3 f4 f7 f8 g0 hbm hbk hbl y1c y2c hnb hab hy0 hy hstep hle hpos
              rw [show fi (some b) = (b : Int) from rfl]
              rename World => wB
              go_upto_region 15 with fail
              try simp only [Act.put, List.setIfInBounds_toArray, List.set_cons_succ, List.set_cons_zero]
              refine wp_region_rrT (fun a b => Below a.heap.size a b) (fun _ _ _ h g => gt h g) (fun _ _ h => h.size) (fun a => (gr a).drew) 12
                [.eq 67 (.slice A5 o.length c5), .eq 68 (.slice (some aL) k cl), .eq 69 (.int .i64 b), .eq 70 (.pointer (some (aL.add b))), .eq 71 (.slice (some adb) nb cb), .eq 72 (.slice (some ⟨gA, 0, none⟩) k cA), .eq 73 (.int .i64 b), .eq 74 (.pointer (some ⟨gA, b, none⟩)), .eq 75 (.int .i64 ab), .eq 76 (.pointer (some (adb.add (ab * 2)))), .eq 77 (.agg #[.int .i64 y1, .int .i64 y2]), .new 78 (NewRow wB.heap.size TI [.int .i64 y1, .int .i64 y2] 1)]
                (by kernel_rfl) (by kernel_rfl) (by kernel_rfl) (by kernel_rfl) ?hstd ?hobd ?hfind
              case hstd =>
                intro s hs
                simp only [List.mem_cons, List.not_mem_nil, or_false] at hs
                rcases hs with rfl | rfl | rfl | rfl | rfl | rfl | rfl | rfl | rfl | rfl | rfl | rfl
                · exact fun _ _ _ h _ => h
                · exact fun _ _ _ h _ => h
                · exact fun _ _ _ h _ => h
                · exact fun _ _ _ h _ => h
                · exact fun _ _ _ h _ => h
                · exact fun _ _ _ h _ => h
                · exact fun _ _ _ h _ => h
                · exact fun _ _ _ h _ => h
                · exact fun _ _ _ h _ => h
                · exact fun _ _ _ h _ => h
                · exact fun _ _ _ h _ => h
                · rintro vs w1 w2 ⟨v, rfl, h⟩ hb
                  exact ⟨_, rfl, NewRow.stable h hb⟩
              case hobd =>
                simp only [List.take_succ_cons, List.take_zero]
                refine rrs_cons ?_ (rrs_cons ?_ (rrs_cons ?_ (rrs_cons ?_ (rrs_cons ?_ (rrs_cons ?_ (rrs_cons ?_ (rrs_cons ?_ (rrs_cons ?_ (rrs_cons ?_ (rrs_cons ?_ (rrs_cons ?_ rrs_nil)))))))))))
                · refine rr_eq gr (by decide) (by rfl) (by rfl) fun x w' A hg hp hA => ?_
                  have e5 := hA 5
                  simp [rgDsts] at e5
                  go_simp
                · refine rr_eq gr (by decide) (by rfl) (by rfl) fun x w' A hg hp hA => ?_
                  have e0 := hA 0
                  simp [rgDsts] at e0
                  go_simp
                · refine rr_eq gr (by decide) (by rfl) (by rfl) fun x w' A hg hp hA => ?_
                  have e8 := hA 8
                  simp [rgDsts] at e8
                  go_simp
                · refine rr_eq gr (by decide) (by rfl) (by rfl) fun x w' A hg hp hA => ?_
                  have h68 := rg_pred_eq (d := 68) hp 0 rfl rfl rfl
                  have h69 := rg_pred_eq (d := 69) hp 1 rfl rfl rfl
                  have e68 := (hA.at_ 68 rfl).trans h68
                  have e69 := (hA.at_ 69 rfl).trans h69
                  go_simp
                · refine rr_eq gr (by decide) (by rfl) (by rfl) fun x w' A hg hp hA => ?_
                  have h70 := rg_pred_eq (d := 70) hp 0 rfl rfl rfl
                  have e70 := (hA.at_ 70 rfl).trans h70
                  have q1 := CC.out.2.1 w' hg
                  go_simp
                · refine rr_eq gr (by decide) (by rfl) (by rfl) fun x w' A hg hp hA => ?_
                  have e6 := hA 6
                  simp [rgDsts] at e6
                  go_simp
                · refine rr_eq gr (by decide) (by rfl) (by rfl) fun x w' A hg hp hA => ?_
                  have e8 := hA 8
                  simp [rgDsts] at e8
                  go_simp
                · refine rr_eq gr (by decide) (by rfl) (by rfl) fun x w' A hg hp hA => ?_
                  have h72 := rg_pred_eq (d := 72) hp 0 rfl rfl rfl
                  have h73 := rg_pred_eq (d := 73) hp 1 rfl rfl rfl
                  have e72 := (hA.at_ 72 rfl).trans h72
                  have e73 := (hA.at_ 73 rfl).trans h73
                  go_simp
                · refine rr_eq gr (by decide) (by rfl) (by rfl) fun x w' A hg hp hA => ?_
                  have h74 := rg_pred_eq (d := 74) hp 0 rfl rfl rfl
                  have e74 := (hA.at_ 74 rfl).trans h74
                  have q1 := CC.out.1 w' hg
                  go_simp
                · refine rr_eq gr (by decide) (by rfl) (by rfl) fun x w' A hg hp hA => ?_
                  have h71 := rg_pred_eq (d := 71) hp 0 rfl rfl rfl
                  have h75 := rg_pred_eq (d := 75) hp 1 rfl rfl rfl
                  have e71 := (hA.at_ 71 rfl).trans h71
                  have e75 := (hA.at_ 75 rfl).trans h75
                  go_simp
                · refine rr_eq gr (by decide) (by rfl) (by rfl) fun x w' A hg hp hA => ?_
                  have h76 := rg_pred_eq (d := 76) hp 0 rfl rfl rfl
                  have e76 := (hA.at_ 76 rfl).trans h76
                  have q1 := CC.out.2.2.1 w' hg
                  have q2 := CC.out.2.2.2 w' hg
                  go_simp
                · refine rr_build1 ET (by decide) rfl rfl (.tmp 77) rfl (by decide) ([.int .i64 y1, .int .i64 y2]) (by rfl) fun x w' A hg hp hA => ?_
                  have h77 := rg_pred_eq (d := 77) hp 0 rfl rfl rfl
                  have e77 := (hA.at_ 77 rfl).trans h77
                  simp [Act.eval, e77, Value.cells, strV]
              case hfind =>
              intro x w8 hg hall hap
              simp only [RgAll, holds_eq, holds_new, holds_one, and_true] at hall
              obtain ⟨h67, h68, h69, h70, h71, h72, h73, h74, h75, h76, h77, h78⟩ := hall
              obtain ⟨b78, h78, hb78, hB78⟩ := h78
              simp only [rgDsts, List.take_succ_cons, List.take_zero, List.filterMap_cons, List.filterMap_nil, putMany, List.foldl_cons, List.foldl_nil, List.setIfInBounds_toArray, List.set_cons_succ, List.set_cons_zero, List.drop_succ_cons, List.drop_zero, h67, h68, h69, h70, h71, h72, h73, h74, h75, h76, h77, h78]
              clear h67 h68 h69 h70 h71 h72 h73 h74 h75 h76 h77 h78
              have B8 := Lib.hid (gt Z.out.1 hg)
              have O8 := Lib.hid (And.intro (own_below'' Q.out.1 B8.out) (own_below'' Q.out.2.1 B8.out))
              clear CC
              go_wp2_with (first
                | ((with_reducible show wpList _ _ _ (⟨some 79, _, _, _, _, _⟩ :: _) _ _)
                   go_must (refine wpList_app ET (o := ⟨some 79, _, _, _, _, _⟩) rfl (.tmp 67) (.tmp 78) rfl W.heap.size (.slice A5 o.length c5) o.length _ rfl O8.out.1 (some ⟨b78, 0, none⟩) 1 1 [.int .i64 y1, .int .i64 y2] rfl hB78.rv rfl (fun u hu => thI.one (y1, y2) u hu) (by have := Z.out.2.2.2.1; have := H0.out.2.2.2; unfold maxLen; omega) (by have := Z.out.2.2.2.1; have := H0.out.2.2.2; omega) (gt Q.out.2.2.1 B8.out).size ?_)
                   intro v9 w9 ho9 hg9 hv9
                   have hat9 := O8.out.2.kept hg9 (own_ne_own O8.out.2 O8.out.1 (by decide))
                   have c9 : w9.cell? ⟨gA, b, none⟩ = some (.int .i64 ((nth ats b : Nat) : Int)) := by
                     rw [hat9.cellAt b (by have := Z.out.2.2.1; omega)]
                     exact nums_at ats (by rw [Q.out.2.2.2.2]; exact Z.out.2.2.1)
                   rw [← Z.out.2.2.2.2] at c9
                   have fz9 := hat9.frozenAt b))
              obtain ⟨A9, n9, c9', rfl, hn9⟩ := own_form ho9
              subst hn9
              have hne := own_ne_own ho9 hat9 (by decide)
              have ho10 : (w9.setCell ⟨gA, b, none⟩ (.int .i64 ((ab : Int) + 1))).ownsRow W.heap.size TI 2 (.slice A9 (o.length + 1) c9') (o ++ [(y1, y2)]).length ((o ++ [(y1, y2)]).flatMap Itm.cells) := by
                rw [List.length_append, List.flatMap_append]
                exact own_far ho9 (by rcases hne with e | e; · rw [e]; exact fun h => by cases h
                                      · exact e) _
              have hat10 : (w9.setCell ⟨gA, b, none⟩ (.int .i64 ((ab : Int) + 1))).ownsRow W.heap.size 3 1 (.slice (some ⟨gA, 0, none⟩) k cA) k (nums (ats.set b (ab + 1))) := by
                have h := (hat9.stored b (.int .i64 ((ab : Int) + 1))).1
                rw [nums_set]
                exact h
              have hb9 := below_own (gt Q.out.2.2.1 B8.out) O8.out.1 hg9 (gt Q.out.2.2.1 B8.out).size
              have hb10 : Below W.heap.size W (w9.setCell ⟨gA, b, none⟩ (.int .i64 ((ab : Int) + 1))) := gs hb9 (hat9.lt gA rfl).1 _
              have X := Lib.hid (And.intro ho10 (And.intro hat10 (And.intro hb10 (And.intro Z.out.2.1 Z.out.2.2.2.1))))
              clear ho9 hg9 hv9 hat9 c9 fz9 hne ho10 hat10 hb9 hb10 Z O8 B8
              have hwr : wrap64 ((ab : Int) + 1) = (ab : Int) + 1 := by unfold wrap64; omega
              try rw [hwr]
              exact ⟨⟨_, _, X.out.1, X.out.2.1, X.out.2.2.1, X.out.2.2.2.1⟩, by have := X.out.2.2.2.2; simp only [slen]; omega⟩
end Go.Proofs.Ytdebokambldbbaa.LawP
namespace Go.Proofs.Ytdebokambldbbaa.LawP
open Go.RowKit Go.Shelf Go.Proofs.Ytdebokambldbbaa.Mem Go.Proofs.Ytdebokambldbbaa.Heap Go.Proofs.Ytdebokambldbbaa.Pile Go.Proofs.Ytdebokambldbbaa.PileI
set_option linter.unusedVariables false
set_option linter.unusedSectionVars false
set_option linter.unusedSimpArgs false
set_option maxRecDepth 8000
set_option maxHeartbeats 6400000

abbrev TT : TypeId := 32
/-- a list that reads, in memory that is old or holds things -/
def Rd (B : Nat) (w : World) (A : Option Addr) (xs : List Value) : Prop := RV w A xs ∧ (xs ≠ [] → ∀ ad, A = some ad → ad.block < B ∨ ∃ cs fz, w.heap[ad.block]? = some (.cells cs TI fz))
theorem rv_block {w w' : World} {ad : Addr} {xs : List Value} (h : RV w (some ad) xs) (hb : w'.heap[ad.block]? = w.heap[ad.block]?) : RV w' (some ad) xs := fun k hk => by
  obtain ⟨ad', e, hc⟩ := h k hk
  injection e with e
  subst e
  refine ⟨ad, rfl, ?_⟩
  rw [← hc]
  unfold World.cell?
  rw [block_of_add, hb]
theorem Rd.below {B : Nat} {w w' : World} {A : Option Addr} {xs : List Value} (h : Rd B w A xs) (hb : Below w.heap.size w w') : Rd B w' A xs :=
  ⟨h.1.below hb, fun hx ad e => (h.2 hx ad e).imp id fun ⟨cs, fz, hc⟩ => ⟨cs, fz, (hb.block _ (Array.getElem?_eq_some_iff.1 hc).1).trans hc⟩⟩
/-- a growth of a list of lists leaves it -/
theorem Rd.grown {B : Nat} {w w' : World} {A : Option Addr} {xs : List Value} (h : Rd B w A xs) {v : Value} {n : Nat} {ys : List Value} (ho : w.ownsRow B TT 1 v n ys) (hg : w.grownBy w' v.ownBlock) (hB : B ≤ w.heap.size) : Rd B w' A xs := by
  by_cases hx : xs = []
  · subst hx; exact ⟨RV.nil _ _, fun h => absurd rfl h⟩
  rcases A with _ | ad
  · exact ⟨fun k hk => (by obtain ⟨_, e, _⟩ := h.1 k hk; cases e), fun _ ad e => (by cases e)⟩
  · have hne : some ad.block ≠ v.ownBlock := fun e => by
      rcases h.2 hx ad rfl with hlt | ⟨cs, fz, hc⟩
      · have := (ho.lt ad.block e.symm).1; omega
      · rcases ho.2 with ⟨rfl, _⟩ | ⟨g, cap, cur, rfl, _, hg2, _⟩
        · cases e
        · simp only [Value.ownBlock, Option.some.injEq] at e
          rw [e, hg2] at hc
          simp at hc
          exact absurd hc.2.1 (by decide)
    have hlt : ad.block < w.heap.size := by
      rcases h.2 hx ad rfl with hlt | ⟨cs, fz, hc⟩
      · omega
      · exact (Array.getElem?_eq_some_iff.1 hc).1
    have hb := hg.block ad.block hlt hne
    exact ⟨rv_block h.1 hb, fun hx ad' e => by injection e with e; subst e; exact (h.2 hx ad rfl).imp id fun ⟨cs, fz, hc⟩ => ⟨cs, fz, hb.trans hc⟩⟩
theorem rv_low {w : World} {ad : Addr} {xs : List Value} (h : RV w (some ad) xs) (hx : xs ≠ []) : ad.block < w.heap.size := by
  obtain ⟨ad', e, hc⟩ := h 0 (by cases xs; exact absurd rfl hx; simp)
  injection e with e
  subst e
  have := block_lt_of_cell hc
  rw [block_of_add] at this
  exact this
/-- the lists that are put, the first k -/
structure Pt (B : Nat) (w : World) (k : Nat) (M : Nat → List Itm) (mv : Nat → Value) (G : Nat → Nat) : Prop where
  blk : ∀ i, i < k → Blk w (G i) TI ((laid (M i)).flatMap Itm.cells)
  low : ∀ i, i < k → B ≤ G i
  ne : ∀ i j, i < k → j < k → i ≠ j → G i ≠ G j
  mine : ∀ i, i < k → ∃ A c, mv i = .slice A (M i).length c ∧ Rd B w A ((M i).flatMap Itm.cells)
def ivOf (G : Nat → Nat) (M : Nat → List Itm) (i : Nat) : Value := .slice (some ⟨G i, 0, none⟩) (M i).length ((M i).length + 40)
def fvOf (G : Nat → Nat) (M : Nat → List Itm) (i : Nat) : Value := .slice (some ⟨G i, 0, none⟩) ((M i).length + 40) ((M i).length + 40)
section
variable {B k : Nat} {w w' : World} {M : Nat → List Itm} {mv : Nat → Value} {G : Nat → Nat}
theorem Pt.below (h : Pt B w k M mv G) (hb : Below w.heap.size w w') : Pt B w' k M mv G :=
  ⟨fun i hi => (h.blk i hi).grow hb, h.low, h.ne, fun i hi => by obtain ⟨A, c, e, hr⟩ := h.mine i hi; exact ⟨A, c, e, hr.below hb⟩⟩
theorem Pt.grown (h : Pt B w k M mv G) {v : Value} {n : Nat} {ys : List Value} (ho : w.ownsRow B TT 1 v n ys) (hg : w.grownBy w' v.ownBlock) (hB : B ≤ w.heap.size) : Pt B w' k M mv G :=
  ⟨fun i hi => (h.blk i hi).grown hg (fun e => own_ne_blk ho (h.blk i hi) (by decide) e.symm), h.low, h.ne, fun i hi => by obtain ⟨A, c, e, hr⟩ := h.mine i hi; exact ⟨A, c, e, hr.grown ho hg hB⟩⟩
theorem Pt.add (h : Pt B w k M mv G) (hb : Below w.heap.size w w') {v : Value} {l : List Itm} (hB : B ≤ w.heap.size) (hg : Blk w' w.heap.size TI ((laid l).flatMap Itm.cells)) {A : Option Addr} {c : Nat} (hv : v = .slice A l.length c) (hr : Rd B w' A (l.flatMap Itm.cells)) :
    Pt B w' (k + 1) (fupd M k l) (fupd mv k v) (fupd G k w.heap.size) := by
  have h' := h.below hb
  refine ⟨fun i hi => ?_, fun i hi => ?_, fun i j hi hj hne => ?_, fun i hi => ?_⟩
  · by_cases e : i = k
    · subst e; rw [fupd_same, fupd_same]; exact hg
    · rw [fupd_ne _ _ e, fupd_ne _ _ e]; exact h'.blk i (by omega)
  · by_cases e : i = k
    · subst e; rw [fupd_same]; exact hB
    · rw [fupd_ne _ _ e]; exact h.low i (by omega)
  · by_cases e : i = k
    · subst e
      rw [fupd_same, fupd_ne _ _ (fun e => hne e.symm)]
      have := (h.blk j (by omega)).lt
      omega
    · rw [fupd_ne _ _ e]
      by_cases e2 : j = k
      · subst e2; rw [fupd_same]; have := (h.blk i (by omega)).lt; omega
      · rw [fupd_ne _ _ e2]; exact h.ne i j (by omega) (by omega) hne
  · by_cases e : i = k
    · subst e; rw [fupd_same, fupd_same]; exact ⟨A, c, hv, hr⟩
    · rw [fupd_ne _ _ e, fupd_ne _ _ e]; exact h'.mine i (by omega)
theorem ivOf_fupd (l : List Itm) (g : Nat) : ∀ i, ivOf (fupd G k g) (fupd M k l) i = fupd (ivOf G M) k (.slice (some ⟨g, 0, none⟩) l.length (l.length + 40)) i := fun i => by
  unfold ivOf
  by_cases e : i = k
  · subst e; simp only [fupd_same]
  · simp only [fupd_ne _ _ e]
theorem fvOf_fupd (l : List Itm) (g : Nat) : ∀ i, fvOf (fupd G k g) (fupd M k l) i = fupd (fvOf G M) k (.slice (some ⟨g, 0, none⟩) (l.length + 40) (l.length + 40)) i := fun i => by
  unfold fvOf
  by_cases e : i = k
  · subst e; simp only [fupd_same]
  · simp only [fupd_ne _ _ e]
theorem Pt.inRV (h : Pt B w k M mv G) {i : Nat} (hi : i < k) : RV w (some ⟨G i, 0, none⟩) ((M i).flatMap Itm.cells) := by
  have := rv_items_to ((h.blk i hi).rv) (M i).length
  rw [laid_take] at this
  exact this
end
/-- three lists of lists under way at once -/
structure Tri (B : Nat) (w : World) (u v x : Value) (xs ys zs : List Value) : Prop where
  o1 : w.ownsRow B TT 1 u xs.length xs
  o2 : w.ownsRow B TT 1 v ys.length ys
  o3 : w.ownsRow B TT 1 x zs.length zs
  f12 : Far u v
  f13 : Far u x
  f23 : Far v x
section
variable {B : Nat} {w w' : World} {u v x u' : Value} {xs ys zs : List Value} {a : Value}
theorem Tri.below (h : Tri B w u v x xs ys zs) (hb : Below w.heap.size w w') : Tri B w' u v x xs ys zs :=
  ⟨own_below'' h.o1 hb, own_below'' h.o2 hb, own_below'' h.o3 hb, h.f12, h.f13, h.f23⟩
theorem Tri.push1 (h : Tri B w u v x xs ys zs) (ho : w'.ownsRow B TT 1 u' (xs.length + 1) (xs ++ [a])) (hv : u'.ownBlock = u.ownBlock ∨ u'.ownBlock = some w.heap.size) (hk : Keeps w w' TT 1 u xs.length) : Tri B w' u' v x (xs ++ [a]) ys zs :=
  ⟨by rw [List.length_append]; exact ho, hk _ _ _ _ h.o2 (far_or h.o2 h.f12 _), hk _ _ _ _ h.o3 (far_or h.o3 h.f13 _), h.f12.next h.o2 hv, h.f13.next h.o3 hv, h.f23⟩
theorem Tri.push2 (h : Tri B w u v x xs ys zs) (ho : w'.ownsRow B TT 1 u' (ys.length + 1) (ys ++ [a])) (hv : u'.ownBlock = v.ownBlock ∨ u'.ownBlock = some w.heap.size) (hk : Keeps w w' TT 1 v ys.length) : Tri B w' u u' x xs (ys ++ [a]) zs :=
  ⟨hk _ _ _ _ h.o1 (far_or h.o1 h.f12.symm _), by rw [List.length_append]; exact ho, hk _ _ _ _ h.o3 (far_or h.o3 h.f23 _), (h.f12.symm.next h.o1 hv).symm, h.f13, h.f23.next h.o3 hv⟩
theorem Tri.push3 (h : Tri B w u v x xs ys zs) (ho : w'.ownsRow B TT 1 u' (zs.length + 1) (zs ++ [a])) (hv : u'.ownBlock = x.ownBlock ∨ u'.ownBlock = some w.heap.size) (hk : Keeps w w' TT 1 x zs.length) : Tri B w' u v u' xs ys (zs ++ [a]) :=
  ⟨hk _ _ _ _ h.o1 (far_or h.o1 h.f13.symm _), hk _ _ _ _ h.o2 (far_or h.o2 h.f23.symm _), by rw [List.length_append]; exact ho, h.f12, (h.f13.symm.next h.o1 hv).symm, (h.f23.symm.next h.o2 hv).symm⟩
end
theorem map_snoc {f g : Nat → Value} {k : Nat} {v : Value} (h : ∀ i, g i = fupd f k v i) : (List.range k).map f ++ [v] = (List.range (k + 1)).map g := by
  rw [← range_snoc]
  exact List.map_congr_left fun i _ => (h i).symm
/-- the lists as one list of lists -/
def listsOf (M : Nat → List Itm) (N : Nat) : List (List Itm) := (List.range N).map M
theorem listsOf_len (M : Nat → List Itm) (N : Nat) : (listsOf M N).length = N := by unfold listsOf; simp
theorem listsOf_nth (M : Nat → List Itm) {N i : Nat} (h : i < N) : nth (listsOf M N) i = M i := by
  rw [nth_eq (by rw [listsOf_len]; exact h)]
  unfold listsOf
  simp
theorem mergeF_len (lt : Itm → Itm → Bool) (ls : List (List Itm)) : ∀ (n : Nat) (ats : List Nat), (mergeF lt ls n ats).length ≤ n
  | 0, _ => by simp [mergeF]
  | n + 1, ats => by
    rw [mergeF]
    split
    · simp
    · have := mergeF_len lt ls n
      simp only [List.length_cons]
      exact Nat.succ_le_succ (this _)
theorem merged_len (lt : Itm → Itm → Bool) (ls : List (List Itm)) : (merged lt ls).length ≤ total ls := mergeF_len lt ls _ _
theorem total_of (M : Nat → List Itm) {N : Nat} {ls : List (List Itm)} (hN : N = ls.length) (h : ∀ i, i < N → (M i).length = (nth ls i).length) : total (listsOf M N) = total ls := by
  unfold total listsOf
  congr 1
  refine List.ext_getElem (by simp [hN]) fun i h1 h2 => ?_
  simp only [List.getElem_map, List.getElem_range]
  have hi : i < N := by simpa using h1
  rw [h i hi, nth_eq (by omega)]
theorem Pt.lists {B k : Nat} {w : World} {M : Nat → List Itm} {mv : Nat → Value} {G : Nat → Nat} (h : Pt B w k M mv G) : Lists w mv (listsOf M k) k := fun i hi => by
  obtain ⟨A, c, e, hr⟩ := h.mine i hi
  rw [listsOf_nth M hi]
  exact ⟨A, c, e, hr.1⟩
theorem own_rvk {w : World} {B k n c : Nat} {A : Option Addr} {f : Nat → Value} (h : w.ownsRow B TT 1 (.slice A n c) ((List.range k).map f).length ((List.range k).map f)) : RV w A ((List.range k).map f) := by
  obtain ⟨A', n', c', e, hn⟩ := own_form h
  injection e with e1 e2 e3
  subst e1 e2 e3 hn
  exact own_rv h
/-- the lists whose keys are being turned: those before k, and k's first j -/
def Yn (M : Nat → List Itm) (k j : Nat) : Nat → List Itm := fun i => if i < k then (M i).map negI else if i = k then ngd (M k) j else M i
theorem yn_zero (M : Nat → List Itm) : Yn M 0 0 = M := by
  funext i
  unfold Yn
  by_cases h : i = 0
  · subst h; simp [ngd_zero]
  · simp [h]
theorem yn_self (M : Nat → List Itm) (k j : Nat) : Yn M k j k = ngd (M k) j := by unfold Yn; simp
theorem yn_ne (M : Nat → List Itm) {k i : Nat} (j j' : Nat) (h : i ≠ k) : Yn M k j i = Yn M k j' i := by unfold Yn; simp [h]
theorem yn_next (M : Nat → List Itm) (k : Nat) : Yn M k (M k).length = Yn M (k + 1) 0 := by
  funext i
  unfold Yn
  by_cases h : i < k
  · rw [if_pos h, if_pos (by omega)]
  · rw [if_neg h]
    by_cases e : i = k
    · subst e
      rw [if_pos rfl, if_pos (Nat.lt_succ_self i), ngd_done _ rfl]
    · rw [if_neg e, if_neg (by omega)]
      by_cases e2 : i = k + 1
      · subst e2; rw [if_pos rfl, ngd_zero]
      · rw [if_neg e2]
theorem yn_done (M : Nat → List Itm) {N i : Nat} (h : i < N) : Yn M N 0 i = (M i).map negI := by unfold Yn; rw [if_pos h]
theorem yn_len (M : Nat → List Itm) (k j i : Nat) : (Yn M k j i).length = (M i).length := by
  unfold Yn
  split
  · simp
  · split
    · rename_i h; subst h; rw [ngd_len]
    · rfl
/-- the put lists' blocks while the keys are turned -/
structure Ng (w0 w : World) (N : Nat) (M : Nat → List Itm) (G : Nat → Nat) (k j : Nat) : Prop where
  blk : ∀ i, i < N → Blk w (G i) TI ((Yn M k j i ++ List.replicate 40 mark).flatMap Itm.cells)
  gr : GrownS w0 w (fun b => ∃ i, i < N ∧ b = G i)
theorem Ng.step {w0 w : World} {N : Nat} {M : Nat → List Itm} {G : Nat → Nat} {k j : Nat} (h : Ng w0 w N M G k j) (hne : ∀ i j, i < N → j < N → i ≠ j → G i ≠ G j) (hk : k < N) (hj : j < (M k).length) :
    Ng w0 (w.setCell ⟨G k, j * 2, none⟩ (.int .i64 (wrap64 (-((M k)[j]).1)))) N M G k (j + 1) := by
  refine ⟨fun i hi => ?_, h.gr.step (grown_set w (G k) (j * 2) _) (fun b e => .inl ⟨k, hk, by injection e with e; exact e.symm⟩)⟩
  by_cases e : i = k
  · subst e
    have hb := (h.blk i hi).set_ (j * 2) (.int .i64 (wrap64 (-((M i)[j]).1)))
    rw [yn_self, ngd_step (M i) hj] at hb
    rw [yn_self]
    exact hb
  · have hb := (h.blk i hi).far (p := ⟨G k, j * 2, none⟩) (hne i k hi hk e) (.int .i64 (wrap64 (-((M k)[j]).1)))
    rw [yn_ne M j (j + 1) e] at hb
    exact hb
theorem Ng.below {w0 w w' : World} {N : Nat} {M : Nat → List Itm} {G : Nat → Nat} {k j : Nat} (h : Ng w0 w N M G k j) (hb : Below w.heap.size w w') : Ng w0 w' N M G k j :=
  ⟨fun i hi => (h.blk i hi).grow hb, h.gr.below hb⟩
theorem ivOf_neg (G : Nat → Nat) (M : Nat → List Itm) (i : Nat) : ivOf G (fun i => (M i).map negI) i = ivOf G M i := by unfold ivOf; simp
theorem merge_I {lt : Itm → Itm → Bool} (so : Swo lt) {fv : Value} (W : World) (hF : FvOk thI W fv lt fun _ => True) (A : Option Addr) (N cl : Nat) (M : Nat → List Itm) (G : Nat → Nat) (hr : RV W A ((List.range N).map (ivOf G M))) (hM : ∀ i, i < N → RV W (some ⟨G i, 0, none⟩) ((M i).flatMap Itm.cells)) (hNb : N ≤ 1048576) (ht : total (listsOf M N) ≤ 1073741824) :
    Calls Try.prog 27 #[fv, .slice A N cl] W fun e W' => ∃ v, e = .returned v ∧ W'.ownsRow W.heap.size TI 2 v (merged lt (listsOf M N)).length ((merged lt (listsOf M N)).flatMap Itm.cells) ∧ Below W.heap.size W W' :=
  merge_any (th := thI) (ls := listsOf M N) (G := G) (c := fun i => (M i).length + 40) so W A N cl (ivOf G M) fv (listsOf_len M N).symm hr
    (fun i hi => by rw [listsOf_nth M hi]; exact ⟨⟨_, rfl⟩, fun _ => rfl⟩)
    (fun i hi hp => by
      have hi' : i < N := by rw [← listsOf_len M N]; exact hi
      rw [listsOf_nth M hi']
      exact ⟨hM i hi', by simp⟩) hF ht hNb
end Go.Proofs.Ytdebokambldbbaa.LawP
