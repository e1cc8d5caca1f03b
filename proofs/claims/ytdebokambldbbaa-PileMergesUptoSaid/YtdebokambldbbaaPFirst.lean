/- weirref07.less and First: what they answer. -/
import Derived.Test.YtdebokambldbbaaPNil
namespace Go.Proofs.Ytdebokambldbbaa.LawP
open Go.RowKit Go.Shelf Go.Proofs.Ytdebokambldbbaa.Mem Go.Proofs.Ytdebokambldbbaa.Heap Go.Proofs.Ytdebokambldbbaa.Pile Go.Proofs.Ytdebokambldbbaa.PileI
set_option linter.unusedVariables false
set_option linter.unusedSectionVars false
set_option maxRecDepth 4000
set_option maxHeartbeats 6400000

/-- the less, or none -/
def ltF (flat : Bool) (a b : Itm) : Bool := !flat && decide (a.1 < b.1)
theorem ltF_false : ltF false = ltK := by funext a b; rfl
theorem ltF_true : ltF true = fun _ _ => false := by funext a b; rfl
theorem swo_ltK : Swo ltK := by
  refine ⟨fun a => by simp [ltK], ?_, ?_⟩
  · intro a b c h1 h2; simp [ltK] at *; omega
  · intro a b h; simp [ltK] at *; omega
theorem swo_ltF (flat : Bool) : Swo (ltF flat) := by
  cases flat
  · rw [ltF_false]; exact swo_ltK
  · rw [ltF_true]; exact swo_flat
theorem less2_any (a b : Itm) (flat : Bool) (W : World) : Calls Try.prog 43 #[.agg #[.int .i64 a.1, .int .i64 a.2], .agg #[.int .i64 b.1, .int .i64 b.2], .bool flat] W fun e W' => e = .returned (.bool (ltF flat a b)) ∧ Below W.heap.size W W' := by
  unfold ltF
  cases flat
  · go_enter Try.func43, Try.ntmps43
    go_wp2
    go_ret
    exact ⟨rfl, ga (ga (gr W) _) _⟩
  · go_enter Try.func43, Try.ntmps43
    go_wp2
    go_ret
    exact ⟨rfl, ga (ga (gr W) _) _⟩
theorem item_gen {W : World} {A : Option Addr} {l : List Itm} (h : RV W A (l.flatMap Itm.cells)) {k : Nat} (hk : k < l.length) : ∃ ad, A = some ad ∧ W.cell? (ad.add (k * 2)) = some (.int .i64 l[k].1) ∧ W.cell? ⟨(ad.add (k * 2)).block, (ad.add (k * 2)).off + 1, none⟩ = some (.int .i64 l[k].2) := by
  obtain ⟨ad, rfl, hc⟩ := rv_at (th := thI) h hk
  exact ⟨ad, rfl, hc 0 _ rfl, cell_next (n := k * 2) (j := 0) (hc 1 _ rfl)⟩
/-- the place as a number -/
def fi : Option Nat → Int
  | none => -1
  | some b => (b : Int)
theorem firstF_none {lt : Itm → Itm → Bool} {l : List Itm} {k : Nat} (h : firstF lt l k = none) : firstF lt l (k + 1) = some k := by rw [firstF, h]
theorem firstF_some {lt : Itm → Itm → Bool} {l : List Itm} {k b : Nat} (h : firstF lt l k = some b) : firstF lt l (k + 1) = if lt (nth l k) (nth l b) then some k else some b := by rw [firstF, h]
theorem first_any (A : Option Addr) (n c : Nat) (l : List Itm) (flat : Bool) (W : World) (hr : RV W A (l.flatMap Itm.cells)) (hn : n = l.length) (hl : l.length ≤ 1099511627776) :
    Calls Try.prog 13 #[.slice A n c, .bool flat] W fun e W' => e = .returned (.int .i64 (fi (first (ltF flat) l))) ∧ Below W.heap.size W W' := by
  have H0 := Lib.hid (And.intro hr (And.intro hn hl))
  clear hr hn hl
  go_enter Try.func13, Try.ntmps13
  go_wp2
  go_loopw [6, 5] (fun v6 v5 wr => ∃ k : Nat, k ≤ n ∧ v6 = .int .i64 k ∧ v5 = .int .i64 (fi (firstF (ltF flat) l k)) ∧ Below W.heap.size W wr) (fun v _ _ => n - (intOf v).toNat)
  case atStart => exact ⟨0, Nat.zero_le _, rfl, rfl, gr W⟩
  case round =>
    obtain ⟨k, hk, rfl, rfl, hb⟩ := hrel
    by_cases hlt : k < n
    · have hkl : k < l.length := by rw [← H0.out.2.1]; exact hlt
      obtain ⟨ad, rfl, c1, c2⟩ := item_gen (H0.out.1.below hb) hkl
      have hki : (k : Int) < (n : Int) := by omega
      have hk0 : (0 : Int) ≤ (k : Int) := by omega
      have q7 : wrap64 ((k : Int) + 1) = (k : Int) + 1 := wrap_in (by omega) (by have h1 := H0.out.2.1; have h2 := H0.out.2.2; omega)
      have hspec := firstF_spec (swo_ltF flat) l k (Nat.le_of_lt hkl)
      rcases hspec with ⟨h0, hno⟩ | ⟨b, hb1, hb2, _, _⟩
      · have hstep := firstF_none hno
        rw [hno]
        clear c1 c2
        have Z := Lib.hid (And.intro hlt (And.intro hb hstep))
        clear hlt hb hstep hkl h0 hno hk
        simp only [fi]
        go_wp2
        try simp only [Act.put, List.setIfInBounds_toArray, List.set_cons_succ, List.set_cons_zero]
        refine wp_region_qb (by kernel_rfl) (by kernel_rfl) ?_
        refine wq_val (o := ⟨some 13, _, _, _, _, _⟩) (v := .int .i64 (-1)) rfl (fun w' hC => by go_simp) ?_
        simp only [Act.put, List.setIfInBounds_toArray, List.set_cons_succ, List.set_cons_zero]
        refine wq_val (o := ⟨some 14, _, _, _, _, _⟩) (v := .bool true) rfl (fun w' hC => by go_simp) ?_
        simp only [Act.put, List.setIfInBounds_toArray, List.set_cons_succ, List.set_cons_zero]
        refine wq_val (o := ⟨some 15, _, _, _, _, _⟩) (v := .bool true) rfl (fun w' hC => by go_simp) ?_
        simp only [Act.put, List.setIfInBounds_toArray, List.set_cons_succ, List.set_cons_zero]
        go_big_quiet_step (fail)
        go_big_quiet_step (fail)
        go_big_quiet_step (fail)
        go_big_quiet_step (fail)
        go_big_quiet_step (fail)
        go_big_quiet_step (fail)
        go_big_quiet_step (fail)
        go_big_quiet_step (fail)
        go_big_quiet_step (fail)
        go_big_quiet_step (fail)
        refine wq_val (o := ⟨some 26, _, _, _, _, _⟩) (v := .bool true) rfl (fun w' hC => by go_simp) ?_
        simp only [Act.put, List.setIfInBounds_toArray, List.set_cons_succ, List.set_cons_zero]
        refine wpQuiet_nil ?_
        intro w8 hC8
        go_wp2
        go_roundw
        case rel => exact ⟨k + 1, Z.out.1, by go_num, by rw [Z.out.2.2]; (first | done | rfl), gt Z.out.2.1 hC8⟩
        case measure =>
          rw [q7]
          exact meas_in Z.out.1
      · have hstep := firstF_some hb1
        rw [hb1]
        have hbl : b < l.length := by omega
        obtain ⟨ad', e', d1, d2⟩ := item_gen (H0.out.1.below hb) hbl
        injection e' with e'
        subst e'
        have hbi : (b : Int) < (n : Int) := by omega
        have hb0 : (0 : Int) ≤ (b : Int) := by omega
        have hbn : ¬ ((b : Int) < 0) := by omega
        obtain ⟨x, hx⟩ : ∃ x, x = l[k] := ⟨_, rfl⟩
        obtain ⟨y, hy⟩ : ∃ y, y = l[b] := ⟨_, rfl⟩
        rw [← hx] at c1 c2
        rw [← hy] at d1 d2
        simp only [nth_eq hkl, nth_eq hbl, ← hx, ← hy] at hstep
        have Z := Lib.hid (And.intro hlt (And.intro hb hstep))
        clear hlt hb hstep hkl hbl hx hy hk hb1 hb2
        obtain ⟨x1, x2⟩ := x
        obtain ⟨y1, y2⟩ := y
        simp only at c1 c2 d1 d2
        simp only [fi]
        go_wp2
        try simp only [Act.put, List.setIfInBounds_toArray, List.set_cons_succ, List.set_cons_zero]
        refine wp_region_qb (by kernel_rfl) (by kernel_rfl) ?_
        refine wq_val (o := ⟨some 13, _, _, _, _, _⟩) (v := .int .i64 b) rfl (fun w' hC => by go_simp) ?_
        simp only [Act.put, List.setIfInBounds_toArray, List.set_cons_succ, List.set_cons_zero]
        refine wq_val (o := ⟨some 14, _, _, _, _, _⟩) (v := .bool false) rfl (fun w' hC => by go_simp) ?_
        simp only [Act.put, List.setIfInBounds_toArray, List.set_cons_succ, List.set_cons_zero]
        refine wq_val (o := ⟨some 15, _, _, _, _, _⟩) (v := .bool false) rfl (fun w' hC => by go_simp) ?_
        simp only [Act.put, List.setIfInBounds_toArray, List.set_cons_succ, List.set_cons_zero]
        refine wq_val (o := ⟨some 16, _, _, _, _, _⟩) (v := .slice (some ad) n c) rfl (fun w' hC => by go_simp) ?_
        simp only [Act.put, List.setIfInBounds_toArray, List.set_cons_succ, List.set_cons_zero]
        refine wq_val (o := ⟨some 17, _, _, _, _, _⟩) (v := .int .i64 k) rfl (fun w' hC => by go_simp) ?_
        simp only [Act.put, List.setIfInBounds_toArray, List.set_cons_succ, List.set_cons_zero]
        refine wq_val (o := ⟨some 18, _, _, _, _, _⟩) (v := .pointer (some (ad.add (k * 2)))) rfl (fun w' hC => by go_simp) ?_
        simp only [Act.put, List.setIfInBounds_toArray, List.set_cons_succ, List.set_cons_zero]
        refine wq_val (o := ⟨some 19, _, _, _, _, _⟩) (v := .agg #[.int .i64 x1, .int .i64 x2]) rfl (fun w' hC => by have q1 := cell_grow c1 hC; have q2 := cell_grow c2 hC; go_simp) ?_
        simp only [Act.put, List.setIfInBounds_toArray, List.set_cons_succ, List.set_cons_zero]
        refine wq_val (o := ⟨some 20, _, _, _, _, _⟩) (v := .slice (some ad) n c) rfl (fun w' hC => by go_simp) ?_
        simp only [Act.put, List.setIfInBounds_toArray, List.set_cons_succ, List.set_cons_zero]
        refine wq_val (o := ⟨some 21, _, _, _, _, _⟩) (v := .int .i64 b) rfl (fun w' hC => by go_simp) ?_
        simp only [Act.put, List.setIfInBounds_toArray, List.set_cons_succ, List.set_cons_zero]
        refine wq_val (o := ⟨some 22, _, _, _, _, _⟩) (v := .pointer (some (ad.add (b * 2)))) rfl (fun w' hC => by go_simp) ?_
        simp only [Act.put, List.setIfInBounds_toArray, List.set_cons_succ, List.set_cons_zero]
        refine wq_val (o := ⟨some 23, _, _, _, _, _⟩) (v := .agg #[.int .i64 y1, .int .i64 y2]) rfl (fun w' hC => by have q1 := cell_grow d1 hC; have q2 := cell_grow d2 hC; go_simp) ?_
        simp only [Act.put, List.setIfInBounds_toArray, List.set_cons_succ, List.set_cons_zero]
        refine wq_val (o := ⟨some 24, _, _, _, _, _⟩) (v := .bool flat) rfl (fun w' hC => by go_simp) ?_
        simp only [Act.put, List.setIfInBounds_toArray, List.set_cons_succ, List.set_cons_zero]
        refine wq_call (f := 43) (args := #[.agg #[.int .i64 x1, .int .i64 x2], .agg #[.int .i64 y1, .int .i64 y2], .bool flat]) (v := .bool (ltF flat (x1, x2) (y1, y2))) rfl (fun w' _ => by go_simp) (fun w' hC => ?_) ?_
        · exact less2_any (x1, x2) (y1, y2) flat w'
        simp only [Act.put, List.setIfInBounds_toArray, List.set_cons_succ, List.set_cons_zero]
        refine wq_val (o := ⟨some 26, _, _, _, _, _⟩) (v := .bool (ltF flat (x1, x2) (y1, y2))) rfl (fun w' hC => by go_simp) ?_
        simp only [Act.put, List.setIfInBounds_toArray, List.set_cons_succ, List.set_cons_zero]
        refine wpQuiet_nil ?_
        intro w8 hC8
        cases hq : ltF flat (x1, x2) (y1, y2) with
        | true =>
          go_wp2
          go_roundw
          case rel => exact ⟨k + 1, Z.out.1, by go_num, by rw [Z.out.2.2, hq]; rfl, gt Z.out.2.1 hC8⟩
          case measure =>
            rw [q7]
            exact meas_in Z.out.1
        | false =>
          go_wp2
          go_roundw
          case rel => exact ⟨k + 1, Z.out.1, by go_num, by rw [Z.out.2.2, hq]; rfl, gt Z.out.2.1 hC8⟩
          case measure =>
            rw [q7]
            exact meas_in Z.out.1
    · obtain rfl : n = k := by omega
      have X := Lib.hid hb
      have hf : firstF (ltF flat) l n = first (ltF flat) l := by unfold first; rw [H0.out.2.1]
      rw [hf]
      clear hk hlt hb
      go_wp2
      go_ret
      exact ⟨rfl, X.out⟩
end Go.Proofs.Ytdebokambldbbaa.LawP
