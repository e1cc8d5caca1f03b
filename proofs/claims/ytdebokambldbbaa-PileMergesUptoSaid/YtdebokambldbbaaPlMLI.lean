/- pile over I: the less that Merge hands to its pile of heads. -/
import Derived.Test.YtdebokambldbbaaPlSI
import Derived.Test.YtdebokambldbbaaPlDH
import Derived.Test.YtdebokambldbbaaBuildN
import Derived.Test.YtdebokambldbbaaPileMerge2
namespace Go.Proofs.Ytdebokambldbbaa.PileI
open Go.RowKit Go.Shelf Go.Proofs.Ytdebokambldbbaa.Mem Go.Proofs.Ytdebokambldbbaa.Heap Go.Proofs.Ytdebokambldbbaa.Pile
set_option linter.unusedVariables false
set_option linter.unusedSectionVars false
set_option maxRecDepth 4000
set_option maxHeartbeats 3200000

section
variable {β : Type} [Inhabited β] {th : Th β 2}
/-- the head (i, a): what is left of list i behind a things, and i -/
def thM (ls : List (List β)) (G c : Nat → Nat) : Th (Nat × Nat) 2 := ⟨fun q => [.slice (some ⟨G q.1, q.2 * 2, none⟩) ((nth ls q.1).length - q.2) (c q.1 - q.2), .int .i64 q.1], fun _ => rfl, fun q u hu => by
  simp at hu
  rcases hu with rfl | rfl <;> rfl⟩
/-- the lists lie in memory -/
def LSok (th : Th β 2) (W : World) (ls : List (List β)) (G c : Nat → Nat) : Prop := ∀ i, i < ls.length → 0 < (nth ls i).length → RV W (some ⟨G i, 0, none⟩) ((nth ls i).flatMap th.cells) ∧ (nth ls i).length ≤ c i
theorem LSok.below {W W' : World} {ls : List (List β)} {G c : Nat → Nat} (h : LSok th W ls G c) (hb : Below W.heap.size W W') : LSok th W' ls G c := fun i hi hp => ⟨(h i hi hp).1.below hb, (h i hi hp).2⟩
theorem LSok.load {W : World} {ls : List (List β)} {G c : Nat → Nat} (h : LSok th W ls G c) {i a : Nat} (hi : i < ls.length) (ha : a < (nth ls i).length) : (Instr.loadAt 35 (.pointer (some ⟨G i, a * 2, none⟩))).run Try.prog W = .ok (vl th (cellAt ls i a)) W := by
  obtain ⟨hr, _⟩ := h i hi (by omega)
  obtain ⟨ad, hA, hc⟩ := rv_at (th := th) hr ha
  injection hA with hA
  subst hA
  have := load_rv ha hc
  have e : vl th (nth ls i)[a] = vl th (cellAt ls i a) := by unfold cellAt; rw [nth_eq ha]
  rw [e] at this
  rw [Nat.zero_add] at this
  exact this
theorem flatM_less {B : Nat} {w0 : World} {D : β → Prop} : Less Try.prog B w0 (vl th) D (.func (.func 49) #[] #[]) (fun _ _ => false) := by
  refine ⟨49, #[], rfl, enters_of Try.func49 (by kernel_rfl) rfl, fun W a b _ _ _ => ?_⟩
  simp only [Array.append_empty]
  go_enter Try.func49, Try.ntmps49
  go_wp2_with (first
    | ((with_reducible show wpList _ _ _ (⟨some 2, _, _, _, _, _⟩ :: _) _ _); go_must (refine wpList_boxT (th := th) (o := ⟨some 2, _, _, _, _, _⟩) rfl (.tmp 0) rfl a (by go_simp) _ rfl ?_); intro w1 hB1 hb1 hz1)
    | ((with_reducible show wpList _ _ _ (⟨some 3, _, _, _, _, _⟩ :: _) _ _); go_must (refine wpList_boxT (th := th) (o := ⟨some 3, _, _, _, _, _⟩) rfl (.tmp 1) rfl b (by go_simp) _ rfl ?_); intro w2 hB2 hb2 hz2))
  go_ret
  exact ⟨rfl, gt hb1 hb2⟩
theorem Less_monoM {B B' : Nat} {w0 w0' : World} {D : β → Prop} {fv : Value} {lt : β → β → Bool} (h : Less Try.prog B w0 (vl th) D fv lt) (hb : Below B w0 w0') (hB : B ≤ B') : Less Try.prog B' w0' (vl th) D fv lt := by
  obtain ⟨g, lb, e, eg, hc⟩ := h.ex
  exact ⟨g, lb, e, eg, fun W a b hW => hc W a b (hb.trans (hW.mono hB))⟩
def headOk (ls : List (List β)) (q : Nat × Nat) : Prop := q.1 < ls.length ∧ q.2 < (nth ls q.1).length
theorem boxed_by0 {W W' : World} {b : Nat} {T : TypeId} {v : Value} (hB : Boxed W b T v) (hb : Below W.heap.size W W') : Boxed W' b T v := (hb.block b hB.lt).trans hB
theorem merge_less {bx : Nat} {w0 : World} {fv : Value} {lt : β → β → Bool} {ls : List (List β)} {G c : Nat → Nat} (hL : Less Try.prog w0.heap.size w0 (vl th) (fun _ => True) fv lt) (hbx : Boxed w0 bx 50 fv) (hS : LSok th w0 ls G c) :
    Less Try.prog w0.heap.size w0 (PileH.vl (thM ls G c)) (headOk ls) (.func (.func 51) #[] #[.pointer (some ⟨bx, 0, none⟩)]) (hlt lt ls) := by
  obtain ⟨gl, lb, rfl, egl, hcall⟩ := hL.ex
  refine ⟨51, #[.pointer (some ⟨bx, 0, none⟩)], rfl, enters_of Try.func51 (by kernel_rfl) rfl, fun W p q hW dp dq => ?_⟩
  have hbW : ∀ w, Below W.heap.size W w → w.cell? ⟨bx, 0, none⟩ = some (.func (.func gl) #[] lb) := fun w hb => (boxed_by0 (boxed_by0 hbx hW) hb).cell
  have hSW := hS.below hW
  obtain ⟨p1, p2⟩ := p
  obtain ⟨q1, q2⟩ := q
  obtain ⟨hp1, hp2⟩ := dp
  obtain ⟨hq1, hq2⟩ := dq
  simp only at hp1 hp2 hq1 hq2
  obtain ⟨x, hx⟩ : ∃ x, x = cellAt ls p1 p2 := ⟨_, rfl⟩
  obtain ⟨y, hy⟩ : ∃ y, y = cellAt ls q1 q2 := ⟨_, rfl⟩
  have ldp : ∀ w, Below W.heap.size W w → (Instr.loadAt 35 (.pointer (some ⟨G p1, p2 * 2, none⟩))).run Try.prog w = .ok (vl th x) w := fun w hb => by rw [hx]; exact (hSW.below hb).load hp1 hp2
  have ldq : ∀ w, Below W.heap.size W w → (Instr.loadAt 35 (.pointer (some ⟨G q1, q2 * 2, none⟩))).run Try.prog w = .ok (vl th y) w := fun w hb => by rw [hy]; exact (hSW.below hb).load hq1 hq2
  obtain ⟨lp, hlp⟩ : ∃ lp, lp = (nth ls p1).length - p2 := ⟨_, rfl⟩
  obtain ⟨lq, hlq⟩ : ∃ lq, lq = (nth ls q1).length - q2 := ⟨_, rfl⟩
  obtain ⟨cp, hcp⟩ : ∃ cp, cp = c p1 - p2 := ⟨_, rfl⟩
  obtain ⟨cq, hcq⟩ : ∃ cq, cq = c q1 - q2 := ⟨_, rfl⟩
  have cellp : ∀ (w : World) (g : Nat), Blk w g 86 ((thM ls G c).cells (p1, p2)) → w.cell? ⟨g, 0, none⟩ = some (.slice (some ⟨G p1, p2 * 2, none⟩) lp cp) ∧ w.cell? ⟨g, 1, none⟩ = some (.int .i64 p1) := fun w g h => ⟨by rw [h.cell, hlp, hcp]; rfl, by rw [h.cell]; rfl⟩
  have cellq : ∀ (w : World) (g : Nat), Blk w g 86 ((thM ls G c).cells (q1, q2)) → w.cell? ⟨g, 0, none⟩ = some (.slice (some ⟨G q1, q2 * 2, none⟩) lq cq) ∧ w.cell? ⟨g, 1, none⟩ = some (.int .i64 q1) := fun w g h => ⟨by rw [h.cell, hlq, hcq]; rfl, by rw [h.cell]; rfl⟩
  have hl1 : ¬ lp = 0 := by omega
  have hl2 : ¬ lq = 0 := by omega
  have F := Lib.hid (And.intro hbW (And.intro ldp (And.intro ldq (And.intro cellp cellq))))
  have HC := Lib.hid (And.intro hcall hW)
  have ea : hlt lt ls (p1, p2) (q1, q2) = Heap.ahead lt (x, p1) (y, q1) := by rw [hx, hy]; rfl
  rw [ea]
  clear ea hcall hbx hW hL hS hSW hbW ldp ldq cellp cellq hp1 hp2 hq1 hq2 hx hy hlp hlq hcp hcq
  cases h1_ : lt x y with
  | true =>
    have e1 : Heap.ahead lt (x, p1) (y, q1) = true := by unfold Heap.ahead; rw [h1_]; rfl
    rw [e1]
    have K1 := Lib.hid h1_
    clear e1 h1_
    go_enter Try.func51, Try.ntmps51
    go_wp2_with (first
      | ((with_reducible show wpList _ _ _ (⟨some 3, _, _, _, _, _⟩ :: _) _ _)
         go_must (refine PileH.wpList_boxT (th := (thM ls G c)) (o := ⟨some 3, _, _, _, _, _⟩) rfl (.tmp 0) rfl (p1, p2) (by go_simp) _ rfl ?_)
         intro w1 hB1 hb1 hz1)
      | ((with_reducible show wpList _ _ _ (⟨some 4, _, _, _, _, _⟩ :: _) _ _)
         go_must (refine PileH.wpList_boxT (th := (thM ls G c)) (o := ⟨some 4, _, _, _, _, _⟩) rfl (.tmp 1) rfl (q1, q2) (by go_simp) _ rfl ?_)
         intro w2 hB2 hb2 hz2))
    have hb12 := gt hb1 hb2
    have hB1' := hB1.grow hb2
    obtain ⟨g4, hg4⟩ : ∃ g4, g4 = w1.heap.size := ⟨_, rfl⟩
    rw [← hg4] at hB2
    have e4 : W.heap.size + 1 = g4 := by rw [hg4, hz1]
    simp only [e4]
    clear hz1 hz2 hg4 e4 hB1
    try simp only [Act.put, List.setIfInBounds_toArray, List.set_cons_succ, List.set_cons_zero]
    refine wp_region_qb (by kernel_rfl) (by kernel_rfl) ?_
    refine wq_val (o := ⟨some 6, _, _, _, _, _⟩) (v := .func (.func gl) #[] lb) rfl (fun w' hC => by have c0 := F.out.1 w' (gt hb12 hC); go_simp) ?_
    simp only [Act.put, List.setIfInBounds_toArray, List.set_cons_succ, List.set_cons_zero]
    refine wq_val (o := ⟨some 7, _, _, _, _, _⟩) (v := .pointer (some ⟨W.heap.size, 0, none⟩)) rfl (fun w' hC => by go_simp) ?_
    simp only [Act.put, List.setIfInBounds_toArray, List.set_cons_succ, List.set_cons_zero]
    refine wq_val (o := ⟨some 8, _, _, _, _, _⟩) (v := .slice (some ⟨G p1, p2 * 2, none⟩) lp cp) rfl (fun w' hC => by have c0 := (F.out.2.2.2.1 w' W.heap.size (hB1'.grow hC)).1; go_simp) ?_
    simp only [Act.put, List.setIfInBounds_toArray, List.set_cons_succ, List.set_cons_zero]
    refine wq_val (o := ⟨some 9, _, _, _, _, _⟩) (v := .pointer (some ⟨G p1, p2 * 2, none⟩)) rfl (fun w' hC => by go_simp) ?_
    simp only [Act.put, List.setIfInBounds_toArray, List.set_cons_succ, List.set_cons_zero]
    refine wq_loadT (o := ⟨some 10, _, _, _, _, _⟩) rfl _ rfl (vl th x) ⟨G p1, p2 * 2, none⟩ rfl (fun w' hC => F.out.2.1 w' (gt hb12 hC)) ?_
    simp only [Act.put, List.setIfInBounds_toArray, List.set_cons_succ, List.set_cons_zero]
    refine wq_val (o := ⟨some 11, _, _, _, _, _⟩) (v := .pointer (some ⟨g4, 0, none⟩)) rfl (fun w' hC => by go_simp) ?_
    simp only [Act.put, List.setIfInBounds_toArray, List.set_cons_succ, List.set_cons_zero]
    refine wq_val (o := ⟨some 12, _, _, _, _, _⟩) (v := .slice (some ⟨G q1, q2 * 2, none⟩) lq cq) rfl (fun w' hC => by have c0 := (F.out.2.2.2.2 w' g4 (hB2.grow hC)).1; go_simp) ?_
    simp only [Act.put, List.setIfInBounds_toArray, List.set_cons_succ, List.set_cons_zero]
    refine wq_val (o := ⟨some 13, _, _, _, _, _⟩) (v := .pointer (some ⟨G q1, q2 * 2, none⟩)) rfl (fun w' hC => by go_simp) ?_
    simp only [Act.put, List.setIfInBounds_toArray, List.set_cons_succ, List.set_cons_zero]
    refine wq_loadT (o := ⟨some 14, _, _, _, _, _⟩) rfl _ rfl (vl th y) ⟨G q1, q2 * 2, none⟩ rfl (fun w' hC => F.out.2.2.1 w' (gt hb12 hC)) ?_
    simp only [Act.put, List.setIfInBounds_toArray, List.set_cons_succ, List.set_cons_zero]
    refine wq_call (f := gl) (args := #[vl th x, vl th y] ++ lb) (v := .bool true) rfl (fun w' _ => by go_simp) (fun w' hC => by rw [← K1.out]; exact HC.out.1 w' _ _ (HC.out.2.trans ((gt hb12 hC).mono HC.out.2.size)) trivial trivial) ?_
    simp only [Act.put, List.setIfInBounds_toArray, List.set_cons_succ, List.set_cons_zero]
    refine wpQuiet_nil ?_
    intro w3 hC3
    have hb3 := gt hb12 hC3
    go_wp2
    go_ret
    exact ⟨rfl, hb3⟩
  | false =>
    cases h2_ : lt y x with
    | true =>
      have e1 : Heap.ahead lt (x, p1) (y, q1) = false := by unfold Heap.ahead; rw [h1_, h2_]; rfl
      rw [e1]
      have K1 := Lib.hid h1_
      clear e1 h1_
      have K2 := Lib.hid h2_
      clear h2_
      go_enter Try.func51, Try.ntmps51
      go_wp2_with (first
        | ((with_reducible show wpList _ _ _ (⟨some 3, _, _, _, _, _⟩ :: _) _ _)
           go_must (refine PileH.wpList_boxT (th := (thM ls G c)) (o := ⟨some 3, _, _, _, _, _⟩) rfl (.tmp 0) rfl (p1, p2) (by go_simp) _ rfl ?_)
           intro w1 hB1 hb1 hz1)
        | ((with_reducible show wpList _ _ _ (⟨some 4, _, _, _, _, _⟩ :: _) _ _)
           go_must (refine PileH.wpList_boxT (th := (thM ls G c)) (o := ⟨some 4, _, _, _, _, _⟩) rfl (.tmp 1) rfl (q1, q2) (by go_simp) _ rfl ?_)
           intro w2 hB2 hb2 hz2))
      have hb12 := gt hb1 hb2
      have hB1' := hB1.grow hb2
      obtain ⟨g4, hg4⟩ : ∃ g4, g4 = w1.heap.size := ⟨_, rfl⟩
      rw [← hg4] at hB2
      have e4 : W.heap.size + 1 = g4 := by rw [hg4, hz1]
      simp only [e4]
      clear hz1 hz2 hg4 e4 hB1
      try simp only [Act.put, List.setIfInBounds_toArray, List.set_cons_succ, List.set_cons_zero]
      refine wp_region_qb (by kernel_rfl) (by kernel_rfl) ?_
      refine wq_val (o := ⟨some 6, _, _, _, _, _⟩) (v := .func (.func gl) #[] lb) rfl (fun w' hC => by have c0 := F.out.1 w' (gt hb12 hC); go_simp) ?_
      simp only [Act.put, List.setIfInBounds_toArray, List.set_cons_succ, List.set_cons_zero]
      refine wq_val (o := ⟨some 7, _, _, _, _, _⟩) (v := .pointer (some ⟨W.heap.size, 0, none⟩)) rfl (fun w' hC => by go_simp) ?_
      simp only [Act.put, List.setIfInBounds_toArray, List.set_cons_succ, List.set_cons_zero]
      refine wq_val (o := ⟨some 8, _, _, _, _, _⟩) (v := .slice (some ⟨G p1, p2 * 2, none⟩) lp cp) rfl (fun w' hC => by have c0 := (F.out.2.2.2.1 w' W.heap.size (hB1'.grow hC)).1; go_simp) ?_
      simp only [Act.put, List.setIfInBounds_toArray, List.set_cons_succ, List.set_cons_zero]
      refine wq_val (o := ⟨some 9, _, _, _, _, _⟩) (v := .pointer (some ⟨G p1, p2 * 2, none⟩)) rfl (fun w' hC => by go_simp) ?_
      simp only [Act.put, List.setIfInBounds_toArray, List.set_cons_succ, List.set_cons_zero]
      refine wq_loadT (o := ⟨some 10, _, _, _, _, _⟩) rfl _ rfl (vl th x) ⟨G p1, p2 * 2, none⟩ rfl (fun w' hC => F.out.2.1 w' (gt hb12 hC)) ?_
      simp only [Act.put, List.setIfInBounds_toArray, List.set_cons_succ, List.set_cons_zero]
      refine wq_val (o := ⟨some 11, _, _, _, _, _⟩) (v := .pointer (some ⟨g4, 0, none⟩)) rfl (fun w' hC => by go_simp) ?_
      simp only [Act.put, List.setIfInBounds_toArray, List.set_cons_succ, List.set_cons_zero]
      refine wq_val (o := ⟨some 12, _, _, _, _, _⟩) (v := .slice (some ⟨G q1, q2 * 2, none⟩) lq cq) rfl (fun w' hC => by have c0 := (F.out.2.2.2.2 w' g4 (hB2.grow hC)).1; go_simp) ?_
      simp only [Act.put, List.setIfInBounds_toArray, List.set_cons_succ, List.set_cons_zero]
      refine wq_val (o := ⟨some 13, _, _, _, _, _⟩) (v := .pointer (some ⟨G q1, q2 * 2, none⟩)) rfl (fun w' hC => by go_simp) ?_
      simp only [Act.put, List.setIfInBounds_toArray, List.set_cons_succ, List.set_cons_zero]
      refine wq_loadT (o := ⟨some 14, _, _, _, _, _⟩) rfl _ rfl (vl th y) ⟨G q1, q2 * 2, none⟩ rfl (fun w' hC => F.out.2.2.1 w' (gt hb12 hC)) ?_
      simp only [Act.put, List.setIfInBounds_toArray, List.set_cons_succ, List.set_cons_zero]
      refine wq_call (f := gl) (args := #[vl th x, vl th y] ++ lb) (v := .bool false) rfl (fun w' _ => by go_simp) (fun w' hC => by rw [← K1.out]; exact HC.out.1 w' _ _ (HC.out.2.trans ((gt hb12 hC).mono HC.out.2.size)) trivial trivial) ?_
      simp only [Act.put, List.setIfInBounds_toArray, List.set_cons_succ, List.set_cons_zero]
      refine wpQuiet_nil ?_
      intro w3 hC3
      have hb3 := gt hb12 hC3
      have hB13 := hB1'.grow hC3
      have hB23 := hB2.grow hC3
      go_wp2
      try simp only [Act.put, List.setIfInBounds_toArray, List.set_cons_succ, List.set_cons_zero]
      refine wp_region_qb (by kernel_rfl) (by kernel_rfl) ?_
      refine wq_val (o := ⟨some 16, _, _, _, _, _⟩) (v := .func (.func gl) #[] lb) rfl (fun w' hC => by have c0 := F.out.1 w' (gt hb3 hC); go_simp) ?_
      simp only [Act.put, List.setIfInBounds_toArray, List.set_cons_succ, List.set_cons_zero]
      refine wq_val (o := ⟨some 17, _, _, _, _, _⟩) (v := .pointer (some ⟨g4, 0, none⟩)) rfl (fun w' hC => by go_simp) ?_
      simp only [Act.put, List.setIfInBounds_toArray, List.set_cons_succ, List.set_cons_zero]
      refine wq_val (o := ⟨some 18, _, _, _, _, _⟩) (v := .slice (some ⟨G q1, q2 * 2, none⟩) lq cq) rfl (fun w' hC => by have c0 := (F.out.2.2.2.2 w' g4 (hB23.grow hC)).1; go_simp) ?_
      simp only [Act.put, List.setIfInBounds_toArray, List.set_cons_succ, List.set_cons_zero]
      refine wq_val (o := ⟨some 19, _, _, _, _, _⟩) (v := .pointer (some ⟨G q1, q2 * 2, none⟩)) rfl (fun w' hC => by go_simp) ?_
      simp only [Act.put, List.setIfInBounds_toArray, List.set_cons_succ, List.set_cons_zero]
      refine wq_loadT (o := ⟨some 20, _, _, _, _, _⟩) rfl _ rfl (vl th y) ⟨G q1, q2 * 2, none⟩ rfl (fun w' hC => F.out.2.2.1 w' (gt hb3 hC)) ?_
      simp only [Act.put, List.setIfInBounds_toArray, List.set_cons_succ, List.set_cons_zero]
      refine wq_val (o := ⟨some 21, _, _, _, _, _⟩) (v := .pointer (some ⟨W.heap.size, 0, none⟩)) rfl (fun w' hC => by go_simp) ?_
      simp only [Act.put, List.setIfInBounds_toArray, List.set_cons_succ, List.set_cons_zero]
      refine wq_val (o := ⟨some 22, _, _, _, _, _⟩) (v := .slice (some ⟨G p1, p2 * 2, none⟩) lp cp) rfl (fun w' hC => by have c0 := (F.out.2.2.2.1 w' W.heap.size (hB13.grow hC)).1; go_simp) ?_
      simp only [Act.put, List.setIfInBounds_toArray, List.set_cons_succ, List.set_cons_zero]
      refine wq_val (o := ⟨some 23, _, _, _, _, _⟩) (v := .pointer (some ⟨G p1, p2 * 2, none⟩)) rfl (fun w' hC => by go_simp) ?_
      simp only [Act.put, List.setIfInBounds_toArray, List.set_cons_succ, List.set_cons_zero]
      refine wq_loadT (o := ⟨some 24, _, _, _, _, _⟩) rfl _ rfl (vl th x) ⟨G p1, p2 * 2, none⟩ rfl (fun w' hC => F.out.2.1 w' (gt hb3 hC)) ?_
      simp only [Act.put, List.setIfInBounds_toArray, List.set_cons_succ, List.set_cons_zero]
      refine wq_call (f := gl) (args := #[vl th y, vl th x] ++ lb) (v := .bool true) rfl (fun w' _ => by go_simp) (fun w' hC => by rw [← K2.out]; exact HC.out.1 w' _ _ (HC.out.2.trans ((gt hb3 hC).mono HC.out.2.size)) trivial trivial) ?_
      simp only [Act.put, List.setIfInBounds_toArray, List.set_cons_succ, List.set_cons_zero]
      refine wq_val (o := ⟨some 26, _, _, _, _, _⟩) (v := .bool false) rfl (fun w' hC => by go_simp) ?_
      simp only [Act.put, List.setIfInBounds_toArray, List.set_cons_succ, List.set_cons_zero]
      refine wq_val (o := ⟨some 27, _, _, _, _, _⟩) (v := .bool false) rfl (fun w' hC => by go_simp) ?_
      simp only [Act.put, List.setIfInBounds_toArray, List.set_cons_succ, List.set_cons_zero]
      go_big_quiet_step (fail)
      go_big_quiet_step (fail)
      go_big_quiet_step (fail)
      go_big_quiet_step (fail)
      go_big_quiet_step (fail)
      refine wq_val (o := ⟨some 33, _, _, _, _, _⟩) (v := .bool false) rfl (fun w' hC => by go_simp) ?_
      simp only [Act.put, List.setIfInBounds_toArray, List.set_cons_succ, List.set_cons_zero]
      refine wq_val (o := ⟨some 5, _, _, _, _, _⟩) (v := .bool false) rfl (fun w' hC => by go_simp) ?_
      simp only [Act.put, List.setIfInBounds_toArray, List.set_cons_succ, List.set_cons_zero]
      refine wpQuiet_nil ?_
      intro w4 hC4
      have hb4 := gt hb3 hC4
      go_wp2
      go_ret
      exact ⟨rfl, hb4⟩
    | false =>
      have e1 : Heap.ahead lt (x, p1) (y, q1) = decide (p1 < q1) := by unfold Heap.ahead; rw [h1_, h2_]; rfl
      rw [e1]
      have K1 := Lib.hid h1_
      clear e1 h1_
      have K2 := Lib.hid h2_
      clear h2_
      go_enter Try.func51, Try.ntmps51
      go_wp2_with (first
        | ((with_reducible show wpList _ _ _ (⟨some 3, _, _, _, _, _⟩ :: _) _ _)
           go_must (refine PileH.wpList_boxT (th := (thM ls G c)) (o := ⟨some 3, _, _, _, _, _⟩) rfl (.tmp 0) rfl (p1, p2) (by go_simp) _ rfl ?_)
           intro w1 hB1 hb1 hz1)
        | ((with_reducible show wpList _ _ _ (⟨some 4, _, _, _, _, _⟩ :: _) _ _)
           go_must (refine PileH.wpList_boxT (th := (thM ls G c)) (o := ⟨some 4, _, _, _, _, _⟩) rfl (.tmp 1) rfl (q1, q2) (by go_simp) _ rfl ?_)
           intro w2 hB2 hb2 hz2))
      have hb12 := gt hb1 hb2
      have hB1' := hB1.grow hb2
      obtain ⟨g4, hg4⟩ : ∃ g4, g4 = w1.heap.size := ⟨_, rfl⟩
      rw [← hg4] at hB2
      have e4 : W.heap.size + 1 = g4 := by rw [hg4, hz1]
      simp only [e4]
      clear hz1 hz2 hg4 e4 hB1
      try simp only [Act.put, List.setIfInBounds_toArray, List.set_cons_succ, List.set_cons_zero]
      refine wp_region_qb (by kernel_rfl) (by kernel_rfl) ?_
      refine wq_val (o := ⟨some 6, _, _, _, _, _⟩) (v := .func (.func gl) #[] lb) rfl (fun w' hC => by have c0 := F.out.1 w' (gt hb12 hC); go_simp) ?_
      simp only [Act.put, List.setIfInBounds_toArray, List.set_cons_succ, List.set_cons_zero]
      refine wq_val (o := ⟨some 7, _, _, _, _, _⟩) (v := .pointer (some ⟨W.heap.size, 0, none⟩)) rfl (fun w' hC => by go_simp) ?_
      simp only [Act.put, List.setIfInBounds_toArray, List.set_cons_succ, List.set_cons_zero]
      refine wq_val (o := ⟨some 8, _, _, _, _, _⟩) (v := .slice (some ⟨G p1, p2 * 2, none⟩) lp cp) rfl (fun w' hC => by have c0 := (F.out.2.2.2.1 w' W.heap.size (hB1'.grow hC)).1; go_simp) ?_
      simp only [Act.put, List.setIfInBounds_toArray, List.set_cons_succ, List.set_cons_zero]
      refine wq_val (o := ⟨some 9, _, _, _, _, _⟩) (v := .pointer (some ⟨G p1, p2 * 2, none⟩)) rfl (fun w' hC => by go_simp) ?_
      simp only [Act.put, List.setIfInBounds_toArray, List.set_cons_succ, List.set_cons_zero]
      refine wq_loadT (o := ⟨some 10, _, _, _, _, _⟩) rfl _ rfl (vl th x) ⟨G p1, p2 * 2, none⟩ rfl (fun w' hC => F.out.2.1 w' (gt hb12 hC)) ?_
      simp only [Act.put, List.setIfInBounds_toArray, List.set_cons_succ, List.set_cons_zero]
      refine wq_val (o := ⟨some 11, _, _, _, _, _⟩) (v := .pointer (some ⟨g4, 0, none⟩)) rfl (fun w' hC => by go_simp) ?_
      simp only [Act.put, List.setIfInBounds_toArray, List.set_cons_succ, List.set_cons_zero]
      refine wq_val (o := ⟨some 12, _, _, _, _, _⟩) (v := .slice (some ⟨G q1, q2 * 2, none⟩) lq cq) rfl (fun w' hC => by have c0 := (F.out.2.2.2.2 w' g4 (hB2.grow hC)).1; go_simp) ?_
      simp only [Act.put, List.setIfInBounds_toArray, List.set_cons_succ, List.set_cons_zero]
      refine wq_val (o := ⟨some 13, _, _, _, _, _⟩) (v := .pointer (some ⟨G q1, q2 * 2, none⟩)) rfl (fun w' hC => by go_simp) ?_
      simp only [Act.put, List.setIfInBounds_toArray, List.set_cons_succ, List.set_cons_zero]
      refine wq_loadT (o := ⟨some 14, _, _, _, _, _⟩) rfl _ rfl (vl th y) ⟨G q1, q2 * 2, none⟩ rfl (fun w' hC => F.out.2.2.1 w' (gt hb12 hC)) ?_
      simp only [Act.put, List.setIfInBounds_toArray, List.set_cons_succ, List.set_cons_zero]
      refine wq_call (f := gl) (args := #[vl th x, vl th y] ++ lb) (v := .bool false) rfl (fun w' _ => by go_simp) (fun w' hC => by rw [← K1.out]; exact HC.out.1 w' _ _ (HC.out.2.trans ((gt hb12 hC).mono HC.out.2.size)) trivial trivial) ?_
      simp only [Act.put, List.setIfInBounds_toArray, List.set_cons_succ, List.set_cons_zero]
      refine wpQuiet_nil ?_
      intro w3 hC3
      have hb3 := gt hb12 hC3
      have hB13 := hB1'.grow hC3
      have hB23 := hB2.grow hC3
      go_wp2
      try simp only [Act.put, List.setIfInBounds_toArray, List.set_cons_succ, List.set_cons_zero]
      refine wp_region_qb (by kernel_rfl) (by kernel_rfl) ?_
      refine wq_val (o := ⟨some 16, _, _, _, _, _⟩) (v := .func (.func gl) #[] lb) rfl (fun w' hC => by have c0 := F.out.1 w' (gt hb3 hC); go_simp) ?_
      simp only [Act.put, List.setIfInBounds_toArray, List.set_cons_succ, List.set_cons_zero]
      refine wq_val (o := ⟨some 17, _, _, _, _, _⟩) (v := .pointer (some ⟨g4, 0, none⟩)) rfl (fun w' hC => by go_simp) ?_
      simp only [Act.put, List.setIfInBounds_toArray, List.set_cons_succ, List.set_cons_zero]
      refine wq_val (o := ⟨some 18, _, _, _, _, _⟩) (v := .slice (some ⟨G q1, q2 * 2, none⟩) lq cq) rfl (fun w' hC => by have c0 := (F.out.2.2.2.2 w' g4 (hB23.grow hC)).1; go_simp) ?_
      simp only [Act.put, List.setIfInBounds_toArray, List.set_cons_succ, List.set_cons_zero]
      refine wq_val (o := ⟨some 19, _, _, _, _, _⟩) (v := .pointer (some ⟨G q1, q2 * 2, none⟩)) rfl (fun w' hC => by go_simp) ?_
      simp only [Act.put, List.setIfInBounds_toArray, List.set_cons_succ, List.set_cons_zero]
      refine wq_loadT (o := ⟨some 20, _, _, _, _, _⟩) rfl _ rfl (vl th y) ⟨G q1, q2 * 2, none⟩ rfl (fun w' hC => F.out.2.2.1 w' (gt hb3 hC)) ?_
      simp only [Act.put, List.setIfInBounds_toArray, List.set_cons_succ, List.set_cons_zero]
      refine wq_val (o := ⟨some 21, _, _, _, _, _⟩) (v := .pointer (some ⟨W.heap.size, 0, none⟩)) rfl (fun w' hC => by go_simp) ?_
      simp only [Act.put, List.setIfInBounds_toArray, List.set_cons_succ, List.set_cons_zero]
      refine wq_val (o := ⟨some 22, _, _, _, _, _⟩) (v := .slice (some ⟨G p1, p2 * 2, none⟩) lp cp) rfl (fun w' hC => by have c0 := (F.out.2.2.2.1 w' W.heap.size (hB13.grow hC)).1; go_simp) ?_
      simp only [Act.put, List.setIfInBounds_toArray, List.set_cons_succ, List.set_cons_zero]
      refine wq_val (o := ⟨some 23, _, _, _, _, _⟩) (v := .pointer (some ⟨G p1, p2 * 2, none⟩)) rfl (fun w' hC => by go_simp) ?_
      simp only [Act.put, List.setIfInBounds_toArray, List.set_cons_succ, List.set_cons_zero]
      refine wq_loadT (o := ⟨some 24, _, _, _, _, _⟩) rfl _ rfl (vl th x) ⟨G p1, p2 * 2, none⟩ rfl (fun w' hC => F.out.2.1 w' (gt hb3 hC)) ?_
      simp only [Act.put, List.setIfInBounds_toArray, List.set_cons_succ, List.set_cons_zero]
      refine wq_call (f := gl) (args := #[vl th y, vl th x] ++ lb) (v := .bool false) rfl (fun w' _ => by go_simp) (fun w' hC => by rw [← K2.out]; exact HC.out.1 w' _ _ (HC.out.2.trans ((gt hb3 hC).mono HC.out.2.size)) trivial trivial) ?_
      simp only [Act.put, List.setIfInBounds_toArray, List.set_cons_succ, List.set_cons_zero]
      refine wq_val (o := ⟨some 26, _, _, _, _, _⟩) (v := .bool true) rfl (fun w' hC => by go_simp) ?_
      simp only [Act.put, List.setIfInBounds_toArray, List.set_cons_succ, List.set_cons_zero]
      refine wq_val (o := ⟨some 27, _, _, _, _, _⟩) (v := .bool true) rfl (fun w' hC => by go_simp) ?_
      simp only [Act.put, List.setIfInBounds_toArray, List.set_cons_succ, List.set_cons_zero]
      refine wq_val (o := ⟨some 28, _, _, _, _, _⟩) (v := .pointer (some ⟨W.heap.size, 1, none⟩)) rfl (fun w' hC => by go_simp) ?_
      simp only [Act.put, List.setIfInBounds_toArray, List.set_cons_succ, List.set_cons_zero]
      refine wq_val (o := ⟨some 29, _, _, _, _, _⟩) (v := .int .i64 p1) rfl (fun w' hC => by have c0 := (F.out.2.2.2.1 w' W.heap.size (hB13.grow hC)).2; go_simp) ?_
      simp only [Act.put, List.setIfInBounds_toArray, List.set_cons_succ, List.set_cons_zero]
      refine wq_val (o := ⟨some 30, _, _, _, _, _⟩) (v := .pointer (some ⟨g4, 1, none⟩)) rfl (fun w' hC => by go_simp) ?_
      simp only [Act.put, List.setIfInBounds_toArray, List.set_cons_succ, List.set_cons_zero]
      refine wq_val (o := ⟨some 31, _, _, _, _, _⟩) (v := .int .i64 q1) rfl (fun w' hC => by have c0 := (F.out.2.2.2.2 w' g4 (hB23.grow hC)).2; go_simp) ?_
      simp only [Act.put, List.setIfInBounds_toArray, List.set_cons_succ, List.set_cons_zero]
      refine wq_val (o := ⟨some 32, _, _, _, _, _⟩) (v := .bool (decide (p1 < q1))) rfl (fun w' hC => by go_simp; try (congr 2; rw [Bool.eq_iff_iff, decide_eq_true_iff, decide_eq_true_iff]; omega)) ?_
      simp only [Act.put, List.setIfInBounds_toArray, List.set_cons_succ, List.set_cons_zero]
      refine wq_val (o := ⟨some 33, _, _, _, _, _⟩) (v := .bool (decide (p1 < q1))) rfl (fun w' hC => by go_simp) ?_
      simp only [Act.put, List.setIfInBounds_toArray, List.set_cons_succ, List.set_cons_zero]
      refine wq_val (o := ⟨some 5, _, _, _, _, _⟩) (v := .bool (decide (p1 < q1))) rfl (fun w' hC => by go_simp) ?_
      simp only [Act.put, List.setIfInBounds_toArray, List.set_cons_succ, List.set_cons_zero]
      refine wpQuiet_nil ?_
      intro w4 hC4
      have hb4 := gt hb3 hC4
      go_wp2
      go_ret
      exact ⟨rfl, hb4⟩
end
end Go.Proofs.Ytdebokambldbbaa.PileI
