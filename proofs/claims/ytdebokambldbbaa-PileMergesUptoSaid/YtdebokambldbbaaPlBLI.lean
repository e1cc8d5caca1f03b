/- pile over I: the less that Best hands to its pile of places. -/
import Derived.Test.YtdebokambldbbaaPlEI
import Derived.Test.YtdebokambldbbaaPlDP
import Derived.Test.YtdebokambldbbaaBuildN
namespace Go.Proofs.Ytdebokambldbbaa.PileI
open Go.RowKit Go.Shelf Go.Proofs.Ytdebokambldbbaa.Mem Go.Proofs.Ytdebokambldbbaa.Heap Go.Proofs.Ytdebokambldbbaa.Pile
set_option linter.unusedVariables false
set_option linter.unusedSectionVars false
set_option maxRecDepth 4000
set_option maxHeartbeats 3200000

section
variable {β : Type} [Inhabited β] {th : Th β 2}
/-- a thing with its place -/
def thP (th : Th β 2) : Th (β × Nat) 3 := ⟨fun x => th.cells x.1 ++ [.int .i64 x.2], fun x => by simp [th.len], fun x u hu => by
  rcases List.mem_append.1 hu with h | h
  · exact th.one _ u h
  · rw [List.mem_singleton.1 h]; rfl⟩
theorem thP_thing (x : β × Nat) : (((thP th).cells x).drop 0).take 2 = th.cells x.1 := by
  rw [List.drop_zero]; exact List.take_left' (th.len _)
theorem thP_at (x : β × Nat) : ((thP th).cells x)[2]? = some (.int .i64 x.2) := by
  show (th.cells x.1 ++ [.int .i64 x.2])[2]? = _
  rw [List.getElem?_append_right (by rw [th.len]; exact Nat.le_refl _), th.len]
  rfl
theorem flatB_less {B : Nat} {w0 : World} {D : β → Prop} : Less Try.prog B w0 (vl th) D (.func (.func 54) #[] #[]) (fun _ _ => false) := by
  refine ⟨54, #[], rfl, enters_of Try.func54 (by kernel_rfl) rfl, fun W a b _ _ _ => ?_⟩
  simp only [Array.append_empty]
  go_enter Try.func54, Try.ntmps54
  go_wp2_with (first
    | ((with_reducible show wpList _ _ _ (⟨some 2, _, _, _, _, _⟩ :: _) _ _); go_must (refine wpList_boxT (th := th) (o := ⟨some 2, _, _, _, _, _⟩) rfl (.tmp 0) rfl a (by go_simp) _ rfl ?_); intro w1 hB1 hb1 hz1)
    | ((with_reducible show wpList _ _ _ (⟨some 3, _, _, _, _, _⟩ :: _) _ _); go_must (refine wpList_boxT (th := th) (o := ⟨some 3, _, _, _, _, _⟩) rfl (.tmp 1) rfl b (by go_simp) _ rfl ?_); intro w2 hB2 hb2 hz2))
  go_ret
  exact ⟨rfl, gt hb1 hb2⟩
theorem Less_mono {B B' : Nat} {w0 w0' : World} {D : β → Prop} {fv : Value} {lt : β → β → Bool} (h : Less Try.prog B w0 (vl th) D fv lt) (hb : Below B w0 w0') (hB : B ≤ B') : Less Try.prog B' w0' (vl th) D fv lt := by
  obtain ⟨g, lb, e, eg, hc⟩ := h.ex
  exact ⟨g, lb, e, eg, fun W a b hW => hc W a b (hb.trans (hW.mono hB))⟩
theorem best_less {B bx : Nat} {w0 : World} {D : β → Prop} {fv : Value} {lt : β → β → Bool} (hL : Less Try.prog B w0 (vl th) D fv lt) (hbx : Boxed w0 bx 50 fv) (hB : bx < B) (hBw0 : B ≤ w0.heap.size) : Less Try.prog B w0 (PileP.vl (thP th)) (fun x => D x.1) (.func (.func 56) #[] #[.pointer (some ⟨bx, 0, none⟩)]) (wlt lt) := by
  obtain ⟨gl, lb, rfl, egl, hcall⟩ := hL.ex
  refine ⟨56, #[.pointer (some ⟨bx, 0, none⟩)], rfl, enters_of Try.func56 (by kernel_rfl) rfl, fun W x y hW dx dy => ?_⟩
  have hbW : ∀ w, Below W.heap.size W w → w.cell? ⟨bx, 0, none⟩ = some (.func (.func gl) #[] lb) := fun w hb => Boxed.cell (((hb.block bx (show bx < W.heap.size from (show Boxed W bx 50 _ from (hW.block bx hB).trans hbx).lt)).trans (hW.block bx hB)).trans hbx : Boxed w bx 50 _)
  have hBW : B ≤ W.heap.size := Nat.le_trans hBw0 hW.size
  have HW := Lib.hid hW
  have HD := Lib.hid (And.intro dx dy)
  have HC := Lib.hid hcall
  have HX := Lib.hid (fun (w : World) (g : Nat) (z : β × Nat) (hB : Blk w g 95 ((thP th).cells z)) => (show w.cell? ⟨g, 2, none⟩ = some (.int .i64 z.2) from by rw [hB.cell]; exact thP_at z))
  have HB := Lib.hid hbW
  have HS := Lib.hid hBW
  clear hcall hbx hW dx dy hL hbW hBW
  cases h1_ : lt y.1 x.1 with
  | true =>
    have e1 : wlt lt x y = true := by unfold wlt Heap.ahead; rw [h1_]; rfl
    rw [e1]
    have h1_ := Lib.hid h1_
    clear e1
    go_enter Try.func56, Try.ntmps56
    go_wp2_with (first
      | ((with_reducible show wpList _ _ _ (⟨some 3, _, _, _, _, _⟩ :: _) _ _)
         go_must (refine PileP.wpList_boxT (th := thP th) (o := ⟨some 3, _, _, _, _, _⟩) rfl (.tmp 0) rfl x (by go_simp) _ rfl ?_)
         intro w1 hB1 hb1 hz1
         clear hz1)
      | ((with_reducible show wpList _ _ _ (⟨some 4, _, _, _, _, _⟩ :: _) _ _)
         go_must (refine PileP.wpList_boxT (th := thP th) (o := ⟨some 4, _, _, _, _, _⟩) rfl (.tmp 1) rfl y (by go_simp) _ rfl ?_)
         intro w2 hB2 hb2 hz2
         clear hz2
         have c0 := HB.out w2 (gt hb1 hb2))
      | ((with_reducible show wpList _ _ _ (⟨some 8, _, _, _, _, _⟩ :: _) _ _)
         go_must (refine wpList_loadT (th := th) (o := ⟨some 8, _, _, _, _, _⟩) rfl (.tmp 7) rfl w1.heap.size 0 (by go_simp) _ _ hB2 y.1 (thP_thing y) ?_))
      | ((with_reducible show wpList _ _ _ (⟨some 10, _, _, _, _, _⟩ :: _) _ _)
         go_must (refine wpList_loadT (th := th) (o := ⟨some 10, _, _, _, _, _⟩) rfl (.tmp 9) rfl W.heap.size 0 (by go_simp) _ _ (hB1.grow hb2) x.1 (thP_thing x) ?_))
      | ((with_reducible show wpList _ _ _ (⟨some 11, _, _, _, _, _⟩ :: _) _ _)
         go_must (refine wpList_callG (o := ⟨some 11, _, _, _, _, _⟩) rfl (f := gl) (args := #[vl th y.1, vl th x.1] ++ lb) (by go_simp) (ψ := fun v w' => v = .bool true ∧ Below w2.heap.size w2 w') ((HC.out w2 y.1 x.1 (HW.out.trans ((gt hb1 hb2 : Below W.heap.size W _).mono HS.out)) HD.out.2 HD.out.1).mono fun e w' ⟨h1, h2⟩ => ⟨_, h1, by rw [h1_.out], h2⟩) ?_)
         rintro v w3 ⟨rfl, hb3⟩))
    go_ret
    exact ⟨rfl, gt (gt hb1 hb2) hb3⟩
  | false =>
    cases h2_ : lt x.1 y.1 with
    | true =>
      have e1 : wlt lt x y = false := by unfold wlt Heap.ahead; rw [h1_, h2_]; rfl
      rw [e1]
      have h1_ := Lib.hid h1_
      have h2_ := Lib.hid h2_
      clear e1
      go_enter Try.func56, Try.ntmps56
      go_wp2_with (first
        | ((with_reducible show wpList _ _ _ (⟨some 3, _, _, _, _, _⟩ :: _) _ _)
           go_must (refine PileP.wpList_boxT (th := thP th) (o := ⟨some 3, _, _, _, _, _⟩) rfl (.tmp 0) rfl x (by go_simp) _ rfl ?_)
           intro w1 hB1 hb1 hz1
           clear hz1)
        | ((with_reducible show wpList _ _ _ (⟨some 4, _, _, _, _, _⟩ :: _) _ _)
           go_must (refine PileP.wpList_boxT (th := thP th) (o := ⟨some 4, _, _, _, _, _⟩) rfl (.tmp 1) rfl y (by go_simp) _ rfl ?_)
           intro w2 hB2 hb2 hz2
           clear hz2
           have c0 := HB.out w2 (gt hb1 hb2))
        | ((with_reducible show wpList _ _ _ (⟨some 8, _, _, _, _, _⟩ :: _) _ _)
           go_must (refine wpList_loadT (th := th) (o := ⟨some 8, _, _, _, _, _⟩) rfl (.tmp 7) rfl w1.heap.size 0 (by go_simp) _ _ hB2 y.1 (thP_thing y) ?_))
        | ((with_reducible show wpList _ _ _ (⟨some 10, _, _, _, _, _⟩ :: _) _ _)
           go_must (refine wpList_loadT (th := th) (o := ⟨some 10, _, _, _, _, _⟩) rfl (.tmp 9) rfl W.heap.size 0 (by go_simp) _ _ (hB1.grow hb2) x.1 (thP_thing x) ?_))
        | ((with_reducible show wpList _ _ _ (⟨some 11, _, _, _, _, _⟩ :: _) _ _)
           go_must (refine wpList_callG (o := ⟨some 11, _, _, _, _, _⟩) rfl (f := gl) (args := #[vl th y.1, vl th x.1] ++ lb) (by go_simp) (ψ := fun v w' => v = .bool false ∧ Below w2.heap.size w2 w') ((HC.out w2 y.1 x.1 (HW.out.trans ((gt hb1 hb2 : Below W.heap.size W _).mono HS.out)) HD.out.2 HD.out.1).mono fun e w' ⟨h1, h2⟩ => ⟨_, h1, by rw [h1_.out], h2⟩) ?_)
           rintro v w3 ⟨rfl, hb3⟩
           have hb3' := gt (gt hb1 hb2) hb3
           clear c0
           have c0 := HB.out w3 hb3')
        | ((with_reducible show wpList _ _ _ (⟨some 14, _, _, _, _, _⟩ :: _) _ _)
           go_must (refine wpList_loadT (th := th) (o := ⟨some 14, _, _, _, _, _⟩) rfl (.tmp 13) rfl W.heap.size 0 (by go_simp) _ _ ((hB1.grow hb2).grow hb3) x.1 (thP_thing x) ?_))
        | ((with_reducible show wpList _ _ _ (⟨some 16, _, _, _, _, _⟩ :: _) _ _)
           go_must (refine wpList_loadT (th := th) (o := ⟨some 16, _, _, _, _, _⟩) rfl (.tmp 15) rfl w1.heap.size 0 (by go_simp) _ _ (hB2.grow hb3) y.1 (thP_thing y) ?_))
        | ((with_reducible show wpList _ _ _ (⟨some 17, _, _, _, _, _⟩ :: _) _ _)
           go_must (refine wpList_callG (o := ⟨some 17, _, _, _, _, _⟩) rfl (f := gl) (args := #[vl th x.1, vl th y.1] ++ lb) (by go_simp) (ψ := fun v w' => v = .bool true ∧ Below w3.heap.size w3 w') ((HC.out w3 x.1 y.1 (HW.out.trans ((hb3' : Below W.heap.size W _).mono HS.out)) HD.out.1 HD.out.2).mono fun e w' ⟨h1, h2⟩ => ⟨_, h1, by rw [h2_.out], h2⟩) ?_)
           rintro v w4 ⟨rfl, hb4⟩
           have hb4' := gt (gt (gt hb1 hb2) hb3) hb4))
      go_ret
      exact ⟨by first | rfl | (congr 2; rw [Bool.eq_iff_iff, decide_eq_true_iff, decide_eq_true_iff]; omega), hb4'⟩
    | false =>
      have e1 : wlt lt x y = decide (y.2 < x.2) := by unfold wlt Heap.ahead; rw [h1_, h2_]; rfl
      rw [e1]
      have h1_ := Lib.hid h1_
      have h2_ := Lib.hid h2_
      clear e1
      go_enter Try.func56, Try.ntmps56
      go_wp2_with (first
        | ((with_reducible show wpList _ _ _ (⟨some 3, _, _, _, _, _⟩ :: _) _ _)
           go_must (refine PileP.wpList_boxT (th := thP th) (o := ⟨some 3, _, _, _, _, _⟩) rfl (.tmp 0) rfl x (by go_simp) _ rfl ?_)
           intro w1 hB1 hb1 hz1
           clear hz1)
        | ((with_reducible show wpList _ _ _ (⟨some 4, _, _, _, _, _⟩ :: _) _ _)
           go_must (refine PileP.wpList_boxT (th := thP th) (o := ⟨some 4, _, _, _, _, _⟩) rfl (.tmp 1) rfl y (by go_simp) _ rfl ?_)
           intro w2 hB2 hb2 hz2
           clear hz2
           have c0 := HB.out w2 (gt hb1 hb2))
        | ((with_reducible show wpList _ _ _ (⟨some 8, _, _, _, _, _⟩ :: _) _ _)
           go_must (refine wpList_loadT (th := th) (o := ⟨some 8, _, _, _, _, _⟩) rfl (.tmp 7) rfl w1.heap.size 0 (by go_simp) _ _ hB2 y.1 (thP_thing y) ?_))
        | ((with_reducible show wpList _ _ _ (⟨some 10, _, _, _, _, _⟩ :: _) _ _)
           go_must (refine wpList_loadT (th := th) (o := ⟨some 10, _, _, _, _, _⟩) rfl (.tmp 9) rfl W.heap.size 0 (by go_simp) _ _ (hB1.grow hb2) x.1 (thP_thing x) ?_))
        | ((with_reducible show wpList _ _ _ (⟨some 11, _, _, _, _, _⟩ :: _) _ _)
           go_must (refine wpList_callG (o := ⟨some 11, _, _, _, _, _⟩) rfl (f := gl) (args := #[vl th y.1, vl th x.1] ++ lb) (by go_simp) (ψ := fun v w' => v = .bool false ∧ Below w2.heap.size w2 w') ((HC.out w2 y.1 x.1 (HW.out.trans ((gt hb1 hb2 : Below W.heap.size W _).mono HS.out)) HD.out.2 HD.out.1).mono fun e w' ⟨h1, h2⟩ => ⟨_, h1, by rw [h1_.out], h2⟩) ?_)
           rintro v w3 ⟨rfl, hb3⟩
           have hb3' := gt (gt hb1 hb2) hb3
           clear c0
           have c0 := HB.out w3 hb3')
        | ((with_reducible show wpList _ _ _ (⟨some 14, _, _, _, _, _⟩ :: _) _ _)
           go_must (refine wpList_loadT (th := th) (o := ⟨some 14, _, _, _, _, _⟩) rfl (.tmp 13) rfl W.heap.size 0 (by go_simp) _ _ ((hB1.grow hb2).grow hb3) x.1 (thP_thing x) ?_))
        | ((with_reducible show wpList _ _ _ (⟨some 16, _, _, _, _, _⟩ :: _) _ _)
           go_must (refine wpList_loadT (th := th) (o := ⟨some 16, _, _, _, _, _⟩) rfl (.tmp 15) rfl w1.heap.size 0 (by go_simp) _ _ (hB2.grow hb3) y.1 (thP_thing y) ?_))
        | ((with_reducible show wpList _ _ _ (⟨some 17, _, _, _, _, _⟩ :: _) _ _)
           go_must (refine wpList_callG (o := ⟨some 17, _, _, _, _, _⟩) rfl (f := gl) (args := #[vl th x.1, vl th y.1] ++ lb) (by go_simp) (ψ := fun v w' => v = .bool false ∧ Below w3.heap.size w3 w') ((HC.out w3 x.1 y.1 (HW.out.trans ((hb3' : Below W.heap.size W _).mono HS.out)) HD.out.1 HD.out.2).mono fun e w' ⟨h1, h2⟩ => ⟨_, h1, by rw [h2_.out], h2⟩) ?_)
           rintro v w4 ⟨rfl, hb4⟩
           have hb4' := gt (gt (gt hb1 hb2) hb3) hb4
           have d1 := HX.out w4 _ _ ((hB1.grow hb2).grow (gt hb3 hb4))
           have d2 := HX.out w4 _ _ (hB2.grow (gt hb3 hb4))))
      go_ret
      exact ⟨by first | rfl | (congr 2; rw [Bool.eq_iff_iff, decide_eq_true_iff, decide_eq_true_iff]; omega), hb4'⟩
end
end Go.Proofs.Ytdebokambldbbaa.PileI
