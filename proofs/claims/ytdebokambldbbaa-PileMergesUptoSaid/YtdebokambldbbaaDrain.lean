/- A range over an iterator whose rounds and whose own steps work on one state (a pile that is drained while the rounds push into it): the law of the loop. Plain theorems over any program. -/
import Derived.RangeFuncNested
import Derived.RangeFuncBound
import Derived.RangeFuncCalls
import Derived.RangeFuncLeaves
import Derived.RangeFuncBox
import Derived.Shelf.Abstract
import Derived.Shelf.RegionOpen
import Derived.WalkKit
import Derived.OwnWalkIn
import Derived.TacticsInMore
import Derived.LoopNIn
import Derived.LoopIn
import Derived.Deep.LoopGhost
namespace Go.Proofs.Ytdebokambldbbaa.Drain
open Go.RowKit Go.Shelf
set_option linter.unusedVariables false

def popPost {σ : Type} (μ : σ → Nat) (I : σ → World → Prop) (Ix : Code → σ → World → Prop) (s : σ) (W : World) : Exit → Act → World → Prop
  | .normal, _, W' => KeepsOthers W W' ∧ ∃ s', μ s' < μ s ∧ I s' W'
  | .ret, _, W' => KeepsOthers W W' ∧ ∃ s', Ix .ret s' W'
  | .exit id, _, W' => KeepsOthers W W' ∧ ∃ s', Ix (.exit id) s' W'
  | .goto t, _, W' => KeepsOthers W W' ∧ ∃ s', Ix (.goto t) s' W'
  | _, _, _ => False

/-- What the iterator promises: it calls popf on p and hands on what comes, till nothing comes or a round has said 'no more'. C: what it asks of the world (the box that holds p). -/
def DrainSeq {α : Type} (P : Program) (g : Nat) (lb : Array Value) (popf : Nat) (p zv : Value) (enc : α → Value) (C : World → Prop) : Prop :=
  ∀ (σ : Type) (μ : σ → Nat) (l : Nat) (J Jd Jx : σ → World → Prop) (J1 : σ → α → World → Prop),
    (∀ s W, J s W → C W) → (∀ s W W', Below W.heap.size W W' → Jd s W → Jd s W') → (∀ s x W W', Below W.heap.size W W' → J1 s x W → J1 s x W') →
    (∀ s W, J s W → Calls P popf #[p] W fun e W' => (e = .returned (.tuple #[zv, .bool false]) ∧ Jd s W') ∨ (∃ x, e = .returned (.tuple #[enc x, .bool true]) ∧ J1 s x W')) →
    (∀ s x W, J1 s x W → YieldAt Fence.wide 2 P l #[enc x] W fun e W' => (e = .returned (.bool true) ∧ ∃ s', μ s' < μ s ∧ J s' W') ∨ (e = .returned (.bool false) ∧ ∃ s', Jx s' W')) →
    ∀ (s : σ) (W : World), J s W →
      CallsIn Fence.wide 3 P g (#[.func (.yield l) #[] #[]] ++ lb) W fun e W' => (∃ v, e = .returned v) ∧ ((∃ s', Jd s' W') ∨ ∃ s', Jx s' W')

theorem wpListIn_val {F : Fence} {n : Nat} {P : Program} {w w' : World} {ops : Array Oper} {rest : List Oper} {o : Oper} {a : Act} {Q : Exit → Act → World → Prop} (hg : o.guard = none) {v : Value} (hv : (execOp a.eval o).run P w = .ok (.value v) w')
    (hF : ∀ f, F.fn f) (hd : ∀ c, o.op ≠ .defer c) (h : wpListIn F n P ops Q rest (a.put o.dst v) w') : wpListIn F n P ops Q (o :: rest) a w := by
  refine wpListIn_plain hg fun K hK => ?_
  unfold Oper.wpIn
  refine ⟨fun f _ => hF f, ?_⟩
  rw [Oper.semAt_plain F _ _ (fun c hc => hd c hc), hv]
  exact hK _ _ h
theorem wpListIn_skip_ {F : Fence} {n : Nat} {P : Program} {w w' : World} {ops : Array Oper} {rest : List Oper} {o : Oper} {a : Act} {Q : Exit → Act → World → Prop} (hg : o.guard = none) (hv : (execOp a.eval o).run P w = .ok .skip w')
    (hF : ∀ f, F.fn f) (hd : ∀ c, o.op ≠ .defer c) (h : wpListIn F n P ops Q rest (a.put o.dst undef) w') : wpListIn F n P ops Q (o :: rest) a w := by
  refine wpListIn_plain hg fun K hK => ?_
  unfold Oper.wpIn
  refine ⟨fun f _ => hF f, ?_⟩
  rw [Oper.semAt_plain F _ _ (fun c hc => hd c hc), hv]
  exact hK _ _ h
theorem wpListIn_valG {F : Fence} {n : Nat} {P : Program} {w w' : World} {ops : Array Oper} {rest : List Oper} {o : Oper} {a : Act} {Q : Exit → Act → World → Prop} (hw : Region.wanted o (yielded ops a.tmps) = true) {v : Value} (hv : (execOp a.eval o).run P w = .ok (.value v) w')
    (hF : ∀ f, F.fn f) (hd : ∀ c, o.op ≠ .defer c) (h : wpListIn F n P ops Q rest (a.put o.dst v) w') : wpListIn F n P ops Q (o :: rest) a w := by
  refine BigFrame.wpListIn_want hw fun K hK => ?_
  unfold Oper.wpIn
  refine ⟨fun f _ => hF f, ?_⟩
  rw [Oper.semAt_plain F _ _ (fun c hc => hd c hc), hv]
  exact hK _ _ h

theorem wpIn_range_drain {P : Program} {α σ : Type} {g : Operand} {ps : Array Tmp} {assign body : Code} {Q : Exit → Act → World → Prop} {a : Act} {w : World}
    {gf : Nat} {lb : Array Value} (hg : a.eval g = .func (.func gf) #[] lb) (eg : ∀ args w, (callFunc gf args).run P w = .ok (.enter gf args) w)
    {popf : Nat} {p zv : Value} {enc : α → Value} {C : World → Prop} (hseq : DrainSeq P gf lb popf p zv enc C) (hps : ps.size = 1)
    (μ : σ → Nat) (I Id : σ → World → Prop) (Ix : Code → σ → World → Prop) (I1 : σ → α → World → Prop)
    (hI : OwnFrom w.heap.size I) (hI1 : ∀ x, OwnFrom w.heap.size fun s => I1 s x) (hId : OwnFrom w.heap.size Id) (hIx : ∀ c, OwnFrom w.heap.size (Ix c))
    (hC : ∀ s W, I s W → C W)
    (hpop : ∀ s W, I s W → Calls P popf #[p] W fun e W' => KeepsOthers W W' ∧ ((e = .returned (.tuple #[zv, .bool false]) ∧ Id s W') ∨ (∃ x, e = .returned (.tuple #[enc x, .bool true]) ∧ I1 s x W')))
    (s0 : σ) (h0 : I s0 w) (Ax : α → Act → World → Prop) (hAx : ∀ x a', OwnFrom w.heap.size fun (_ : Unit) W => Ax x a' W)
    (hassign : ∀ (l : Nat) (s : σ) (x : α) (W : World) (K : Act → World → Prop), I1 s x W → (∀ a' W', KeepsOthers W W' → Ax x a' W' → I1 s x W' → K a' W') →
      assign.wpIn (Fence.wide.inRound l) 2 P (Exit.then K (fun _ _ _ => False)) { tmps := (ps.zip #[enc x]).foldl (fun t (p, v) => t.setIfInBounds p v) a.tmps, defers := [] } W)
    (hbody : ∀ (l : Nat) (s : σ) (x : α) (a' : Act) (W : World), I1 s x W → Ax x a' W → body.wpIn (Fence.wide.inRound l) 2 P (popPost μ I Ix s W) a' W)
    (hdone : ∀ (D : Nat) (s : σ) (W : World), w.heap.size ≤ D → Id s W → W.heap[D]? = some (.deferred (some [])) → Q .normal { a with defers := { target := .collected D, args := #[] } :: a.defers } W)
    (hstop : ∀ (D : Nat) (c : Code) (s : σ) (W : World), w.heap.size ≤ D → Ix c s W → W.heap[D]? = some (.deferred (some [])) → c.wpIn Fence.wide 4 P Q { a with defers := { target := .collected D, args := #[] } :: a.defers } W) :
    (Code.rangeFunc g ps assign body).wpIn Fence.wide 4 P Q a w := by
  refine wpIn_rangeFunc fun fn hfn => ?_
  obtain ⟨rec, hrec⟩ : ∃ rec : LoopState → Option Code → Loop, rec = fun st pe => { state := st, pending := pe, fn, tmps := a.tmps, params := ps, assign, body, defers := w.heap.size } := ⟨_, rfl⟩
  obtain ⟨W1, hW1⟩ : ∃ W1, (w.alloc (.deferred (some []))).alloc (.loop (rec .ready none)) = W1 := ⟨_, rfl⟩
  have hL1 : W1.heap[w.heap.size + 1]? = some (.loop (rec .ready none)) := by
    have := World.alloc_heap_new (w.alloc (.deferred (some []))) (.loop (rec .ready none))
    rwa [World.size_alloc, hW1] at this
  have hK1 : W1.heap[w.heap.size]? = some (.deferred (some [])) := by
    rw [← hW1]; exact (Below.heap_alloc _ _ _ (by simp)).trans (World.alloc_heap_new w _)
  have hI01 : I s0 W1 := by rw [← hW1]; exact hI.alloc _ (hI.alloc _ h0)
  refine ⟨w.heap.size + 1, [{ target := .collected w.heap.size, args := #[] }], W1, { target := .fn (.func gf) lb, args := #[.func (.yield (w.heap.size + 1)) #[] #[]] }, W1, gf,
    #[.func (.yield (w.heap.size + 1)) #[] #[]] ++ lb, W1, ?_, ?_, fun _ _ => trivial, ?_, fun h => (by cases h), ?_⟩
  · rw [← hW1, hrec]; exact run_enterLoop_outer _ _ _ _ _
  · simp only [resolve, hg]
    simp [go_sem]
  · simp [invoke, go_sem, eg]
  obtain ⟨F, hF⟩ : ∃ F : LoopState → Option Code → World → Prop, F = fun st pe W => W.heap[w.heap.size + 1]? = some (.loop (rec st pe)) ∧ W.heap[w.heap.size]? = some (.deferred (some [])) := ⟨_, rfl⟩
  refine (hseq σ μ (w.heap.size + 1) (fun s W => I s W ∧ F .ready none W) (fun s W => Id s W ∧ F .ready none W)
    (fun s W => ∃ c, Ix c s W ∧ F .done (some c) W) (fun s x W => I1 s x W ∧ F .ready none W) (fun s W h => hC s W h.1) ?_ ?_ ?_ ?_ s0 W1 ⟨hI01, by rw [hF]; exact ⟨hL1, hK1⟩⟩).mono ?_
  · rintro s W W' hb ⟨h1, h2⟩
    rw [hF] at h2 ⊢
    exact ⟨hId s W W' none h1 ⟨hb.os, hb.tape, hb.output, hb.size, fun k hk _ => hb.block k hk⟩ (fun r e => by cases e), (hb.block _ (Array.getElem?_eq_some_iff.1 h2.1).1).trans h2.1, (hb.block _ (Array.getElem?_eq_some_iff.1 h2.2).1).trans h2.2⟩
  · rintro s x W W' hb ⟨h1, h2⟩
    rw [hF] at h2 ⊢
    exact ⟨hI1 x s W W' none h1 ⟨hb.os, hb.tape, hb.output, hb.size, fun k hk _ => hb.block k hk⟩ (fun r e => by cases e), (hb.block _ (Array.getElem?_eq_some_iff.1 h2.1).1).trans h2.1, (hb.block _ (Array.getElem?_eq_some_iff.1 h2.2).1).trans h2.2⟩
  · -- a pop
    rintro s W ⟨hi, hf⟩
    rw [hF] at hf
    refine (hpop s W hi).mono ?_
    rintro e W' ⟨hk, (⟨rfl, h⟩ | ⟨x, rfl, h⟩)⟩
    · exact .inl ⟨rfl, h, by rw [hF]; exact ⟨hk.same _ _ hf.1 rfl, hk.same _ _ hf.2 rfl⟩⟩
    · exact .inr ⟨x, rfl, h, by rw [hF]; exact ⟨hk.same _ _ hf.1 rfl, hk.same _ _ hf.2 rfl⟩⟩
  · -- one round
    rintro s x W ⟨hi, hf⟩
    rw [hF] at hf
    obtain ⟨hl, hk⟩ := hf
    have hy := run_yield (P := P) (args := #[enc x]) hl (by rw [hrec]; exact hps.symm)
    rw [hrec] at hy
    refine ⟨fn, _, assign, body, hy, roundIn_of_wpIn hfn (hassign _ s x W _ hi fun a' W' hko hax hi' => ?_)⟩
    replace hl := hko.same _ _ hl rfl
    replace hk := hko.same _ _ hk rfl
    have hlt : w.heap.size + 1 < W'.heap.size := (Array.getElem?_eq_some_iff.1 hl).1
    refine ⟨_, run_beginRound hl (by rw [hrec]), ?_⟩
    obtain ⟨W2, hW2⟩ : ∃ x, x = W'.putObj (w.heap.size + 1) (.loop { rec .ready none with state := .busy }) := ⟨_, rfl⟩
    have hl2 : W2.heap[w.heap.size + 1]? = some (.loop { rec .ready none with state := .busy }) := by rw [hW2]; exact World.putObj_heap_same hlt
    have hk2 : W2.heap[w.heap.size]? = some (.deferred (some [])) := by rw [hW2]; exact (World.putObj_heap_other (by omega)).trans hk
    have hi2 : I1 s x W2 := by rw [hW2]; exact (hI1 x).putObj _ hi' (by omega) hl rfl
    have hax2 : Ax x a' W2 := by rw [hW2]; exact (hAx x a').putObj (s := ()) _ hax (by omega) hl rfl
    rw [← hW2]
    refine wpIn_mono (hbody _ s x a' _ hi2 hax2) ?_
    have fin : ∀ (jump : Option Code) (W3 : World), KeepsOthers W2 W3 →
        (Instr.endRound (w.heap.size + 1) jump).run P W3 = .ok (.bool jump.isNone) (W3.putObj (w.heap.size + 1) (.loop (rec (if jump.isNone then .ready else .done) jump))) ∧
        W3.heap[w.heap.size + 1]? = some (.loop { rec .ready none with state := .busy }) ∧
        (W3.putObj (w.heap.size + 1) (.loop (rec (if jump.isNone then .ready else .done) jump))).heap[w.heap.size + 1]? = some (.loop (rec (if jump.isNone then .ready else .done) jump)) ∧
        (W3.putObj (w.heap.size + 1) (.loop (rec (if jump.isNone then .ready else .done) jump))).heap[w.heap.size]? = some (.deferred (some [])) := fun jump W3 hk3 => by
      have hl3 := hk3.same _ _ hl2 rfl
      have := run_endRound (P := P) jump hl3
      rw [hrec] at this ⊢
      rw [hrec] at hl3
      exact ⟨this, hl3, World.putObj_heap_same (Array.getElem?_eq_some_iff.1 hl3).1, (World.putObj_heap_other (by omega)).trans (hk3.same _ _ hk2 rfl)⟩
    intro e a3 W3 hp
    cases e with
    | normal =>
      obtain ⟨hk3, s', hm, hi3⟩ := hp
      obtain ⟨hr, hl3, hl4, hk4⟩ := fin none W3 hk3
      exact ⟨_, _, hr, .inl ⟨rfl, s', hm, hI.putObj _ hi3 (by omega) hl3 rfl, by rw [hF]; exact ⟨hl4, hk4⟩⟩⟩
    | ret =>
      obtain ⟨hk3, s', hi3⟩ := hp
      obtain ⟨hr, hl3, hl4, hk4⟩ := fin (some .ret) W3 hk3
      exact ⟨_, _, hr, .inr ⟨rfl, s', .ret, (hIx _).putObj _ hi3 (by omega) hl3 rfl, by rw [hF]; exact ⟨hl4, hk4⟩⟩⟩
    | exit id =>
      obtain ⟨hk3, s', hi3⟩ := hp
      obtain ⟨hr, hl3, hl4, hk4⟩ := fin (some (.exit id)) W3 hk3
      exact ⟨_, _, hr, .inr ⟨rfl, s', .exit id, (hIx _).putObj _ hi3 (by omega) hl3 rfl, by rw [hF]; exact ⟨hl4, hk4⟩⟩⟩
    | goto t =>
      obtain ⟨hk3, s', hi3⟩ := hp
      obtain ⟨hr, hl3, hl4, hk4⟩ := fin (some (.goto t)) W3 hk3
      exact ⟨_, _, hr, .inr ⟨rfl, s', .goto t, (hIx _).putObj _ hi3 (by omega) hl3 rfl, by rw [hF]; exact ⟨hl4, hk4⟩⟩⟩
    | panic ch => exact hp.elim
    | outgrown => exact hp.elim
  · -- behind the iterator
    rw [hF]
    rintro e W2 ⟨⟨v, rfl⟩, (⟨s', hi, hl, hk⟩ | ⟨s', c, hi, hl, hk⟩)⟩
    · have hr := run_endLoop (P := P) hl (by rw [hrec]; simp)
      rw [hrec] at hr
      exact ⟨none, _, hr, hdone _ s' _ (Nat.le_refl _) (hId.putObj _ hi (by omega) hl rfl) ((World.putObj_heap_other (by omega)).trans hk)⟩
    · have hr := run_endLoop (P := P) hl (by rw [hrec]; simp)
      rw [hrec] at hr
      exact ⟨some c, _, hr, hstop _ c s' _ (Nat.le_refl _) ((hIx c).putObj _ hi (by omega) hl rfl) ((World.putObj_heap_other (by omega)).trans hk)⟩
end Go.Proofs.Ytdebokambldbbaa.Drain
