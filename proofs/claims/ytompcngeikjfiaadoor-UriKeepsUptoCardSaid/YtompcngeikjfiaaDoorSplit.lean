/- A range over an iterator that keeps state of its own in a captured variable (strings.SplitSeq): a law of the loop, and the iterator's contract at a separator of one byte. -/
import Derived.RangeFuncNested
import Derived.RangeFuncBound
import Derived.RangeFuncCalls
import Derived.RangeFuncLeaves
import Derived.RangeFuncBox
import Derived.Shelf.Abstract
import Derived.Shelf.RegionOpen
import Derived.WalkKit
import Derived.OwnWalkIn
import Derived.TacticsInMore
import Derived.LoopNIn
import Derived.LoopIn
import Derived.Test.YtompcngeikjfiaaDoorStrs
import Derived.Test.YtompcngeikjfiaaDoorLaws
namespace Go.Proofs.YtompcngeikjfiaaDoor.Split
open Go.RowKit Go.Shelf Go.Proofs.YtompcngeikjfiaaDoor.Mem Go.Proofs.YtompcngeikjfiaaDoor.Strs
attribute [local go_sem] Oper.semAt_some
set_option linter.unusedVariables false

/-! ### In plain words -/
def splitL (c : UInt8) : List UInt8 → List (List UInt8)
  | [] => [[]]
  | x :: r => if x = c then [] :: splitL c r else match splitL c r with | [] => [[x]] | h :: t => (x :: h) :: t
theorem splitL_none {c : UInt8} : ∀ {l : List UInt8}, cutL c l = none → splitL c l = [l]
  | [], _ => rfl
  | x :: r, h => by
    unfold cutL at h
    by_cases hx : x = c
    · rw [if_pos hx] at h; cases h
    · rw [if_neg hx] at h
      have := splitL_none (l := r) (by simpa using h)
      rw [splitL, if_neg hx, this]
theorem splitL_some {c : UInt8} : ∀ {l a b : List UInt8}, cutL c l = some (a, b) → splitL c l = a :: splitL c b
  | [], a, b, h => by cases h
  | x :: r, a, b, h => by
    unfold cutL at h
    by_cases hx : x = c
    · rw [if_pos hx] at h
      simp only [Option.some.injEq, Prod.mk.injEq] at h
      obtain ⟨rfl, rfl⟩ := h
      rw [splitL, if_pos hx]
    · rw [if_neg hx] at h
      cases hr : cutL c r with
      | none => rw [hr] at h; cases h
      | some p =>
        rw [hr] at h
        simp only [Option.map_some, Option.some.injEq, Prod.mk.injEq] at h
        obtain ⟨rfl, rfl⟩ := h
        have := splitL_some (a := p.1) (b := p.2) hr
        rw [splitL, if_neg hx, this]

/-! ### The law of the loop -/
/-- The captured boxes lie as they lay. -/
def Kept (bs : List Nat) (W W' : World) : Prop := ∀ b ∈ bs, W'.heap[b]? = W.heap[b]?
theorem Kept.trans {bs : List Nat} {A B C : World} (h : Kept bs A B) (g : Kept bs B C) : Kept bs A C := fun b hb => (g b hb).trans (h b hb)
theorem Kept.refl (bs : List Nat) (A : World) : Kept bs A A := fun _ _ => rfl
theorem Kept.below {bs : List Nat} {n : Nat} {A B : World} (h : Below n A B) (hb : ∀ b ∈ bs, b < n) : Kept bs A B := fun b hm => h.block b (hb b hm)
theorem Kept.setCell {bs : List Nat} (A : World) (a : Addr) (v : Value) (h : a.block ∉ bs) : Kept bs A (A.setCell a v) := fun b hm => Below.heap_setCell _ _ _ _ (fun e => h (e ▸ hm))
theorem others_of_below {A B : World} (h : Below A.heap.size A B) : KeepsOthers A B := ⟨h.size, fun k o hk _ => (h.block k (Array.getElem?_eq_some_iff.1 hk).1).trans hk⟩

def boxPost {α : Type} (bs : List Nat) (I Ix : List α → World → Prop) (xs : List α) (W : World) : Exit → Act → World → Prop
  | .normal, _, W' => KeepsOthers W W' ∧ Kept bs W W' ∧ I xs W'
  | .ret, _, W' => KeepsOthers W W' ∧ Ix xs W'
  | _, _, _ => False

/-- What the iterator promises: c is the box in which it keeps its own state. -/
def SeqBox {α : Type} (P : Program) (g : Nat) (lb : Array Value) (encs : α → Array Value) (bs : List Nat) (c : Nat) (S Sp : List α → Prop) (N : List α → α → Prop) (w : World) : Prop :=
  ∀ (l : Nat) (J Jx : List α → World → Prop) (W : World), Kept bs w W → (∀ pre A v, J pre A → J pre (A.setCell ⟨c, 0, none⟩ v)) →
    (∀ pre x W1, J pre W1 → N pre x → YieldAt Fence.wide 2 P l (encs x) W1 fun e W' =>
      (e = .returned (.bool true) ∧ J (pre ++ [x]) W' ∧ Kept bs W1 W') ∨ (e = .returned (.bool false) ∧ Jx (pre ++ [x]) W')) →
    J [] W →
    CallsIn Fence.wide 3 P g (#[.func (.yield l) #[] #[]] ++ lb) W fun e W' => (∃ v, e = .returned v) ∧ ((∃ xs, S xs ∧ J xs W') ∨ (∃ pre, Sp pre ∧ Jx pre W'))

theorem wpIn_range_box {P : Program} {α : Type} {g : Operand} {ps : Array Tmp} {assign body : Code} {Q : Exit → Act → World → Prop} {a : Act} {w : World}
    {gf : Nat} {lb : Array Value} (hg : a.eval g = .func (.func gf) #[] lb) (eg : ∀ args w, (callFunc gf args).run P w = .ok (.enter gf args) w)
    {encs : α → Array Value} {bs : List Nat} {c : Nat} {S Sp : List α → Prop} {N : List α → α → Prop} (hseq : SeqBox P gf lb encs bs c S Sp N w)
    (hbs : ∀ b ∈ bs, b < w.heap.size) (hc : c < w.heap.size) (hps : ∀ x, (encs x).size = ps.size)
    (I Ix : List α → World → Prop) (hI : OwnFrom w.heap.size I) (hIx : OwnFrom w.heap.size Ix) (hIc : ∀ pre A v, I pre A → I pre (A.setCell ⟨c, 0, none⟩ v)) (h0 : I [] w) (a₁ : α → Act)
    (hassign : ∀ (l : Nat) (x : α) (W : World) (K : Act → World → Prop), K (a₁ x) W →
      assign.wpIn (Fence.wide.inRound l) 2 P (Exit.then K (fun _ _ _ => False)) { tmps := (ps.zip (encs x)).foldl (fun t (p, v) => t.setIfInBounds p v) a.tmps, defers := [] } W)
    (hbody : ∀ (l : Nat) (pre : List α) (x : α) (W : World), I pre W → N pre x → body.wpIn (Fence.wide.inRound l) 2 P (boxPost bs I Ix (pre ++ [x]) W) (a₁ x) W)
    (hdone : ∀ (D : Nat) (xs : List α) (W : World), w.heap.size ≤ D → S xs → I xs W → W.heap[D]? = some (.deferred (some [])) → Q .normal { a with defers := { target := .collected D, args := #[] } :: a.defers } W)
    (hstop : ∀ (D : Nat) (pre : List α) (W : World), w.heap.size ≤ D → Sp pre → Ix pre W → W.heap[D]? = some (.deferred (some [])) → Code.ret.wpIn Fence.wide 4 P Q { a with defers := { target := .collected D, args := #[] } :: a.defers } W) :
    (Code.rangeFunc g ps assign body).wpIn Fence.wide 4 P Q a w := by
  refine wpIn_rangeFunc fun fn hfn => ?_
  -- the loop's record lies at w.heap.size + 1, the block for the rounds' deferred calls at w.heap.size
  obtain ⟨rec, hrec⟩ : ∃ rec : LoopState → Option Code → Loop, rec = fun st pe => { state := st, pending := pe, fn, tmps := a.tmps, params := ps, assign, body, defers := w.heap.size } := ⟨_, rfl⟩
  obtain ⟨W1, hW1⟩ : ∃ W1, (w.alloc (.deferred (some []))).alloc (.loop (rec .ready none)) = W1 := ⟨_, rfl⟩
  have hL1 : W1.heap[w.heap.size + 1]? = some (.loop (rec .ready none)) := by
    have := World.alloc_heap_new (w.alloc (.deferred (some []))) (.loop (rec .ready none))
    rwa [World.size_alloc, hW1] at this
  have hK1 : W1.heap[w.heap.size]? = some (.deferred (some [])) := by
    rw [← hW1]; exact (Below.heap_alloc _ _ _ (by simp)).trans (World.alloc_heap_new w _)
  have hI1 : I [] W1 := by rw [← hW1]; exact hI.alloc _ (hI.alloc _ h0)
  have hk1 : Kept bs w W1 := by
    rw [← hW1]
    exact Kept.below (((Below.refl _ w).alloc (Nat.le_refl _) _).alloc (by simp) _) hbs
  refine ⟨w.heap.size + 1, [{ target := .collected w.heap.size, args := #[] }], W1, { target := .fn (.func gf) lb, args := #[.func (.yield (w.heap.size + 1)) #[] #[]] }, W1, gf,
    #[.func (.yield (w.heap.size + 1)) #[] #[]] ++ lb, W1, ?_, ?_, fun _ _ => trivial, ?_, fun h => (by cases h), ?_⟩
  · rw [← hW1, hrec]; exact run_enterLoop_outer _ _ _ _ _
  · simp only [resolve, hg]
    simp [go_sem]
  · simp [invoke, go_sem, eg]
  -- the two facts of book-keeping beside the caller's invariant; neither block is a box
  have hset : ∀ (A : World) (v : Value) (k : Nat), w.heap.size ≤ k → (A.setCell ⟨c, 0, none⟩ v).heap[k]? = A.heap[k]? := fun A v k hk => Below.heap_setCell _ _ _ _ (by show k ≠ c; omega)
  have hput : ∀ (A : World) (o : Obj) (k : Nat), w.heap.size ≤ k → Kept bs A (A.putObj k o) := fun A o k hk b hb => World.putObj_heap_other (by have := hbs b hb; omega)
  refine (hseq (w.heap.size + 1)
    (fun pre W => I pre W ∧ W.heap[w.heap.size + 1]? = some (.loop (rec .ready none)) ∧ W.heap[w.heap.size]? = some (.deferred (some [])))
    (fun pre W => Ix pre W ∧ W.heap[w.heap.size + 1]? = some (.loop (rec .done (some .ret))) ∧ W.heap[w.heap.size]? = some (.deferred (some [])))
    W1 hk1 (fun pre A v h => ⟨hIc _ _ _ h.1, (hset _ _ _ (by omega)).trans h.2.1, (hset _ _ _ (Nat.le_refl _)).trans h.2.2⟩) ?_ ⟨hI1, hL1, hK1⟩).mono ?_
  · -- one round
    rintro pre x W ⟨hi, hl, hk⟩ hlen
    have hlt : w.heap.size + 1 < W.heap.size := (Array.getElem?_eq_some_iff.1 hl).1
    have hy := run_yield (P := P) (args := encs x) hl (by rw [hrec]; exact hps x)
    rw [hrec] at hy
    refine ⟨fn, _, assign, body, hy, roundIn_of_wpIn hfn (hassign _ x W _ ⟨_, run_beginRound hl (by rw [hrec]), ?_⟩)⟩
    obtain ⟨W2, hW2⟩ : ∃ x, x = W.putObj (w.heap.size + 1) (.loop { rec .ready none with state := .busy }) := ⟨_, rfl⟩
    have hl2 : W2.heap[w.heap.size + 1]? = some (.loop { rec .ready none with state := .busy }) := by rw [hW2]; exact World.putObj_heap_same hlt
    have hk2 : W2.heap[w.heap.size]? = some (.deferred (some [])) := by rw [hW2]; exact (World.putObj_heap_other (by omega)).trans hk
    have hw2 : Kept bs W W2 := by rw [hW2]; exact hput _ _ _ (by omega)
    have hi2 : I pre W2 := by rw [hW2]; exact hI.putObj _ hi (by omega) hl rfl
    rw [← hW2]
    refine wpIn_mono (hbody _ pre x _ hi2 hlen) ?_
    have fin : ∀ (jump : Option Code) (W3 : World), KeepsOthers W2 W3 →
        (Instr.endRound (w.heap.size + 1) jump).run P W3 = .ok (.bool jump.isNone) (W3.putObj (w.heap.size + 1) (.loop (rec (if jump.isNone then .ready else .done) jump))) ∧
        W3.heap[w.heap.size + 1]? = some (.loop { rec .ready none with state := .busy }) ∧
        (W3.putObj (w.heap.size + 1) (.loop (rec (if jump.isNone then .ready else .done) jump))).heap[w.heap.size + 1]? = some (.loop (rec (if jump.isNone then .ready else .done) jump)) ∧
        (W3.putObj (w.heap.size + 1) (.loop (rec (if jump.isNone then .ready else .done) jump))).heap[w.heap.size]? = some (.deferred (some [])) := fun jump W3 hk3 => by
      have hl3 := hk3.same _ _ hl2 rfl
      have := run_endRound (P := P) jump hl3
      rw [hrec] at this ⊢
      rw [hrec] at hl3
      exact ⟨this, hl3, World.putObj_heap_same (Array.getElem?_eq_some_iff.1 hl3).1, (World.putObj_heap_other (by omega)).trans (hk3.same _ _ hk2 rfl)⟩
    intro e a3 W3 hp
    cases e with
    | normal =>
      obtain ⟨hk3, hkp3, hi3⟩ := hp
      obtain ⟨hr, hl3, hl4, hk4⟩ := fin none W3 hk3
      exact ⟨_, _, hr, .inl ⟨rfl, ⟨hI.putObj _ hi3 (by omega) hl3 rfl, hl4, hk4⟩, (hw2.trans hkp3).trans (hput _ _ _ (by omega))⟩⟩
    | ret =>
      obtain ⟨hk3, hi3⟩ := hp
      obtain ⟨hr, hl3, hl4, hk4⟩ := fin (some .ret) W3 hk3
      exact ⟨_, _, hr, .inr ⟨rfl, hIx.putObj _ hi3 (by omega) hl3 rfl, hl4, hk4⟩⟩
    | exit id => exact hp.elim
    | goto t => exact hp.elim
    | panic ch => exact hp.elim
    | outgrown => exact hp.elim
  · -- behind the iterator
    rintro e W2 ⟨⟨v, rfl⟩, (⟨xs, hS, hi, hl, hk⟩ | ⟨pre, hSp, hi, hl, hk⟩)⟩
    · have hr := run_endLoop (P := P) hl (by rw [hrec]; simp)
      rw [hrec] at hr
      exact ⟨none, _, hr, hdone _ xs _ (Nat.le_refl _) hS (hI.putObj _ hi (by omega) hl rfl) ((World.putObj_heap_other (by omega)).trans hk)⟩
    · have hr := run_endLoop (P := P) hl (by rw [hrec]; simp)
      rw [hrec] at hr
      exact ⟨some .ret, _, hr, hstop _ pre _ (Nat.le_refl _) hSp (hIx.putObj _ hi (by omega) hl rfl) ((World.putObj_heap_other (by omega)).trans hk)⟩

/-! ### strings.SplitSeq at a separator of one byte -/
def sizeAt (W : World) (b : Nat) : Nat := match W.cell? ⟨b, 0, none⟩ with | some (.string s) => s.size | _ => 0
def strOf (l : List UInt8) : Value := .string ⟨l.toArray⟩
theorem cut_ext {c : UInt8} {l a b : List UInt8} (h : cutL c l = some (a, b)) (s : ByteArray) (hs : s = ⟨l.toArray⟩) : s.extract 0 a.length = ⟨a.toArray⟩ ∧ s.extract (a.length + 1) s.size = ⟨b.toArray⟩ ∧ a.length + 1 + b.length = l.length := by
  have hla := (cutL_some h).1
  have hsz : s.size = l.length := by rw [hs]; simp [ByteArray.size]
  refine ⟨by rw [hs, hla]; exact ext_head a (c :: b), ?_, by rw [hla]; simp; omega⟩
  rw [hsz, hs, hla]
  have := ext_tail (a ++ [c]) b
  simpa using this
set_option maxRecDepth 100000 in
set_option maxHeartbeats 3200000 in
theorem split_stops (c : UInt8) (l : List UInt8) (hl : l.length ≤ 1152921504606846976) (Bp Bs Bv : Nat) (w : World) (hps : Bp ≠ Bs) (hvs : Bv ≠ Bs)
    (hBp : Boxed w Bp 9 (.string ⟨#[c]⟩)) (hBs : Boxed w Bs 9 (strOf l)) (hBv : Boxed w Bv 3 (.int .i64 0)) :
    SeqBox Tryd.prog 43 #[.pointer (some ⟨Bp, 0, none⟩), .pointer (some ⟨Bs, 0, none⟩), .pointer (some ⟨Bv, 0, none⟩)] (fun x : List UInt8 => #[strOf x]) [Bp, Bs, Bv] Bs
      (fun xs => xs = splitL c l) (fun pre => pre <+: splitL c l) (fun pre x => pre ++ [x] <+: splitL c l) w := by
  intro lp J Jx W hW hJ hY h0
  have bp : Boxed W Bp 9 (.string ⟨#[c]⟩) := (hW Bp (by simp)).trans hBp
  have bs : Boxed W Bs 9 (strOf l) := (hW Bs (by simp)).trans hBs
  have bv : Boxed W Bv 3 (.int .i64 0) := (hW Bv (by simp)).trans hBv
  have HY := Lib.hid hY
  have HJ := Lib.hid hJ
  clear hBp hBs hBv hW hY hJ
  refine callsIn_of_wp Tryd.func43 rfl trivial ?_ rfl
  simp only [Tryd.ntmps43, List.size_toArray, List.length_cons, List.length_nil, Nat.reduceAdd, Nat.reduceSub, Array.replicate_succ, Array.replicate_zero, List.push_toArray, List.append_toArray, List.nil_append, List.cons_append]
  have cp := bp.cell
  have cs := bs.cell
  have cv := bv.cell
  gi_wp2
  gi_loopw [7, 8] (fun _ _ wr => ∃ (pre : List (List UInt8)) (rest : List UInt8), splitL c l = pre ++ splitL c rest ∧ rest.length ≤ l.length ∧ Boxed wr Bs 9 (strOf rest) ∧ Boxed wr Bp 9 (.string ⟨#[c]⟩) ∧ Boxed wr Bv 3 (.int .i64 0) ∧ J pre wr) (fun _ _ wr => sizeAt wr Bs)
  case atStart => exact ⟨[], l, by simp, Nat.le_refl _, bs, bp, bv, h0⟩
  case round =>
    obtain ⟨pre, rest, hsp, hrl, bs', bp', bv', hj⟩ := hrel
    have cp' := bp'.cell
    have cs' := bs'.cell
    have cv' := bv'.cell
    have fs' := bs'.frozen
    clear cp cs cv bp bs bv h0
    cases hc : cutL c rest with
    | none =>
      have hi := indexByte_none hc
      rw [splitL_none hc] at hsp
      obtain ⟨fn, tmps, assign, body, hy, hR⟩ := HY.out pre rest wr hj ⟨[], by rw [hsp]; simp⟩
      clear hrl hc
      unfold strOf at *
      gi_wp2_with (refine ⟨trivial, ?_⟩; gi_at_call 45; refine (callsIn_wide.2 (index_one _ _ _)).mono ?_; rintro e w' ⟨rfl, rfl⟩; rw [show (⟨rest.toArray⟩ : ByteArray).data.toList = rest from rfl, hi])
      refine hR.mono ?_
      rintro e W3 (⟨rfl, hJ3, hk3⟩ | ⟨rfl, hJx3⟩)
      · gi_wp2
        go_end0
        exact ⟨⟨_, rfl⟩, .inl ⟨pre ++ [rest], hsp.symm, hJ3⟩⟩
      · gi_wp2
        go_end0
        exact ⟨⟨_, rfl⟩, .inr ⟨pre ++ [rest], ⟨[], by rw [hsp]; simp⟩, hJx3⟩⟩
    | some p =>
      obtain ⟨a, b⟩ := p
      have hi := indexByte_some hc
      rw [splitL_some hc] at hsp
      obtain ⟨fn, tmps, assign, body, hy, hR⟩ := HY.out pre a wr hj ⟨splitL c b, by rw [hsp]; simp⟩
      obtain ⟨n, hn⟩ : ∃ n, n = a.length := ⟨_, rfl⟩
      obtain ⟨s, hs⟩ : ∃ s, s = (⟨rest.toArray⟩ : ByteArray) := ⟨_, rfl⟩
      obtain ⟨e1, e2, e3⟩ := cut_ext hc s hs
      rw [← hn] at hi e1 e2 e3
      have hsz : s.size = rest.length := by rw [hs]; simp [ByteArray.size]
      unfold strOf at *
      rw [← hs] at cs'
      have q1 : (n : Int) ≤ (s.size : Int) := by omega
      have q1' : (n : Int) + 1 ≤ (s.size : Int) := by omega
      have q2 : (0 : Int) ≤ (n : Int) := by omega
      have q2' : (0 : Int) ≤ (n : Int) + 1 := by omega
      have q3 : ¬ (n : Int) < 0 := by omega
      have q4 : wrap64 (n : Int) = (n : Int) := by unfold wrap64; omega
      have q5 : wrap64 ((n : Int) + 1) = (n : Int) + 1 := by unfold wrap64; omega
      have q6 : ((n : Int) + 1).toNat = n + 1 := by omega
      have HN := Lib.hid (And.intro hn (And.intro hsz (And.intro e3 (And.intro hsp hrl))))
      have HS := Lib.hid hs
      clear hrl hc hs hn hsz e3 hsp
      gi_wp2_with (refine ⟨trivial, ?_⟩; gi_at_call 45; refine (callsIn_wide.2 (index_one _ _ _)).mono ?_; rintro e w' ⟨rfl, rfl⟩; rw [HS.out, show (⟨rest.toArray⟩ : ByteArray).data.toList = rest from rfl, hi])
      refine hR.mono ?_
      rintro e W3 (⟨rfl, hJ3, hk3⟩ | ⟨rfl, hJx3⟩)
      · have bs3 : Boxed W3 Bs 9 _ := (hk3 Bs (by simp)).trans bs'
        have bp3 : Boxed W3 Bp 9 _ := (hk3 Bp (by simp)).trans bp'
        have bv3 : Boxed W3 Bv 3 _ := (hk3 Bv (by simp)).trans bv'
        have HB := Lib.hid (And.intro bs' (And.intro bs3 (And.intro bp3 bv3)))
        replace cp' := bp3.cell
        replace cs' := bs3.cell
        replace fs' := bs3.frozen
        rw [← HS.out] at cs'
        clear bs' bp' bv' bs3 bp3 bv3 cv' hk3 hR hy hj
        have HJ3 := Lib.hid hJ3
        clear hJ3
        gi_wp2
        go_roundw
        case rel =>
          obtain ⟨hn, hsz, e3, hsp, hrl⟩ := HN.out
          exact ⟨pre ++ [a], b, by rw [hsp]; simp, by omega, HB.out.2.1.set _, HB.out.2.2.1.other hps _, HB.out.2.2.2.other hvs _, HJ.out _ _ _ HJ3.out⟩
        case measure =>
          obtain ⟨hn, hsz, e3, hsp, hrl⟩ := HN.out
          have h1 : sizeAt w' Bs = rest.length := by unfold sizeAt; rw [HB.out.1.cell]; simp [ByteArray.size]
          have h2 : sizeAt (W3.setCell ⟨Bs, 0, none⟩ (.string ⟨b.toArray⟩)) Bs = b.length := by unfold sizeAt; rw [(HB.out.2.1.set _).cell]; simp [ByteArray.size]
          rw [h1, h2]
          omega
      · gi_wp2
        refine bodyPost_ret (results_none rfl _ _ _) rfl ?_
        exact ⟨⟨_, rfl⟩, .inr ⟨pre ++ [a], ⟨splitL c b, by rw [HN.out.2.2.2.1]; simp⟩, hJx3⟩⟩
end Go.Proofs.YtompcngeikjfiaaDoor.Split
