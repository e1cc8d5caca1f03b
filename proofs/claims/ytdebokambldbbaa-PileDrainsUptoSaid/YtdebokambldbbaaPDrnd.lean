/- weirlaw07.drained: what it takes out and what stays. -/
import Derived.Test.YtdebokambldbbaaPFam
namespace Go.Proofs.Ytdebokambldbbaa.LawP
open Go.RowKit Go.Shelf Go.Proofs.Ytdebokambldbbaa.Mem Go.Proofs.Ytdebokambldbbaa.Heap Go.Proofs.Ytdebokambldbbaa.Pile Go.Proofs.Ytdebokambldbbaa.PileI Go.Proofs.Ytdebokambldbbaa.Drain
attribute [local go_sem] Oper.semAt_some
set_option linter.unusedVariables false
set_option linter.unusedSectionVars false
set_option linter.unusedSimpArgs false
set_option maxRecDepth 100000
set_option maxHeartbeats 6400000

/-! ### the plain part -/
def fstI (lt : Itm → Itm → Bool) (L : List (Itm × Nat)) : Nat := (first lt (L.map (·.1))).getD 0
/-- what is in the pile behind j things, and the next number -/
def dsL (lt : Itm → Itm → Bool) (more : Bool) (late : Itm) (L : List (Itm × Nat)) (nx : Nat) : Nat → List (Itm × Nat) × Nat
  | 0 => (L, nx)
  | j + 1 => if more && (j == 0) then ((dsL lt more late L nx j).1.eraseIdx (fstI lt (dsL lt more late L nx j).1) ++ [(late, (dsL lt more late L nx j).2)], (dsL lt more late L nx j).2 + 1)
    else ((dsL lt more late L nx j).1.eraseIdx (fstI lt (dsL lt more late L nx j).1), (dsL lt more late L nx j).2)
/-- the thing that is taken then -/
def dsX (lt : Itm → Itm → Bool) (more : Bool) (late : Itm) (L : List (Itm × Nat)) (nx j : Nat) : Itm := (nth (dsL lt more late L nx j).1 (fstI lt (dsL lt more late L nx j).1)).1
def dsO (lt : Itm → Itm → Bool) (more : Bool) (late : Itm) (L : List (Itm × Nat)) (nx r : Nat) : List Itm := (List.range r).map (dsX lt more late L nx)
section
variable {lt : Itm → Itm → Bool} {more : Bool} {late : Itm} {L : List (Itm × Nat)} {nx : Nat}
theorem dsO_succ (r : Nat) : dsO lt more late L nx (r + 1) = dsO lt more late L nx r ++ [dsX lt more late L nx r] := by unfold dsO; rw [List.range_succ, List.map_append]; rfl
theorem dsO_len (r : Nat) : (dsO lt more late L nx r).length = r := by unfold dsO; simp
theorem fstI_lt (o : Swo lt) {M : List (Itm × Nat)} (h : M ≠ []) : fstI lt M < M.length ∧ first lt (M.map (·.1)) = some (fstI lt M) := by
  have hp := List.length_pos_iff.2 h
  obtain ⟨b, h1, h2, _⟩ := first_some o (l := M.map (·.1)) (by rw [List.length_map]; exact hp)
  rw [List.length_map] at h2
  unfold fstI
  rw [h1]
  exact ⟨h2, rfl⟩
theorem dsL_more {r : Nat} (hm : more = true) (h0 : r = 0) : dsL lt more late L nx (r + 1) = ((dsL lt more late L nx r).1.eraseIdx (fstI lt (dsL lt more late L nx r).1) ++ [(late, (dsL lt more late L nx r).2)], (dsL lt more late L nx r).2 + 1) := by
  rw [dsL, if_pos (by rw [hm, h0]; rfl)]
theorem dsL_less {r : Nat} (h : ¬ (more = true ∧ r = 0)) : dsL lt more late L nx (r + 1) = ((dsL lt more late L nx r).1.eraseIdx (fstI lt (dsL lt more late L nx r).1), (dsL lt more late L nx r).2) := by
  rw [dsL, if_neg (by intro e; rw [Bool.and_eq_true, beq_iff_eq] at e; exact h e)]
theorem dsL_len (o : Swo lt) : ∀ (r : Nat), (∀ j, j < r → (dsL lt more late L nx j).1 ≠ []) → (dsL lt more late L nx r).1.length + r ≤ L.length + (if r = 0 then 0 else 1) ∧ (dsL lt more late L nx r).2 ≤ nx + (if r = 0 then 0 else 1)
  | 0, _ => ⟨by simp [dsL], by simp [dsL]⟩
  | r + 1, h => by
    have ih := dsL_len o r (fun j hj => h j (by omega))
    have h1 := fstI_lt o (h r (Nat.lt_succ_self r))
    rw [if_neg (Nat.succ_ne_zero r)]
    by_cases e : more = true ∧ r = 0
    · rw [dsL_more e.1 e.2]
      rw [if_pos e.2] at ih
      simp only [List.length_append, List.length_cons, List.length_nil]
      rw [List.length_eraseIdx_of_lt h1.1]
      omega
    · rw [dsL_less e]
      simp only
      rw [List.length_eraseIdx_of_lt h1.1]
      split at ih <;> omega
end

/-! ### in memory -/
/-- the boxes of drained, its list, the pile -/
structure DC (flat : Bool) (B p b b6 b8 b9 b10 b11 bo Bo : Nat) (v : Value) (most stop : Int) (more : Bool) (late : Itm) (W0 : World) (Lc : List (Itm × Nat)) (nxc : Nat) (d : List Itm) (W : World) : Prop where
  pl : ∃ v' es', PlK thI W B p v' (fvF flat) es' nxc ∧ Book (ltF flat) es' Lc nxc ∧ ∀ g, v'.ownBlock = some g → v.ownBlock = some g ∨ W0.heap.size ≤ g
  out : ∃ u, Boxed W bo 32 u ∧ W.ownsRow Bo 35 2 u d.length (d.flatMap Itm.cells)
  seq : Boxed W b 30 (.pointer (some ⟨p, 0, none⟩))
  x6 : Boxed W b6 30 (.pointer (some ⟨p, 0, none⟩))
  x8 : Boxed W b8 3 (.int .i64 most)
  x9 : Boxed W b9 3 (.int .i64 stop)
  x10 : Boxed W b10 4 (.bool more)
  x11 : Blk W b11 35 (Itm.cells late)
  gr : Grown2 W0 W (some p) v.ownBlock
structure DN (B p b11 bo Bo : Nat) (v : Value) (w0 W0 : World) : Prop where
  h1 : b11 < Bo
  h2 : W0.heap.size ≤ Bo
  hp : p < W0.heap.size
  low : Below B w0 W0
  hB0 : B ≤ w0.heap.size
  hBp : B ≤ p
  hv : ∀ g, v.ownBlock = some g → B ≤ g ∧ g < W0.heap.size
  h3 : W0.heap.size ≤ b11
  h4 : W0.heap.size ≤ bo
section
variable {flat : Bool} {B p b b6 b8 b9 b10 b11 bo Bo : Nat} {v : Value} {most stop : Int} {more : Bool} {late : Itm} {w0 W0 W W' : World} {Lc : List (Itm × Nat)} {nxc : Nat} {d : List Itm}
theorem DC.turned (s : DC flat B p b b6 b8 b9 b10 b11 bo Bo v most stop more late W0 Lc nxc d W) {row : Option Nat} (hg : W.grownBy W' row) (hr : ∀ r, row = some r → W0.heap.size ≤ r ∧ ∃ o : Obj, W.heap[r]? = some o ∧ o.isCells = false) : DC flat B p b b6 b8 b9 b10 b11 bo Bo v most stop more late W0 Lc nxc d W' := by
  obtain ⟨v', es', hp, hb, hv⟩ := s.pl
  obtain ⟨u, hu, ho⟩ := s.out
  have hr' : ∀ r, row = some r → ∃ o : Obj, W.heap[r]? = some o ∧ o.isCells = false := fun r e => (hr r e).2
  exact ⟨⟨v', es', hp.turned hg hr', hb, hv⟩, ⟨u, boxed_turned hu hg hr', own_turned ho hg hr'⟩, boxed_turned s.seq hg hr', boxed_turned s.x6 hg hr', boxed_turned s.x8 hg hr', boxed_turned s.x9 hg hr', boxed_turned s.x10 hg hr', blk_turned s.x11 hg hr', s.gr.step hg (fun k e => .inr (.inr (hr k e).1))⟩
theorem DC.grow (s : DC flat B p b b6 b8 b9 b10 b11 bo Bo v most stop more late W0 Lc nxc d W) (hb : Below W.heap.size W W') : DC flat B p b b6 b8 b9 b10 b11 bo Bo v most stop more late W0 Lc nxc d W' :=
  s.turned (row := none) ⟨hb.os, hb.tape, hb.output, hb.size, fun k hk _ => hb.block k hk⟩ (fun r e => by cases e)
theorem DC.own {B' : Nat} (hB : W0.heap.size ≤ B') {γ : Type} (f : γ → List (Itm × Nat)) (g : γ → Nat) (h : γ → List Itm) : OwnFrom B' (fun (s : γ) W => DC flat B p b b6 b8 b9 b10 b11 bo Bo v most stop more late W0 (f s) (g s) (h s) W) :=
  fun s W W' row hs hg hr => hs.turned hg (fun r e => ⟨Nat.le_trans hB (hr r e).1, (hr r e).2⟩)
/-- the pile has turned -/
theorem DC.step (s : DC flat B p b b6 b8 b9 b10 b11 bo Bo v most stop more late W0 Lc nxc d W) (n : DN B p b11 bo Bo v w0 W0) {v1 v2 : Value} {es1 es2 : List (Itm × Nat)} {L2 : List (Itm × Nat)} {nx2 : Nat}
    (h1 : PlK thI W B p v1 (fvF flat) es1 nxc) (hv1 : ∀ g, v1.ownBlock = some g → v.ownBlock = some g ∨ W0.heap.size ≤ g) (h2 : PlK thI W' B p v2 (fvF flat) es2 nx2) (hb : Book (ltF flat) es2 L2 nx2) (hg : Grown2 W W' (some p) v1.ownBlock) (hv2 : ∀ g, v2.ownBlock = some g → v1.ownBlock = some g ∨ W.heap.size ≤ g) :
    KeepsOthers W W' ∧ DC flat B p b b6 b8 b9 b10 b11 bo Bo v most stop more late W0 L2 nx2 d W' := by
  obtain ⟨u, hu, ho⟩ := s.out
  have nb : ∀ {g : Nat} {T : TypeId} {cs : List Value}, Blk W g T cs → T ≠ 77 → T ≠ 79 → Blk W' g T cs := fun hbl e1 e2 => hg.blk hbl (fun e => blk_ne_blk hbl h1.blk e1 (by injection e)) (fun e => own_ne_blk h1.own hbl e2.symm e.symm)
  refine ⟨h1.others hg, ⟨v2, es2, h2, hb, fun g hg' => ?_⟩, ⟨u, nb hu (by decide) (by decide), hg.own ho (.inr (own_ne_blk ho h1.blk (by decide))) (own_ne_own ho h1.own (by decide))⟩, nb s.seq (by decide) (by decide), nb s.x6 (by decide) (by decide), nb s.x8 (by decide) (by decide), nb s.x9 (by decide) (by decide), nb s.x10 (by decide) (by decide), nb s.x11 (by decide) (by decide), ?_⟩
  · rcases hv2 g hg' with h | h
    · exact hv1 g h
    · exact .inr (Nat.le_trans s.gr.size h)
  · refine ⟨hg.os.trans s.gr.os, hg.tape.trans s.gr.tape, hg.output.trans s.gr.output, Nat.le_trans s.gr.size hg.size, fun k hk e1 e2 => (hg.block k (Nat.lt_of_lt_of_le hk s.gr.size) e1 (fun e => ?_)).trans (s.gr.block k hk e1 e2)⟩
    rcases hv1 k e.symm with h | h
    · exact e2 h.symm
    · omega
theorem DC.low (s : DC flat B p b b6 b8 b9 b10 b11 bo Bo v most stop more late W0 Lc nxc d W) (n : DN B p b11 bo Bo v w0 W0) : Below B w0 W ∧ B ≤ W.heap.size :=
  ⟨s.gr.low n.low (Nat.le_trans n.hB0 n.low.size) (fun k e => by cases e; exact n.hBp) (fun k e => (n.hv k e).1), Nat.le_trans n.hB0 (Nat.le_trans n.low.size s.gr.size)⟩
theorem DC.pop (s : DC flat B p b b6 b8 b9 b10 b11 bo Bo v most stop more late W0 Lc nxc d W) (n : DN B p b11 bo Bo v w0 W0) (hl : Lc.length ≤ 1073741824) :
    Calls Try.prog 17 #[.pointer (some ⟨p, 0, none⟩)] W fun e W' => KeepsOthers W W' ∧ ((e = .returned (.tuple #[zv, .bool false]) ∧ Lc = [] ∧ DC flat B p b b6 b8 b9 b10 b11 bo Bo v most stop more late W0 Lc nxc d W') ∨
      (∃ x, e = .returned (.tuple #[vl thI x, .bool true]) ∧ Lc ≠ [] ∧ x = (nth Lc (fstI (ltF flat) Lc)).1 ∧ DC flat B p b b6 b8 b9 b10 b11 bo Bo v most stop more late W0 (Lc.eraseIdx (fstI (ltF flat) Lc)) nxc d W')) := by
  obtain ⟨v1, es1, h1, hb, hv1⟩ := s.pl
  obtain ⟨l1, l2⟩ := s.low n
  have hlen := hb.len
  refine (pop_step W h1 (less_F flat (D := fun _ => True)) l1 l2 n.hBp (fun _ _ => trivial) (by omega)).mono ?_
  rintro e W' ⟨hk, _, hg, (⟨rfl, rfl, hp'⟩ | ⟨x, r, rfl, hpos, hx, hr, v2, hp', hv'⟩)⟩
  · obtain ⟨k1, k2⟩ := s.step n h1 hv1 hp' hb hg (fun g h => .inl h)
    exact ⟨k1, .inl ⟨rfl, List.eq_nil_of_length_eq_zero (by rw [← hlen]; rfl), k2⟩⟩
  · obtain ⟨m, hm1, hm2, hm3, hm4⟩ := hb.pop (swo_ltF flat) hpos
    have hf : fstI (ltF flat) Lc = m := by unfold fstI; rw [hm1]; rfl
    obtain ⟨k1, k2⟩ := s.step n h1 hv1 (hr ▸ hp') hm4 hg (fun g h => .inl (by rw [← hv']; exact h))
    refine ⟨k1, .inr ⟨x, rfl, (fun e => by rw [e] at hm2; cases hm2), by rw [hx, hf, hm3], by rw [hf]; exact k2⟩⟩
theorem DC.push (s : DC flat B p b b6 b8 b9 b10 b11 bo Bo v most stop more late W0 Lc nxc d W) (n : DN B p b11 bo Bo v w0 W0) (x : Itm) (hl : Lc.length ≤ 1073741824) (hnx : nxc ≤ 1073741824) :
    Calls Try.prog 14 #[.pointer (some ⟨p, 0, none⟩), x.val] W fun e W' => (∃ r, e = .returned r) ∧ KeepsOthers W W' ∧ DC flat B p b b6 b8 b9 b10 b11 bo Bo v most stop more late W0 (Lc ++ [(x, nxc)]) (nxc + 1) d W' := by
  obtain ⟨v1, es1, h1, hb, hv1⟩ := s.pl
  obtain ⟨l1, l2⟩ := s.low n
  have hlen := hb.len
  refine (push_any W h1 (less_F flat (D := fun _ => True)) l1 l2 n.hBp (fun _ _ => trivial) x trivial (by omega) (by omega) (by omega)).mono ?_
  rintro e W' ⟨hr, v2, hp', hg, hv'⟩
  obtain ⟨k1, k2⟩ := s.step n h1 hv1 hp' (hb.push (swo_ltF flat) x) hg hv'
  exact ⟨hr, k1, k2⟩
/-- one thing more in the list -/
theorem DC.app (s : DC flat B p b b6 b8 b9 b10 b11 bo bo v most stop more late W0 Lc nxc d W) (n : DN B p b11 bo bo v w0 W0) {u v' : Value} {x : Itm} {w3 : World} {tmp : Obj} (hu : Boxed W bo 32 u) (ho : W.ownsRow bo 35 2 u d.length (d.flatMap Itm.cells))
    (ho3 : w3.ownsRow bo 35 2 v' (d.length + 1) (d.flatMap Itm.cells ++ Itm.cells x)) (hg3 : (W.alloc tmp).grownBy w3 u.ownBlock) :
    Boxed w3 bo 32 u ∧ KeepsOthers W (w3.setCell ⟨bo, 0, none⟩ v') ∧ DC flat B p b b6 b8 b9 b10 b11 bo bo v most stop more late W0 Lc nxc (d ++ [x]) (w3.setCell ⟨bo, 0, none⟩ v') := by
  have hbo : bo ≤ W.heap.size := Nat.le_of_lt hu.lt
  obtain ⟨hv1, hv2, hr2, hk2, hb2⟩ := hu.appended (by decide) ho hbo (Nat.le_refl bo) ho3 hg3
  have hG := Boxed.pushed hu (by decide) ho hbo (Nat.le_refl bo) ho3 hg3
  obtain ⟨v1, es1, h1, hb, hv⟩ := s.pl
  have nb : ∀ {g : Nat} {T : TypeId} {cs : List Value}, Blk W g T cs → T ≠ 32 → T ≠ 35 → Blk (w3.setCell ⟨bo, 0, none⟩ v') g T cs := fun hbl e1 e2 => hG.blk hbl (fun e => blk_ne_blk hbl hu e1 (by injection e)) (fun e => own_ne_blk ho hbl e2.symm e.symm)
  refine ⟨hv1, hk2, ⟨v1, es1, h1.kept fun k hk hor => hG.block k hk (fun e => ?_) (fun e => ?_), hb, hv⟩, ⟨v', hv2, ?_⟩, nb s.seq (by decide) (by decide), nb s.x6 (by decide) (by decide), nb s.x8 (by decide) (by decide), nb s.x9 (by decide) (by decide), nb s.x10 (by decide) (by decide), ?_, ?_⟩
  · injection e with e
    rcases hor with rfl | h
    · exact blk_ne_blk h1.blk hu (by decide) e
    · exact own_ne_blk h1.own hu (by decide) (by rw [h, e])
  · rcases hor with rfl | h
    · exact own_ne_blk ho h1.blk (by decide) e.symm
    · rcases own_ne_own h1.own ho (by decide) with h0 | h0
      · rw [h] at h0; cases h0
      · exact h0 (h.trans e)
  · rw [List.length_append, List.flatMap_append, List.flatMap_cons, List.flatMap_nil, List.append_nil]
    exact hr2
  · exact hG.blk s.x11 (fun e => by injection e with e; have := n.h1; omega) (fun e => by have := (ho.lt _ e.symm).1; have := n.h1; omega)
  · refine ⟨hG.os.trans s.gr.os, hG.tape.trans s.gr.tape, hG.output.trans s.gr.output, Nat.le_trans s.gr.size hG.size, fun k hk e1 e2 => (hG.block k (Nat.lt_of_lt_of_le hk s.gr.size) (fun e => ?_) (fun e => ?_)).trans (s.gr.block k hk e1 e2)⟩
    · injection e with e; have := n.h4; omega
    · have := (ho.lt _ e.symm).1; have := n.h4; omega
theorem DC.late1 {x1 x2 : Int} (s : DC flat B p b b6 b8 b9 b10 b11 bo Bo v most stop more (x1, x2) W0 Lc nxc d W) : W.cell? ⟨b11, 0, none⟩ = some (.int .i64 x1) := s.x11.cell 0
theorem DC.late2 {x1 x2 : Int} (s : DC flat B p b b6 b8 b9 b10 b11 bo Bo v most stop more (x1, x2) W0 Lc nxc d W) : W.cell? ⟨b11, 1, none⟩ = some (.int .i64 x2) := s.x11.cell 1
end
end Go.Proofs.Ytdebokambldbbaa.LawP
