/- Several piles and their books at one time. -/
import Derived.Test.YtdebokambldbbaaPPeek
namespace Go.Proofs.Ytdebokambldbbaa.LawP
open Go.RowKit Go.Shelf Go.Proofs.Ytdebokambldbbaa.Mem Go.Proofs.Ytdebokambldbbaa.Heap Go.Proofs.Ytdebokambldbbaa.Pile Go.Proofs.Ytdebokambldbbaa.PileI
set_option linter.unusedVariables false
set_option linter.unusedSectionVars false
set_option maxRecDepth 4000

theorem blk_ne_blk {W : World} {g g' : Nat} {T T' : TypeId} {cs cs' : List Value} (h : Blk W g T cs) (h' : Blk W g' T' cs') (hT : T ≠ T') : g ≠ g' := by
  rintro rfl
  have := (show W.heap[g]? = _ from h).symm.trans h'
  simp at this
  exact hT this.2
set_option maxHeartbeats 1600000 in
theorem peek_none (W : World) (pv : Value) (hLen : ∀ W1, Below W.heap.size W W1 → Calls Try.prog 19 #[pv] W1 fun e W' => e = .returned (.int .i64 0) ∧ Below W1.heap.size W1 W') : Calls Try.prog 16 #[pv] W fun e W' => e = .returned (.tuple #[.agg #[.int .i64 0, .int .i64 0], .bool false]) ∧ Below W.heap.size W W' := by
  have HLn := Lib.hid hLen
  clear hLen
  go_enter Try.func16, Try.ntmps16
  go_wp2_with (first
    | ((with_reducible show wpList _ _ _ (⟨some 2, _, _, _, _, _⟩ :: _) _ _); go_must (refine wpList_allocT (o := ⟨some 2, _, _, _, _, _⟩) rfl rfl _ rfl ?_); intro w1 hB1 hb1 hz1)
    | ((with_reducible show wpList _ _ _ (⟨some 4, _, _, _, _, _⟩ :: _) _ _); go_must (refine wpList_allocT (o := ⟨some 4, _, _, _, _, _⟩) rfl rfl _ rfl ?_); intro w2 hB2 hb2 hz2; have hb12 := gt hb1 hb2)
    | (go_at_call 19; refine (HLn.out _ hb12).mono ?_; rintro e w3 ⟨rfl, hb3⟩)
    | ((with_reducible show wpList _ _ _ (⟨some 8, _, _, _, _, _⟩ :: _) _ _); go_must (refine wpList_loadB (op := ⟨some 8, _, _, _, _, _⟩) AT rfl (.tmp 4) rfl w1.heap.size 0 (by go_simp) _ _ (hB2.grow hb3) [.int .i64 0, .int .i64 0] rfl rfl ?_))
    | ((with_reducible show wpList _ _ _ (⟨none, .store 35 (.tmp 2) _, _, _, _, _⟩ :: _) _ _); go_must (refine wpList_storeB (op := ⟨none, .store 35 (.tmp 2) _, _, _, _, _⟩) AT rfl (.tmp 2) (.tmp 8) rfl W.heap.size 0 (by go_simp) [.int .i64 0, .int .i64 0] (by go_simp) rfl _ _ (hB1.grow (gt hb2 hb3)) (by decide) (by decide) ?_); intro w4 hB4 hg4 hz4))
  rw [splice_all _ _ rfl] at hB4
  have c0 : ∀ (i : Nat) (v : Value), ([.int .i64 0, .int .i64 0] : List Value)[i]? = some v → w4.cell? ⟨W.heap.size, i, none⟩ = some v := fun i v h => by rw [hB4.cell]; exact h
  have hr := run_loadB (o := 0) AT hB4 [.int .i64 0, .int .i64 0] rfl rfl
  refine bodyPost_ret (v := .tuple #[.agg ([.int .i64 0, .int .i64 0] : List Value).toArray, .bool false]) (results_two Try.results16 _ rfl (by simpa [Instr.loadAt, Instr.sureAddr] using hr)) rfl ?_
  exact ⟨rfl, (gt hb12 hb3).grown hg4 (Nat.le_trans hb12.size hb3.size) (fun k hk => by cases hk; exact Nat.le_refl _)⟩
/-- the less that stands in a pile: none, or that of the keys -/
def fvF (flat : Bool) : Value := .func (.func (if flat then 48 else 28)) #[] #[]
theorem less_F (flat : Bool) {B : Nat} {w0 : World} {D : Itm → Prop} : Less Try.prog B w0 (vl thI) D (fvF flat) (ltF flat) := by
  cases flat with
  | true => rw [ltF_true]; exact flat_less
  | false => exact ⟨28, #[], rfl, enters_of Try.func28 (by kernel_rfl) rfl, fun W' a b _ _ _ => by rw [ltF_false]; have := less_any a b W'; simpa [vlI, Itm.val, ltK] using this⟩

def XOk (T : TypeId) : Prop := T ≠ 77 ∧ T ≠ 79 ∧ T ≠ 35 ∧ T ≠ 32
/-- N piles, their entries, what is in them; N books, whose slices lie in the row bk; blocks X beside, of other types -/
structure Fam (X : Nat → TypeId → List Value → Prop) (N H bk : Nat) (W0 : World) (fl : Nat → Bool) (p : Nat → Nat) (v : Nat → Value) (es L : Nat → List (Itm × Nat)) (nx : Nat → Nat) (u : Nat → Value) (M : Nat → List Itm) (W : World) : Prop where
  pl : ∀ i, i < N → PlK thI W H (p i) (v i) (fvF (fl i)) (es i) (nx i)
  book : ∀ i, i < N → Book (ltF (fl i)) (es i) (L i) (nx i)
  row : ∀ i, i < N → W.ownsRow H 35 2 (u i) (M i).length ((M i).flatMap Itm.cells)
  hp : ∀ i, i < N → H ≤ p i
  pp : ∀ i j, i < N → j < N → i ≠ j → p i ≠ p j
  vv : ∀ i j, i < N → j < N → i ≠ j → Far (v i) (v j)
  uu : ∀ i j, i < N → j < N → i ≠ j → Far (u i) (u j)
  bks : Blk W bk 32 ((List.range N).map u)
  hbk : H ≤ bk
  low : Below H W0 W
  hH : H ≤ W0.heap.size
  ex : ∀ b T cs, X b T cs → Blk W b T cs ∧ XOk T
section
variable {X : Nat → TypeId → List Value → Prop} {N H bk : Nat} {W0 W W' : World} {fl : Nat → Bool} {p : Nat → Nat} {v : Nat → Value} {es L : Nat → List (Itm × Nat)} {nx : Nat → Nat} {u : Nat → Value} {M : Nat → List Itm}
theorem Fam.le (F : Fam X N H bk W0 fl p v es L nx u M W) : H ≤ W.heap.size := Nat.le_trans F.hH F.low.size
theorem Fam.grow (F : Fam X N H bk W0 fl p v es L nx u M W) (hb : Below W.heap.size W W') : Fam X N H bk W0 fl p v es L nx u M W' :=
  ⟨fun i hi => (F.pl i hi).grow hb, F.book, fun i hi => own_below' (F.row i hi) hb, F.hp, F.pp, F.vv, F.uu, F.bks.grow hb, F.hbk, F.low.trans (hb.mono F.le), F.hH, fun b T cs h => ⟨(F.ex b T cs h).1.grow hb, (F.ex b T cs h).2⟩⟩
/-- one pile has turned -/
theorem Fam.step (F : Fam X N H bk W0 fl p v es L nx u M W) {i : Nat} (hi : i < N) {v' : Value} {es' L' : List (Itm × Nat)} {nx' : Nat} (hP : PlK thI W' H (p i) v' (fvF (fl i)) es' nx') (hB : Book (ltF (fl i)) es' L' nx')
    (hg : Grown2 W W' (some (p i)) (v i).ownBlock) (hv : ∀ g, v'.ownBlock = some g → (v i).ownBlock = some g ∨ W.heap.size ≤ g) : Fam X N H bk W0 fl p (fupd v i v') (fupd es i es') (fupd L i L') (fupd nx i nx') u M W' := by
  have hlt : ∀ j, j < N → ∀ g, (v j).ownBlock = some g → g < W.heap.size := fun j hj g hg' => ((F.pl j hj).own.lt g hg').2
  refine ⟨fun j hj => ?_, fun j hj => ?_, fun j hj => ?_, F.hp, F.pp, fun j k hj hk hjk => ?_, F.uu, ?_, F.hbk, ?_, F.hH, fun b T cs h => ?_⟩
  · by_cases e : j = i
    · subst e; simp only [fupd_same]; exact hP
    · simp only [fupd_ne _ _ e]
      refine (F.pl j hj).kept fun k hk h => hg.block k hk (fun e' => ?_) (fun e' => ?_)
      · injection e' with e'
        rcases h with rfl | h
        · exact F.pp _ _ hj hi e e'
        · exact own_ne_blk (F.pl j hj).own (F.pl i hi).blk (by decide) (by rw [h, e'])
      · rcases h with rfl | h
        · exact own_ne_blk (F.pl i hi).own (F.pl j hj).blk (by decide) e'.symm
        · exact F.vv j i hj hi e k h e'.symm
  · by_cases e : j = i
    · subst e; simp only [fupd_same]; exact hB
    · simp only [fupd_ne _ _ e]; exact F.book j hj
  · exact hg.own (F.row j hj) (.inr (own_ne_blk (F.row j hj) (F.pl i hi).blk (by decide))) (own_ne_own (F.row j hj) (F.pl i hi).own (by decide))
  · by_cases e : j = i
    · subst e
      rw [fupd_same, fupd_ne _ _ (Ne.symm hjk)]
      intro g hg' hk'
      rcases hv g hg' with h | h
      · exact F.vv j k hj hk hjk g h hk'
      · have := hlt k hk g hk'; omega
    · rw [fupd_ne _ _ e]
      by_cases e2 : k = i
      · subst e2
        rw [fupd_same]
        intro g hg' hk'
        rcases hv g hk' with h | h
        · exact F.vv j k hj hk hjk g hg' h
        · have := hlt j hj g hg'; omega
      · rw [fupd_ne _ _ e2]; exact F.vv j k hj hk hjk
  · exact hg.blk F.bks (fun e => blk_ne_blk F.bks (F.pl i hi).blk (by decide) (by injection e)) (fun e => own_ne_blk (F.pl i hi).own F.bks (by decide) e.symm)
  · exact hg.low F.low F.le (fun k hk => by cases hk; exact F.hp i hi) (fun k hk => ((F.pl i hi).own.lt k hk).1)
  · obtain ⟨h1, h2⟩ := F.ex b T cs h
    exact ⟨hg.blk h1 (fun e => blk_ne_blk h1 (F.pl i hi).blk h2.1 (by injection e)) (fun e => own_ne_blk (F.pl i hi).own h1 h2.2.1.symm e.symm), h2⟩
/-- one book has turned -/
theorem Fam.turn (F : Fam X N H bk W0 fl p v es L nx u M W) {i : Nat} (hi : i < N) {u' : Value} {m' : List Itm} (hr : W'.ownsRow H 35 2 u' m'.length (m'.flatMap Itm.cells)) (hb : Blk W' bk 32 ((List.range N).map (fupd u i u')))
    (hg : Grown2 W W' (some bk) (u i).ownBlock) (hu : ∀ g, u'.ownBlock = some g → (u i).ownBlock = some g ∨ W.heap.size ≤ g) : Fam X N H bk W0 fl p v es L nx (fupd u i u') (fupd M i m') W' := by
  have hlt : ∀ j, j < N → ∀ g, (u j).ownBlock = some g → g < W.heap.size := fun j hj g hg' => ((F.row j hj).lt g hg').2
  refine ⟨fun j hj => ?_, F.book, fun j hj => ?_, F.hp, F.pp, F.vv, fun j k hj hk hjk => ?_, hb, F.hbk, ?_, F.hH, fun b T cs h => ?_⟩
  · refine (F.pl j hj).kept fun k hk h => hg.block k hk (fun e' => ?_) (fun e' => ?_)
    · injection e' with e'
      rcases h with rfl | h
      · exact blk_ne_blk (F.pl j hj).blk F.bks (by decide) e'
      · exact own_ne_blk (F.pl j hj).own F.bks (by decide) (by rw [h, e'])
    · rcases h with rfl | h
      · exact own_ne_blk (F.row i hi) (F.pl j hj).blk (by decide) e'.symm
      · rcases own_ne_own (F.pl j hj).own (F.row i hi) (by decide) with h0 | h0
        · rw [h] at h0; cases h0
        · exact h0 (h.trans e')
  · by_cases e : j = i
    · subst e; rw [fupd_same, fupd_same]; exact hr
    · rw [fupd_ne _ _ e, fupd_ne _ _ e]
      refine hg.own (F.row j hj) (.inr (own_ne_blk (F.row j hj) F.bks (by decide))) ?_
      exact (F.uu i j hi hj (Ne.symm e)).ne
  · by_cases e : j = i
    · subst e
      rw [fupd_same, fupd_ne _ _ (Ne.symm hjk)]
      intro g hg' hk'
      rcases hu g hg' with h | h
      · exact F.uu j k hj hk hjk g h hk'
      · have := hlt k hk g hk'; omega
    · rw [fupd_ne _ _ e]
      by_cases e2 : k = i
      · subst e2
        rw [fupd_same]
        intro g hg' hk'
        rcases hu g hk' with h | h
        · exact F.uu j k hj hk hjk g hg' h
        · have := hlt j hj g hg'; omega
      · rw [fupd_ne _ _ e2]; exact F.uu j k hj hk hjk
  · exact hg.low F.low F.le (fun k hk => by cases hk; exact F.hbk) (fun k hk => ((F.row i hi).lt k hk).1)
  · obtain ⟨h1, h2⟩ := F.ex b T cs h
    exact ⟨hg.blk h1 (fun e => blk_ne_blk h1 F.bks h2.2.2.2 (by injection e)) (fun e => own_ne_blk (F.row i hi) h1 h2.2.2.1.symm e.symm), h2⟩
/-- a store into the row of books, behind a world in which the new slice was made -/
theorem Fam.put (F : Fam X N H bk W0 fl p v es L nx u M W) {i : Nat} (hi : i < N) {w1 : World} {u' : Value} {m' : List Itm} (hr : w1.ownsRow H 35 2 u' m'.length (m'.flatMap Itm.cells))
    (hg : Grown2 W w1 (some bk) (u i).ownBlock) (hu : ∀ g, u'.ownBlock = some g → (u i).ownBlock = some g ∨ W.heap.size ≤ g) (hk : Blk w1 bk 32 ((List.range N).map u)) :
    Fam X N H bk W0 fl p v es L nx (fupd u i u') (fupd M i m') (w1.setCell ⟨bk, i, none⟩ u') := by
  have hne : u'.ownBlock ≠ some bk := own_ne_blk hr hk (by decide)
  refine F.turn hi (own_far hr hne _) ?_ ?_ hu
  · have := hk.set_ i u'
    have e := map_fupd u id N i u'
    simp only [id] at e
    rw [e] at this
    exact this
  · exact hg.step (grown_set w1 bk i u') (fun k hk => .inl hk.symm)
theorem Fam.push (F : Fam X N H bk W0 fl p v es L nx u M W) {i : Nat} (hi : i < N) (x : Itm) (hn : nx i ≤ 1073741824) (hl : (es i).length ≤ 1073741824) :
    Calls Try.prog 14 #[.pointer (some ⟨p i, 0, none⟩), x.val] W fun e W' => (∃ r, e = .returned r) ∧ ∃ v', Fam X N H bk W0 fl p (fupd v i v') (fupd es i (Heap.push (Heap.ahead (ltF (fl i))) (es i) (x, nx i))) (fupd L i (L i ++ [(x, nx i)])) (fupd nx i (nx i + 1)) u M W' ∧ Grown2 W W' (some (p i)) (v i).ownBlock := by
  refine (push_any W (F.pl i hi) (less_F (fl i) (D := fun _ => True)) F.low F.le (F.hp i hi) (fun _ _ => trivial) x trivial (by omega) (by omega) (by omega)).mono ?_
  rintro e W' ⟨hr, v', hP, hg, hv⟩
  exact ⟨hr, v', F.step hi hP ((F.book i hi).push (swo_ltF _) x) hg hv, hg⟩
theorem Fam.side (F : Fam X N H bk W0 fl p v es L nx u M W) {i : Nat} (hi : i < N) (hg : Grown2 W W' (some (p i)) (v i).ownBlock) {b : Nat} {T : TypeId} {cs : List Value} (hb : Blk W b T cs) (h1 : T ≠ 77) (h2 : T ≠ 79) : Blk W' b T cs :=
  hg.blk hb (fun e => blk_ne_blk hb (F.pl i hi).blk h1 (by injection e)) (fun e => own_ne_blk (F.pl i hi).own hb h2.symm e.symm)
theorem Fam.other (F : Fam X N H bk W0 fl p v es L nx u M W) {g : Nat} {cs : List Value} (hb : Blk W g 35 cs) (hu : ∀ j, j < N → (u j).ownBlock ≠ some g) (hH : H ≤ g) (hg : W.grownBy W' (some g)) : Fam X N H bk W0 fl p v es L nx u M W' := by
  have h2 : Grown2 W W' (some g) (some g) := Grown2.of_by hg
  refine ⟨fun j hj => (F.pl j hj).kept fun k hk h => hg.block k hk (fun e => ?_), F.book, fun j hj => h2.own (F.row j hj) (.inr (hu j hj)) (.inr (hu j hj)), F.hp, F.pp, F.vv, F.uu, F.bks.grown hg (fun e => blk_ne_blk F.bks hb (by decide) (by injection e)), F.hbk, h2.low F.low F.le (fun k hk => by cases hk; exact hH) (fun k hk => by cases hk; exact hH), F.hH, fun b T cs' h => ?_⟩
  · injection e with e
    rcases h with rfl | h
    · exact blk_ne_blk (F.pl j hj).blk hb (by decide) e
    · exact own_ne_blk (F.pl j hj).own hb (by decide) (by rw [h, e])
  · obtain ⟨h1, h3⟩ := F.ex b T cs' h
    exact ⟨h1.grown hg (fun e => blk_ne_blk h1 hb h3.2.2.1 (by injection e)), h3⟩
theorem Fam.len (F : Fam X N H bk W0 fl p v es L nx u M W) {i : Nat} (hi : i < N) :
    Calls Try.prog 19 #[.pointer (some ⟨p i, 0, none⟩)] W fun e W' => e = .returned (.int .i64 (L i).length) ∧ Below W.heap.size W W' := by
  rw [← (F.book i hi).len]
  exact len_any W (F.pl i hi)
/-- the first of a pile that holds something, as the document finds it -/
theorem Fam.peek (F : Fam X N H bk W0 fl p v es L nx u M W) {i : Nat} (hi : i < N) (hpos : 0 < (L i).length) : ∃ m, first (ltF (fl i)) ((L i).map (·.1)) = some m ∧ m < (L i).length ∧
    Calls Try.prog 16 #[.pointer (some ⟨p i, 0, none⟩)] W fun e W' => e = .returned (.tuple #[.agg #[.int .i64 (nth (L i) m).1.1, .int .i64 (nth (L i) m).1.2], .bool true]) ∧ Below W.heap.size W W' := by
  have hl := (F.book i hi).len
  obtain ⟨m, h1, h2, h3, _⟩ := (F.book i hi).pop (swo_ltF _) (by omega)
  refine ⟨m, h1, h2, ?_⟩
  rw [← h3]
  exact peek_any (F.pl i hi) (by omega)
theorem Fam.pop (F : Fam X N H bk W0 fl p v es L nx u M W) {i : Nat} (hi : i < N) (hpos : 0 < (L i).length) (hb : (L i).length ≤ 1073741824) : ∃ m, first (ltF (fl i)) ((L i).map (·.1)) = some m ∧ m < (L i).length ∧
    Calls Try.prog 17 #[.pointer (some ⟨p i, 0, none⟩)] W fun e W' => e = .returned (.tuple #[.agg #[.int .i64 (nth (L i) m).1.1, .int .i64 (nth (L i) m).1.2], .bool true]) ∧
      ∃ v' es', Fam X N H bk W0 fl p (fupd v i v') (fupd es i es') (fupd L i ((L i).eraseIdx m)) (fupd nx i (nx i)) u M W' ∧ Grown2 W W' (some (p i)) (v i).ownBlock := by
  have hl := (F.book i hi).len
  obtain ⟨m, h1, h2, h3, h4⟩ := (F.book i hi).pop (swo_ltF _) (by omega)
  refine ⟨m, h1, h2, ?_⟩
  rw [← h3]
  refine (pop_any W (F.pl i hi) (less_F (fl i) (D := fun _ => True)) F.low F.le (F.hp i hi) (fun _ _ => trivial) (by omega) (by omega)).mono ?_
  rintro e W' ⟨rfl, v', hP, hg, hv⟩
  exact ⟨rfl, v', _, F.step hi hP h4 hg (fun g hg' => .inl (by rw [← hv]; exact hg')), hg⟩
theorem Fam.popM (F : Fam X N H bk W0 fl p v es L nx u M W) {i m : Nat} (hi : i < N) (hpos : 0 < (L i).length) (hb : (L i).length ≤ 1073741824) (hm : first (ltF (fl i)) ((L i).map (·.1)) = some m) :
    Calls Try.prog 17 #[.pointer (some ⟨p i, 0, none⟩)] W fun e W' => e = .returned (.tuple #[.agg #[.int .i64 (nth (L i) m).1.1, .int .i64 (nth (L i) m).1.2], .bool true]) ∧
      ∃ v' es', Fam X N H bk W0 fl p (fupd v i v') (fupd es i es') (fupd L i ((L i).eraseIdx m)) (fupd nx i (nx i)) u M W' ∧ Grown2 W W' (some (p i)) (v i).ownBlock := by
  obtain ⟨m', h1, h2, h3⟩ := F.pop hi hpos hb
  obtain rfl : m' = m := by rw [hm] at h1; injection h1 with h1; exact h1.symm
  exact h3
theorem Fam.peek0 (F : Fam X N H bk W0 fl p v es L nx u M W) {i : Nat} (hi : i < N) (h0 : L i = []) :
    Calls Try.prog 16 #[.pointer (some ⟨p i, 0, none⟩)] W fun e W' => e = .returned (.tuple #[.agg #[.int .i64 0, .int .i64 0], .bool false]) ∧ Below W.heap.size W W' := by
  refine peek_none W _ fun W1 hb => ?_
  have := (F.grow hb).len hi
  rw [h0] at this
  exact this
theorem Fam.peekM (F : Fam X N H bk W0 fl p v es L nx u M W) {i m : Nat} (hi : i < N) (hpos : 0 < (L i).length) (hm : first (ltF (fl i)) ((L i).map (·.1)) = some m) :
    Calls Try.prog 16 #[.pointer (some ⟨p i, 0, none⟩)] W fun e W' => e = .returned (.tuple #[.agg #[.int .i64 (nth (L i) m).1.1, .int .i64 (nth (L i) m).1.2], .bool true]) ∧ Below W.heap.size W W' := by
  obtain ⟨m', h1, h2, h3⟩ := F.peek hi hpos
  obtain rfl : m' = m := by rw [hm] at h1; injection h1 with h1; exact h1.symm
  exact h3
theorem Fam.pop0 (F : Fam X N H bk W0 fl p v es L nx u M W) {i : Nat} (hi : i < N) (h0 : L i = []) :
    Calls Try.prog 17 #[.pointer (some ⟨p i, 0, none⟩)] W fun e W' => e = .returned (.tuple #[.agg #[.int .i64 0, .int .i64 0], .bool false]) ∧ Below W.heap.size W W' := by
  refine pop_none W _ fun W1 hb => ?_
  have := (F.grow hb).len hi
  rw [h0] at this
  exact this
end
end Go.Proofs.Ytdebokambldbbaa.LawP
