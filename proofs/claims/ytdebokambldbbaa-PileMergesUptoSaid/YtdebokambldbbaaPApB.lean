/- Lists of things that lie apart: the words for the walk of weirlaw07.apart. -/
import Derived.Test.YtdebokambldbbaaPPut
namespace Go.Proofs.Ytdebokambldbbaa.LawP
open Go.RowKit Go.Shelf Go.Proofs.Ytdebokambldbbaa.Mem Go.Proofs.Ytdebokambldbbaa.Heap Go.Proofs.Ytdebokambldbbaa.Pile Go.Proofs.Ytdebokambldbbaa.PileI
set_option linter.unusedVariables false
set_option linter.unusedSectionVars false
set_option linter.unusedSimpArgs false
set_option maxRecDepth 8000
set_option maxHeartbeats 6400000

/-- the cells of lists of things -/
def fl (L : Nat → List Itm) : Nat → List Value := fun i => (L i).flatMap Itm.cells
def mkI (q i : Nat) : Itm := (1000 + (i : Int), (q : Int))
abbrev TI : TypeId := 35
theorem fl_fupd (L : Nat → List Itm) (i : Nat) (l : List Itm) : fl (fupd L i l) = fupd (fl L) i (l.flatMap Itm.cells) := by
  funext k
  unfold fl fupd
  split <;> rfl
theorem flat_set : ∀ (l : List Itm) (j : Nat) (y : Itm), (l.set j y).flatMap Itm.cells = ((l.flatMap Itm.cells).set (j * 2) (.int .i64 y.1)).set (j * 2 + 1) (.int .i64 y.2)
  | [], j, y => by simp
  | a :: r, 0, y => by simp [Itm.cells]
  | a :: r, j + 1, y => by
    have e : (j + 1) * 2 = j * 2 + 1 + 1 := by omega
    rw [List.set_cons_succ, List.flatMap_cons, flat_set r j y, List.flatMap_cons, e]
    simp [Itm.cells]
theorem own_there {w : World} {B n s g cap : Nat} {T : TypeId} {xs : List Value} (h : w.ownsRow B T s (.slice (some ⟨g, 0, none⟩) n cap) n xs) {j k : Nat} (hj : j + k ≤ n * s) : w.there g j k := fun i hi => by
  obtain ⟨u, hu⟩ := own_has h (j := j + i) (by omega)
  exact ⟨by rw [hu]; rfl, h.frozenAt (j + i)⟩
theorem wpList_storeI {w : World} {ops : Array Oper} {rest : List Oper} {o : Oper} {a : Act} {Q : Exit → Act → World → Prop} (hgd : o.guard = none) (x y : Operand) (ho : o.op = .store 35 x y) (g off : Nat) (hx : a.eval x = .pointer (some ⟨g, off, none⟩)) (b : Itm) (hy : a.eval y = Itm.val b) (ht : w.there g off 2)
    (h : wpList Try.prog ops Q rest (a.put o.dst undef) ((w.setCell ⟨g, off, none⟩ (.int .i64 b.1)).setCell ⟨g, off + 1, none⟩ (.int .i64 b.2))) : wpList Try.prog ops Q (o :: rest) a w := by
  refine wpList_store_mid hgd 35 x y ho g off #[.int .i64 b.1, .int .i64 b.2] hx (by rw [hy]; rfl) ht (by rw [AT.size]; rfl) (by simp [Value.oneCell']) ?_
  exact h
section
variable {w W W' : World} {B : Nat} {T : TypeId} {s N : Nat} {R A : Nat → Prop} {v : Nat → Value} {n : Nat → Nat} {xs xs' : Nat → List Value}
theorem Mem_Ap0_congr (h : Ap0 w W B T s N R A v n xs) (e : ∀ i, i < N → xs i = xs' i) : Ap0 w W B T s N R A v n xs' :=
  ⟨fun i hi => by rw [← e i hi]; exact h.own i hi, h.far, h.gr, h.blk, h.lt, h.av⟩
theorem ap0_storeI {L : Nat → List Itm} (h : Ap0 w W B T 2 N R A v n (fl L)) {i g c : Nat} (hi : i < N) (hv : v i = .slice (some ⟨g, 0, none⟩) (n i) c) (j : Nat) (y : Itm) :
    Ap0 w ((W.setCell ⟨g, j * 2, none⟩ (.int .i64 y.1)).setCell ⟨g, j * 2 + 1, none⟩ (.int .i64 y.2)) B T 2 N R A v n (fl (fupd L i ((L i).set j y))) := by
  have h2 := (h.set_ hi hv (j * 2) (.int .i64 y.1)).set_ hi hv (j * 2 + 1) (.int .i64 y.2)
  rw [fupd_fupd, fupd_same] at h2
  rw [fl_fupd, flat_set]
  exact h2
variable {K : Nat → Value → Nat → List Value → Prop} {gv : Nat → Value} {m m' : Nat → Nat} {ys ys' : Nat → List Value}
theorem apL_congr (h : ApL w W B T s N R A K gv m ys) (e1 : ∀ i, i < N → m i = m' i) (e2 : ∀ i, i < N → ys i = ys' i) : ApL w W B T s N R A K gv m' ys' :=
  ⟨fun i hi => by rw [← e1 i hi, ← e2 i hi]; exact h.gown i hi, h.far, fun i u n xs hk => ⟨(h.kown i u n xs hk).1, by rw [← e1 i (h.kown i u n xs hk).1]; exact (h.kown i u n xs hk).2.1, (h.kown i u n xs hk).2.2⟩, h.kfar, h.kav, h.gr, h.blk, h.lt, h.av⟩
theorem own_below'' {B n size : Nat} {T : TypeId} {u : Value} {xs : List Value} (h : W.ownsRow B T size u n xs) (hb : Below W.heap.size W W') : W'.ownsRow B T size u n xs :=
  h.kept (row := none) ⟨hb.os, hb.tape, hb.output, hb.size, fun k hk _ => hb.block k hk⟩ (by cases hv : u.ownBlock <;> simp)
theorem apL_below (h : ApL w W B T s N R A K gv m ys) (hb : Below W.heap.size W W') : ApL w W' B T s N R A K gv m ys :=
  ⟨fun i hi => own_below'' (h.gown i hi) hb, h.far, fun i u n xs hk => ⟨(h.kown i u n xs hk).1, (h.kown i u n xs hk).2.1, own_below'' (h.kown i u n xs hk).2.2 hb⟩, h.kfar, h.kav, h.gr.below hb, h.blk, fun b hb' => Nat.lt_of_lt_of_le (h.lt b hb') hb.size, h.av⟩
/-- a change in a block that the rows avoid -/
theorem apL_grownA (h : ApL w W B T s N R A K gv m ys) {g : Nat} (hA : A g) (hw : w.heap.size ≤ g) (hg : W.grownBy W' (some g)) : ApL w W' B T s N R A K gv m ys :=
  ⟨fun i hi => (h.gown i hi).kept hg (.inr (h.av g hA i hi)), h.far, fun i u n xs hk => ⟨(h.kown i u n xs hk).1, (h.kown i u n xs hk).2.1, (h.kown i u n xs hk).2.2.kept hg (.inr (h.kav g hA i u n xs hk))⟩, h.kfar, h.kav,
   h.gr.step hg (fun b e => .inr (by injection e with e; omega)), h.blk, fun b hb => Nat.lt_of_lt_of_le (h.lt b hb) hg.size, h.av⟩
/-- a block made just now is avoided too -/
theorem apL_new (h : ApL w W B T s N R A K gv m ys) (hb : Below W.heap.size W W') (h1 : W.heap.size < W'.heap.size) : ApL w W' B T s N R (fun b => A b ∨ b = W.heap.size) K gv m ys := by
  refine (apL_below h hb).avoid (fun b hb' => ?_)
  rcases hb' with hb' | rfl
  · exact ⟨Nat.lt_of_lt_of_le (h.lt b hb') hb.size, h.av b hb', h.kav b hb'⟩
  · exact ⟨h1, fun i hi e => by have := ((h.gown i hi).lt _ e).2; omega, fun i u n xs hk e => by have := ((h.kown i u n xs hk).2.2.lt _ e).2; omega⟩
theorem apL_less {A' : Nat → Prop} (h : ApL w W B T s N R A K gv m ys) (hA : ∀ b, A' b → A b) : ApL w W B T s N R A' K gv m ys :=
  h.avoid fun b hb => ⟨h.lt b (hA b hb), h.av b (hA b hb), h.kav b (hA b hb)⟩
end
/-- the lists, all written over up to list k, that one up to place j -/
def X1 (n : Nat → Nat) (L : Nat → List Itm) (k j : Nat) : Nat → List Itm := fun i => if i < k then List.replicate (n i) (mkI 1 i) else if i = k then List.replicate j (mkI 1 k) ++ (L k).drop j else L i
def C1 (n : Nat → Nat) : Nat → List Itm := fun i => List.replicate (n i) (mkI 1 i)
theorem x1_start (n : Nat → Nat) (L : Nat → List Itm) : X1 n L 0 0 = L := by
  funext i
  unfold X1
  by_cases h : i = 0
  · subst h; simp
  · simp [h]
theorem x1_step (n : Nat → Nat) (L : Nat → List Itm) {k j : Nat} (hj : j < (L k).length) : fupd (X1 n L k j) k ((X1 n L k j k).set j (mkI 1 k)) = X1 n L k (j + 1) := by
  funext i
  by_cases h : i = k
  · subst h
    rw [fupd_same]
    unfold X1
    simp only [Nat.lt_irrefl, if_false, if_true]
    rw [List.set_append_right _ _ (by simp), List.length_replicate, Nat.sub_self, List.drop_eq_getElem_cons hj, List.set_cons_zero, List.replicate_succ', List.append_assoc]
    rfl
  · rw [fupd_ne _ _ h]
    unfold X1
    simp [h]
theorem x1_next (n : Nat → Nat) (L : Nat → List Itm) {k : Nat} (hk : (L k).length = n k) : X1 n L k (n k) = X1 n L (k + 1) 0 := by
  funext i
  unfold X1
  by_cases h : i < k
  · rw [if_pos h, if_pos (by omega)]
  · rw [if_neg h]
    by_cases e : i = k
    · subst e
      rw [if_pos rfl, if_pos (Nat.lt_succ_self i), ← hk, List.drop_length, List.append_nil]
    · rw [if_neg e, if_neg (by omega)]
      by_cases e2 : i = k + 1
      · subst e2; simp
      · rw [if_neg e2]
theorem x1_done (n : Nat → Nat) (L : Nat → List Itm) (N i : Nat) (h : i < N) : X1 n L N 0 i = C1 n i := by
  unfold X1 C1; rw [if_pos h]
/-- how many have been put behind list i: c behind those before k, q behind k -/
def cnt (c k q i : Nat) : Nat := if i < k then c else if i = k then q else 0
theorem cnt_zero (c i : Nat) : cnt c 0 0 i = 0 := by unfold cnt; simp
theorem cnt_next (c k i : Nat) : cnt c k c i = cnt c (k + 1) 0 i := by
  unfold cnt
  by_cases h : i < k
  · rw [if_pos h, if_pos (by omega)]
  · rw [if_neg h]
    by_cases e : i = k
    · rw [if_pos e, if_pos (by omega)]
    · rw [if_neg e, if_neg (by omega)]
      simp
theorem cnt_self (c k q : Nat) : cnt c k q k = q := by unfold cnt; simp
theorem cnt_ne (c k q q' i : Nat) (h : i ≠ k) : cnt c k q i = cnt c k q' i := by unfold cnt; simp [h]
theorem cnt_lt (c k q i : Nat) (h : i < k) : cnt c k q i = c := by unfold cnt; simp [h]
def X2 (base : Nat → List Itm) (t c k q : Nat) : Nat → List Itm := fun i => base i ++ List.replicate (cnt c k q i) (mkI t i)
theorem x2_ne (base : Nat → List Itm) (t c k q q' i : Nat) (h : i ≠ k) : X2 base t c k q i = X2 base t c k q' i := by unfold X2; rw [cnt_ne c k q q' i h]
theorem x2_self (base : Nat → List Itm) (t c k q : Nat) : X2 base t c k q k = base k ++ List.replicate q (mkI t k) := by unfold X2; rw [cnt_self]
theorem x2_next (base : Nat → List Itm) (t c k : Nat) : X2 base t c k c = X2 base t c (k + 1) 0 := by funext i; unfold X2; rw [cnt_next]
theorem x2_zero (base : Nat → List Itm) (t c : Nat) : X2 base t c 0 0 = base := by funext i; unfold X2; rw [cnt_zero]; simp
def M2 (n : Nat → Nat) (c k q : Nat) : Nat → Nat := fun i => n i + cnt c k q i
/-- what a list of slices holds while it is filled -/
def upTo (k : Nat) (gv : Nat → Value) : Nat → Value := fun i => if i < k then gv i else .slice none 0 0
theorem upTo_set (N k : Nat) (gv gv' : Nat → Value) (h : ∀ i, i < k → gv i = gv' i) : ((List.range N).map (upTo k gv)).set k (gv' k) = (List.range N).map (upTo (k + 1) gv') := by
  have := map_fupd (upTo k gv) (fun v => v) N k (gv' k)
  rw [this]
  refine List.map_congr_left fun i _ => ?_
  show fupd (upTo k gv) k (gv' k) i = _
  by_cases e : i = k
  · subst e; rw [fupd_same]; unfold upTo; rw [if_pos (Nat.lt_succ_self i)]
  · rw [fupd_ne _ _ e]
    unfold upTo
    by_cases h2 : i < k
    · rw [if_pos h2, if_pos (by omega), h i h2]
    · rw [if_neg h2, if_neg (by omega)]
theorem upTo_zero (N : Nat) (gv : Nat → Value) : (List.range N).map (upTo 0 gv) = List.replicate N (.slice none 0 0) := by
  rw [List.eq_replicate_iff]
  refine ⟨by simp, fun b hb => ?_⟩
  obtain ⟨i, _, rfl⟩ := List.mem_map.1 hb
  rfl
theorem upTo_at {N k : Nat} (gv : Nat → Value) {i : Nat} (hi : i < N) : ((List.range N).map (upTo k gv))[i]? = some (upTo k gv i) := by
  rw [List.getElem?_map, List.getElem?_range hi, Option.map_some]
/-- the state while the grown lists are made -/
structure Gr (w W : World) (B N gL gG : Nat) (cs : List Value) (R A : Nat → Prop) (K : Nat → Value → Nat → List Value → Prop) (n : Nat → Nat) (base : Nat → List Itm) (vs gs : Nat → Value) (t c k q : Nat) (gv : Nat → Value) : Prop where
  ap : ApL w W B TI 2 N R A K gv (M2 n c k q) (fl (X2 base t c k q))
  bL : Blk W gL 32 cs
  bG : Blk W gG 32 ((List.range N).map (upTo k gs))
  old : ∀ i, i < N → k < i → gv i = vs i
  new : ∀ i, i < k → gv i = gs i
section
variable {w W W' : World} {B N gL gG : Nat} {cs : List Value} {R A : Nat → Prop} {K : Nat → Value → Nat → List Value → Prop} {n : Nat → Nat} {base : Nat → List Itm} {vs gs : Nat → Value} {t c k q : Nat} {gv : Nat → Value}
theorem Gr.push (h : Gr w W B N gL gG cs R A K n base vs gs t c k q gv) (hL : A gL) (hG : A gG) (hk : k < N) {v' : Value} (r : Nat) (ho : W'.ownsRow B TI 2 v' (n k + q + r) ((base k ++ List.replicate (q + r) (mkI t k)).flatMap Itm.cells))
    (hg : W.grownBy W' (gv k).ownBlock) (hv : v'.ownBlock = (gv k).ownBlock ∨ v'.ownBlock = some W.heap.size) (hkp : Keeps W W' TI 2 (gv k) (n k + q)) :
    Gr w W' B N gL gG cs R A K n base vs gs t c k (q + r) (fupd gv k v') := by
  have hm : M2 n c k q k = n k + q := by unfold M2; rw [cnt_self]
  have hfl : fl (X2 base t c k q) k ++ (List.replicate r (mkI t k)).flatMap Itm.cells = (base k ++ List.replicate (q + r) (mkI t k)).flatMap Itm.cells := by
    unfold fl
    rw [x2_self, ← List.flatMap_append, List.append_assoc, List.replicate_append_replicate]
  have h1 := h.ap.push (W' := W') (i := k) (k := r) hk (v' := v') (news := (List.replicate r (mkI t k)).flatMap Itm.cells) (by rw [hm, hfl]; exact ho) hg hv (by rw [hm]; exact hkp)
  refine ⟨apL_congr h1 (fun i hi => ?_) (fun i hi => ?_), h.ap.kept hk hg hL h.bL, h.ap.kept hk hg hG h.bG, fun i hi hki => ?_, fun i hi => ?_⟩
  · by_cases e : i = k
    · subst e; rw [fupd_same, hm]; unfold M2; rw [cnt_self]; omega
    · rw [fupd_ne _ _ e]; unfold M2; rw [cnt_ne c k q (q + r) i e]
  · by_cases e : i = k
    · subst e; rw [fupd_same, hfl]; unfold fl; rw [x2_self]
    · rw [fupd_ne _ _ e]; unfold fl; rw [x2_ne base t c k q (q + r) i e]
  · rw [fupd_ne _ _ (by omega)]; exact h.old i hi hki
  · rw [fupd_ne _ _ (by omega)]; exact h.new i hi
theorem Gr.row (h : Gr w W B N gL gG cs R A K n base vs gs t c k q gv) (hk : k < N) : W.ownsRow B TI 2 (gv k) (n k + q) ((base k ++ List.replicate q (mkI t k)).flatMap Itm.cells) := by
  have := h.ap.gown k hk
  unfold M2 fl at this
  rw [cnt_self, x2_self] at this
  exact this
theorem rep_app (b : List Itm) (q r : Nat) (x : Itm) : (b ++ List.replicate q x).flatMap Itm.cells ++ (List.replicate r x).flatMap Itm.cells = (b ++ List.replicate (q + r) x).flatMap Itm.cells := by
  rw [← List.flatMap_append, List.append_assoc, List.replicate_append_replicate]
theorem Gr.below (h : Gr w W B N gL gG cs R A K n base vs gs t c k q gv) (hb : Below W.heap.size W W') : Gr w W' B N gL gG cs R A K n base vs gs t c k q gv :=
  ⟨apL_below h.ap hb, h.bL.grow hb, h.bG.grow hb, h.old, h.new⟩
/-- the list's end: it is put down -/
theorem Gr.next (h : Gr w W B N gL gG cs R A K n base vs gs t c k c gv) (hG : A gG) (hw : w.heap.size ≤ gG) (hne : gL ≠ gG) :
    Gr w (W.setCell ⟨gG, k, none⟩ (gv k)) B N gL gG cs R A K n base vs (fupd gs k (gv k)) t c (k + 1) 0 gv := by
  refine ⟨apL_congr (h.ap.store hG hw k (gv k)) (fun i hi => by unfold M2; rw [cnt_next]) (fun i hi => by rw [x2_next]), h.bL.far (p := ⟨gG, k, none⟩) hne _, ?_, fun i hi hk => h.old i hi (by omega), fun i hi => ?_⟩
  · have := h.bG.set_ k (gv k)
    rw [← fupd_same gs k (gv k), upTo_set N k gs (fupd gs k (gv k)) (fun i hi => (fupd_ne gs _ (by omega)).symm), fupd_same] at this
    exact this
  · by_cases e : i = k
    · subst e; rw [fupd_same]
    · rw [fupd_ne _ _ e]; exact h.new i (by omega)
end
def til (i j : Nat) : List Value := (List.replicate j (mkI 3 i)).flatMap Itm.cells ++ (List.replicate (200 - j) zer).flatMap Itm.cells
theorem til_zero (i : Nat) : (List.replicate 200 [Value.int .i64 0, Value.int .i64 0]).flatten = til i 0 := by rw [zero_cells]; simp [til]
theorem til_len (i : Nat) {j : Nat} (h : j ≤ 200) : (til i j).length = 400 := by
  unfold til
  rw [List.length_append, repf_len, repf_len]
  omega
theorem til_step (i : Nat) {j : Nat} (h : j < 200) : splice (til i j) (j * 2) (Itm.cells (mkI 3 i)) = til i (j + 1) := by
  have e1 : (List.replicate (200 - j) zer) = zer :: List.replicate (200 - (j + 1)) zer := by rw [← List.replicate_succ]; congr 1; omega
  have e2 : List.replicate (j + 1) (mkI 3 i) = List.replicate j (mkI 3 i) ++ [mkI 3 i] := List.replicate_succ'
  have := splice_mid [] ((List.replicate j (mkI 3 i)).flatMap Itm.cells) (Itm.cells zer) ((List.replicate (200 - (j + 1)) zer).flatMap Itm.cells) (Itm.cells (mkI 3 i)) rfl (m := j * 2) (by rw [repf_len]; simp)
  unfold til
  rw [e1, e2, List.flatMap_cons, List.flatMap_append]
  simpa using this
theorem til_done (i : Nat) : til i 200 = (List.replicate 200 (mkI 3 i)).flatMap Itm.cells := by unfold til; simp
def C2 (n : Nat → Nat) : Nat → List Itm := fun i => C1 n i ++ List.replicate 16 (mkI 2 i)
def C3 (n : Nat → Nat) : Nat → List Itm := fun i => C2 n i ++ List.replicate 200 (mkI 3 i)
theorem rep_at (n q : Nat) (x : Itm) (h : q < n) : (List.replicate n x)[q]? = some x := by simp [h]
theorem c1_at (n : Nat → Nat) (i q : Nat) (h : q < n i) : (C1 n i)[q]? = some (mkI 1 i) := rep_at _ _ _ h
theorem c2_at1 (n : Nat → Nat) (i q : Nat) (h : q < n i) : (C2 n i)[q]? = some (mkI 1 i) := by
  unfold C2 C1
  rw [List.getElem?_append_left (by simpa using h)]
  exact rep_at _ _ _ h
theorem c2_at2 (n : Nat → Nat) (i q : Nat) (h1 : n i ≤ q) (h : q < n i + 16) : (C2 n i)[q]? = some (mkI 2 i) := by
  unfold C2 C1
  rw [List.getElem?_append_right (by simpa using h1), List.length_replicate]
  exact rep_at _ _ _ (by omega)
theorem c2_len (n : Nat → Nat) (i : Nat) : (C2 n i).length = n i + 16 := by unfold C2 C1; simp
theorem c3_at12 (n : Nat → Nat) (i q : Nat) (h : q < n i + 16) : (C3 n i)[q]? = (C2 n i)[q]? := by
  unfold C3
  rw [List.getElem?_append_left (by rw [c2_len]; exact h)]
theorem c3_at3 (n : Nat → Nat) (i q : Nat) (h1 : n i + 16 ≤ q) (h : q < n i + 216) : (C3 n i)[q]? = some (mkI 3 i) := by
  unfold C3
  rw [List.getElem?_append_right (by rw [c2_len]; exact h1), c2_len]
  exact rep_at _ _ _ (by omega)
end Go.Proofs.Ytdebokambldbbaa.LawP
