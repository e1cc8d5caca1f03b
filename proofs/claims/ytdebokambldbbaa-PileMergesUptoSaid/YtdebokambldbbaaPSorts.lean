/- weirlaw07.PileSorts: what the walk rests on. -/
import Derived.Test.YtdebokambldbbaaPApart
namespace Go.Proofs.Ytdebokambldbbaa.LawP
open Go.RowKit Go.Shelf Go.Proofs.Ytdebokambldbbaa.Mem Go.Proofs.Ytdebokambldbbaa.Heap Go.Proofs.Ytdebokambldbbaa.Pile Go.Proofs.Ytdebokambldbbaa.PileI
set_option linter.unusedVariables false
set_option linter.unusedSectionVars false
set_option linter.unusedSimpArgs false
set_option maxRecDepth 8000
set_option maxHeartbeats 6400000

abbrev lessV : Value := .func (.func 28) #[] #[]
theorem fv_nil (W : World) : FvOk thI W .nilFunc (fun _ _ => false) (fun _ => True) := .inl ⟨rfl, rfl⟩
section
variable (W : World) (g n c : Nat) (l : List Itm) (hr : RV W (some ⟨g, 0, none⟩) (l.flatMap Itm.cells)) (hn : n = l.length) (hl : n ≤ 1073741824)
include hr hn hl
theorem sort_I : Calls Try.prog 23 #[.slice (some ⟨g, 0, none⟩) n c, lessV] W fun e W' => ∃ v, e = .returned v ∧ W'.ownsRow W.heap.size TI 2 v n ((msort ltK l).flatMap Itm.cells) ∧ Below W.heap.size W W' := by
  have h := sorted_any (th := thI) W (some ⟨g, 0, none⟩) n c l _ hr (.inr ⟨g, 0, rfl⟩) hn (fv_less W fun _ => True) (fun _ _ => trivial) (by omega)
  rw [sorted_eq swo_ltK, ← hn] at h
  exact h
theorem sort_flat : Calls Try.prog 23 #[.slice (some ⟨g, 0, none⟩) n c, .nilFunc] W fun e W' => ∃ v, e = .returned v ∧ W'.ownsRow W.heap.size TI 2 v n (l.flatMap Itm.cells) ∧ Below W.heap.size W W' := by
  have h := sorted_any (th := thI) W (some ⟨g, 0, none⟩) n c l _ hr (.inr ⟨g, 0, rfl⟩) hn (fv_nil W) (fun _ _ => trivial) (by omega)
  rw [sorted_eq swo_flat, msort_flat, ← hn] at h
  exact h
theorem best_I (k : Int) (hk : k ≤ 9223372036854775807) : Calls Try.prog 35 #[.slice (some ⟨g, 0, none⟩) n c, .int .i64 k, lessV] W fun e W' => ∃ v, e = .returned v ∧ W'.ownsRow W.heap.size TI 2 v (min k.toNat n) (((msort ltK l).take (min k.toNat n)).flatMap Itm.cells) ∧ Below W.heap.size W W' := by
  have h := best_any (th := thI) swo_ltK W (some ⟨g, 0, none⟩) n c k l _ hr (.inr ⟨g, 0, rfl⟩) hn (fv_less W fun _ => True) (by omega) hk
  have e : (msort ltK l).take k.toNat = (msort ltK l).take (min k.toNat n) := by
    rw [hn, ← msort_len ltK l]
    exact (List.take_eq_take_min).trans (by rfl)
  rw [e, List.length_take, msort_len, ← hn, Nat.min_assoc, Nat.min_self] at h
  exact h
theorem best_flat (k : Int) (hk : k ≤ 9223372036854775807) : Calls Try.prog 35 #[.slice (some ⟨g, 0, none⟩) n c, .int .i64 k, .nilFunc] W fun e W' => ∃ v, e = .returned v ∧ W'.ownsRow W.heap.size TI 2 v (min k.toNat n) ((l.take (min k.toNat n)).flatMap Itm.cells) ∧ Below W.heap.size W W' := by
  have h := best_any (th := thI) swo_flat W (some ⟨g, 0, none⟩) n c k l _ hr (.inr ⟨g, 0, rfl⟩) hn (fv_nil W) (by omega) hk
  have e : l.take k.toNat = l.take (min k.toNat n) := by
    rw [hn]
    exact (List.take_eq_take_min).trans (by rfl)
  rw [msort_flat, e, List.length_take, ← hn, Nat.min_assoc, Nat.min_self] at h
  exact h
end
/-- the answers under way: rows of the call's own that lie apart -/
structure All (w0 W : World) (B N : Nat) (vs : Nat → Value) (ns : Nat → Nat) (L : Nat → List Itm) : Prop where
  own : ∀ i, i < N → W.ownsRow B TI 2 (vs i) (ns i) (fl L i)
  far : ∀ i j, i < N → j < N → i ≠ j → Far (vs i) (vs j)
  low : Below B w0 W
  len : ∀ i, i < N → ns i ≤ 1073741824
section
variable {w0 W W' : World} {B N : Nat} {vs : Nat → Value} {ns : Nat → Nat} {L : Nat → List Itm}
theorem All.below (h : All w0 W B N vs ns L) (hB : B ≤ w0.heap.size) (hb : Below W.heap.size W W') : All w0 W' B N vs ns L :=
  ⟨fun i hi => own_below'' (h.own i hi) hb, h.far, h.low.trans (hb.mono (Nat.le_trans hB h.low.size)), h.len⟩
/-- one more: made by a call -/
theorem All.add (h : All w0 W B N vs ns L) (hB : B ≤ w0.heap.size) (hb : Below W.heap.size W W') {v : Value} {n : Nat} {l : List Itm} (ho : W'.ownsRow W.heap.size TI 2 v n (l.flatMap Itm.cells)) (hn : n ≤ 1073741824) :
    All w0 W' B (N + 1) (fupd vs N v) (fupd ns N n) (fupd L N l) := by
  have h' := h.below hB hb
  have hnew : ∀ i, i < N → Far v (vs i) := fun i hi => Far.new (h.own i hi) fun g hg => (ho.lt g hg).1
  refine ⟨fun i hi => ?_, fun i j hi hj hne => ?_, h'.low, fun i hi => ?_⟩
  · by_cases e : i = N
    · subst e; unfold fl; rw [fupd_same, fupd_same, fupd_same]; exact own_low ho (Nat.le_trans hB h.low.size)
    · unfold fl; rw [fupd_ne _ _ e, fupd_ne _ _ e, fupd_ne _ _ e]; exact h'.own i (by omega)
  · by_cases e : i = N
    · subst e; rw [fupd_same, fupd_ne _ _ (fun e' => hne e'.symm)]; exact hnew j (by omega)
    · rw [fupd_ne _ _ e]
      by_cases e2 : j = N
      · subst e2; rw [fupd_same]; exact (hnew i (by omega)).symm
      · rw [fupd_ne _ _ e2]; exact h.far i j (by omega) (by omega) hne
  · by_cases e : i = N
    · subst e; rw [fupd_same]; exact hn
    · rw [fupd_ne _ _ e]; exact h.len i (by omega)
/-- a growth of the list of the answers -/
theorem All.kept (h : All w0 W B N vs ns L) (hB : B ≤ w0.heap.size) {va : Value} {m : Nat} {xs : List Value} (ha : W.ownsRow B 32 1 va m xs) (hg : W.grownBy W' va.ownBlock) : All w0 W' B N vs ns L :=
  ⟨fun i hi => (h.own i hi).kept hg (own_ne_own (h.own i hi) ha (by decide)), h.far, h.low.grown hg (Nat.le_trans hB h.low.size) (fun k hk => (ha.lt k hk).1), h.len⟩
theorem range_snoc (N : Nat) (f : Nat → Value) (v : Value) : (List.range (N + 1)).map (fupd f N v) = (List.range N).map f ++ [v] := by
  rw [List.range_succ, List.map_append]
  congr 1
  · refine List.map_congr_left fun i hi => fupd_ne _ _ (by have := List.mem_range.1 hi; omega)
  · simp [fupd_same]
/-- the answers, as apart wants them -/
theorem All.ap0 (h : All w0 W B N vs ns L) {va : Value} (ha : W.ownsRow B 32 1 va N ((List.range N).map vs)) (hN : 0 < N) :
    ∃ gL cL cs, va = .slice (some ⟨gL, 0, none⟩) N cL ∧ Blk W gL 32 cs ∧ (∀ i, i < N → cs[i]? = some (vs i)) ∧ Ap0 W W B TI 2 N (fun b => B ≤ b) (fun b => b = gL) vs ns (fl L) := by
  have h2 := ha.2
  rcases h2 with ⟨_, h0⟩ | ⟨g, cap, cur, rfl, hBg, hg, hnc, _, hcs, htake⟩
  · omega
  · refine ⟨g, cap, cur.toList, rfl, by unfold Blk; simpa using hg, fun i hi => ?_, ⟨h.own, h.far, GrownS.refl _ _, fun i hi b hb => ((h.own i hi).lt b hb).1, fun b hb => by subst hb; exact (Array.getElem?_eq_some_iff.1 hg).1, fun b hb i hi => ?_⟩⟩
    · have := congrArg (·[i]?) htake
      simp only [List.getElem?_take] at this
      rw [if_pos (by omega), List.getElem?_map, List.getElem?_range hi] at this
      simpa using this
    · subst hb
      rcases own_ne_own (h.own i hi) ha (by decide) with e | e
      · rw [e]; exact fun h => by cases h
      · exact e
end
def negI (x : Itm) : Itm := (wrap64 (-x.1), x.2)
/-- the list with its first k keys turned -/
def ngd (l : List Itm) (k : Nat) : List Itm := (l.take k).map negI ++ l.drop k
theorem ngd_zero (l : List Itm) : ngd l 0 = l := rfl
theorem ngd_len (l : List Itm) (k : Nat) : (ngd l k).length = l.length := by unfold ngd; simp; omega
theorem ngd_done (l : List Itm) {n : Nat} (h : n = l.length) : ngd l n = l.map negI := by subst h; unfold ngd; simp
theorem ngd_at (l : List Itm) {k : Nat} (h : k < l.length) : (ngd l k)[k]? = some l[k] := by
  unfold ngd
  rw [List.getElem?_append_right (by simp; omega)]
  simp
  rw [show k - min k l.length = 0 by omega]
  simp [h]
theorem flat_set1 : ∀ (l : List Itm) (j : Nat) (x y : Itm), l[j]? = some x → x.2 = y.2 → (l.set j y).flatMap Itm.cells = (l.flatMap Itm.cells).set (j * 2) (.int .i64 y.1)
  | [], j, x, y, h, _ => by simp at h
  | a :: r, 0, x, y, h, e => by
    simp at h
    subst h
    simp [Itm.cells, e]
  | a :: r, j + 1, x, y, h, e => by
    have e1 : (j + 1) * 2 = j * 2 + 1 + 1 := by omega
    rw [List.set_cons_succ, List.flatMap_cons, flat_set1 r j x y (by simpa using h) e, List.flatMap_cons, e1]
    simp [Itm.cells]
theorem ngd_step (l : List Itm) {k : Nat} (h : k < l.length) (r : List Itm) : ((ngd l k ++ r).flatMap Itm.cells).set (k * 2) (.int .i64 (wrap64 (-(l[k]).1))) = (ngd l (k + 1) ++ r).flatMap Itm.cells := by
  have hx : (ngd l k ++ r)[k]? = some l[k] := by rw [List.getElem?_append_left (by rw [ngd_len]; exact h)]; exact ngd_at l h
  have hs := flat_set1 (ngd l k ++ r) k _ (negI l[k]) hx rfl
  have h1 : (ngd l k ++ r).set k (negI l[k]) = ngd l (k + 1) ++ r := by
    unfold ngd
    rw [List.append_assoc, List.set_append_right _ _ (by simp; omega), List.length_map, List.length_take, show k - min k l.length = 0 by omega, List.drop_eq_getElem_cons h, List.cons_append, List.set_cons_zero, take_succ_ h, List.map_append, List.append_assoc, List.append_assoc]
    rfl
  rw [h1] at hs
  exact hs.symm
end Go.Proofs.Ytdebokambldbbaa.LawP
