/- The requests of a Put, whose rows the caller writes over. -/
import Derived.Test.YtojemdggbcklkaaDoorWKeepA
namespace Go.Proofs.YtojemdggbcklkaaDoor.WireR
open Go.RowKit Go.Proofs.YtojemdggbcklkaaDoor.Mem Go.Proofs.YtojemdggbcklkaaDoor.Wire Go.Proofs.YtojemdggbcklkaaDoor.Strs Go.Proofs.YtojemdggbcklkaaDoor.Heads
set_option linter.unusedVariables false
set_option linter.unusedSimpArgs false
set_option maxRecDepth 4000

def RqI (w : World) (o : Option Nat) (lo hi : Nat) (c : List Value) (r : Req) (vh vb : Value) : Prop :=
  ∃ m, c = [.string ⟨r.method.toArray⟩, .string ⟨r.target.toArray⟩, vh, vb, .bool r.close] ∧ lo ≤ m ∧ m ≤ hi ∧
    w.ownsRow lo 58 2 vh r.headers.length (hdrV r.headers) ∧ (∀ X, vh.ownBlock = some X → X < m ∧ some X ≠ o) ∧
    w.ownsRow m 5 1 vb r.body.length (r.body.map bv) ∧ (∀ X, vb.ownBlock = some X → X < hi ∧ some X ≠ o)
theorem Chn.fam {w : World} {o : Option Nat} : ∀ {lo hi : Nat} {cs : List (List Value)} {rs : List Req}, Chn w o lo cs rs hi →
    ∃ (s : Nat → Nat) (vh vb : Nat → Value), s 0 = lo ∧ s rs.length ≤ hi ∧ ∀ i (hi : i < rs.length), ∃ c, cs[i]? = some c ∧ RqI w o (s i) (s (i + 1)) c rs[i] (vh i) (vb i)
  | lo, hi, [], [], h => ⟨fun _ => lo, fun _ => undef, fun _ => undef, rfl, h, fun i hi => by simp at hi⟩
  | lo, hi, c :: cs, r :: rs, ⟨mid, h1, h2⟩ => by
    obtain ⟨s, vh, vb, e1, e2, h3⟩ := h2.fam
    obtain ⟨A, k, A2, k2, m, e, k1, k2', k3, k4, k5, k6⟩ := h1
    refine ⟨fun i => match i with | 0 => lo | i + 1 => s i, fun i => match i with | 0 => .slice A r.headers.length k | i + 1 => vh i, fun i => match i with | 0 => .slice A2 r.body.length k2 | i + 1 => vb i, rfl, e2, fun i hi => ?_⟩
    cases i with
    | zero =>
      refine ⟨c, rfl, m, e, k1, ?_, k3, k4, k5, ?_⟩
      · show m ≤ s 0; rw [e1]; exact k2'
      · show ∀ X, _ → X < s 0 ∧ _; rw [e1]; exact k6
    | succ i =>
      obtain ⟨c', hc, hq⟩ := h3 i (by simpa using hi)
      exact ⟨c', by simpa using hc, hq⟩
  | _, _, [], _ :: _, h => h.elim
  | _, _, _ :: _, [], h => h.elim
structure KX (W : World) (N lo K : Nat) (vx : Value) (xs : List Value) (vh vb : Nat → Value) (nh nb : Nat → Nat) (hx : Nat → List Value) (bx : Nat → List UInt8) : Prop where
  x : W.ownsRow lo 30 5 vx N xs
  cell : ∀ i, i < N → xs[i * 5 + 2]? = some (vh i) ∧ xs[i * 5 + 3]? = some (vb i)
  h : ∀ i, i < N → W.ownsRow lo 58 2 (vh i) (nh i) (hx i)
  b : ∀ i, i < N → W.ownsRow lo 5 1 (vb i) (nb i) ((bx i).map bv)
  fbb : ∀ i j, i < N → j < N → i ≠ j → Far (vb i) (vb j)
  fbh : ∀ i j, i < N → j < N → Far (vb i) (vh j)
  fhh : ∀ i j, i < N → j < N → i ≠ j → Far (vh i) (vh j)
  fxb : ∀ i, i < N → Far vx (vb i)
  fxh : ∀ i, i < N → Far vx (vh i)
  blt : ∀ i, i < N → ∀ g, (vb i).ownBlock = some g → g < K
  hlt : ∀ i, i < N → ∀ g, (vh i).ownBlock = some g → g < K
  xlt : ∀ g, vx.ownBlock = some g → g < K
section
variable {W W' : World} {N lo K : Nat} {vx : Value} {xs : List Value} {vh vb : Nat → Value} {nh nb : Nat → Nat} {hx : Nat → List Value} {bx : Nat → List UInt8}
theorem KX.keep (h : KX W N lo K vx xs vh vb nh nb hx bx) (hk : ∀ k, lo ≤ k → k < K → W'.heap[k]? = W.heap[k]?) : KX W' N lo K vx xs vh vb nh nb hx bx :=
  ⟨own_keep h.x (fun X e _ => hk X (h.x.lt X e).1 (h.xlt X e)), h.cell, fun i hi => own_keep (h.h i hi) (fun X e _ => hk X ((h.h i hi).lt X e).1 (h.hlt i hi X e)), fun i hi => own_keep (h.b i hi) (fun X e _ => hk X ((h.b i hi).lt X e).1 (h.blt i hi X e)),
   h.fbb, h.fbh, h.fhh, h.fxb, h.fxh, h.blt, h.hlt, h.xlt⟩
theorem KX.setb (h : KX W N lo K vx xs vh vb nh nb hx bx) {i g c : Nat} (hi : i < N) (hv : vb i = .slice (some ⟨g, 0, none⟩) (nb i) c) (j : Nat) (y : UInt8) : KX (W.setCell ⟨g, j, none⟩ (bv y)) N lo K vx xs vh vb nh nb hx (fupd bx i ((bx i).set j y)) := by
  have hb : (vb i).ownBlock = some g := by rw [hv]; rfl
  refine ⟨own_far h.x (fun e => h.fxb i hi g e hb) _, h.cell, fun k hk => own_far (h.h k hk) (h.fbh i k hi hk g hb) _, fun k hk => ?_, h.fbb, h.fbh, h.fhh, h.fxb, h.fxh, h.blt, h.hlt, h.xlt⟩
  by_cases e : k = i
  · subst e
    rw [fupd_same, List.map_set]
    have ho := h.b k hk
    rw [hv] at ho ⊢
    exact (ho.stored j (bv y)).1
  · rw [fupd_ne _ _ e]
    exact own_far (h.b k hk) (h.fbb i k hi hk (fun e' => e e'.symm) g hb) _
theorem KX.hdr (h : KX W N lo K vx xs vh vb nh nb hx bx) {i g : Nat} (hi : i < N) (hv : (vh i).ownBlock = some g) (hg : W.grownBy W' (some g)) {hx' : List Value} (ho : W'.ownsRow lo 58 2 (vh i) (nh i) hx') : KX W' N lo K vx xs vh vb nh nb (fupd hx i hx') bx := by
  have off : ∀ {T : TypeId} {size n : Nat} {u : Value} {zs : List Value}, W.ownsRow lo T size u n zs → (∀ X, u.ownBlock = some X → X ≠ g) → W'.ownsRow lo T size u n zs := fun hu hne => own_keep hu (fun X e hX => hg.block X hX (fun e2 => hne X e (by injection e2)))
  refine ⟨off h.x (fun X e e2 => h.fxh i hi X e (e2 ▸ hv)), h.cell, fun k hk => ?_, fun k hk => off (h.b k hk) (fun X e e2 => h.fbh k i hk hi X e (e2 ▸ hv)), h.fbb, h.fbh, h.fhh, h.fxb, h.fxh, h.blt, h.hlt, h.xlt⟩
  by_cases e : k = i
  · subst e; rw [fupd_same]; exact ho
  · rw [fupd_ne _ _ e]
    exact off (h.h k hk) (fun X e3 e2 => h.fhh k i hk hi e X e3 (e2 ▸ hv))
/-- the body's row, or one made later, was grown -/
theorem KX.app (h : KX W N lo K vx xs vh vb nh nb hx bx) {i n : Nat} {v : Value} (hi : i < N) (hg : W.grownBy W' v.ownBlock) (hk : Keeps W W' 5 1 v n) (hn : nb i ≤ n) (hv : v.ownBlock = (vb i).ownBlock ∨ ∀ g, v.ownBlock = some g → K ≤ g) : KX W' N lo K vx xs vh vb nh nb hx bx := by
  have off : ∀ {T : TypeId} {size n : Nat} {u : Value} {zs : List Value}, W.ownsRow lo T size u n zs → Far (vb i) u → (∀ X, u.ownBlock = some X → X < K) → W'.ownsRow lo T size u n zs := fun hu hf hlt => own_keep hu (fun X e hX => hg.block X hX (fun e2 => by
    rcases hv with hv | hv
    · exact hf X (hv ▸ e2.symm) e
    · have := hv X e2.symm; have := hlt X e; omega))
  refine ⟨off h.x (h.fxb i hi).symm h.xlt, h.cell, fun k hk' => off (h.h k hk') (h.fbh i k hi hk') (h.hlt k hk'), fun k hk' => ?_, h.fbb, h.fbh, h.fhh, h.fxb, h.fxh, h.blt, h.hlt, h.xlt⟩
  by_cases e : k = i
  · subst e; exact hk _ _ _ _ (h.b k hk') (.inr hn)
  · exact off (h.b k hk') (h.fbb i k hi hk' (fun e' => e e'.symm)) (h.blt k hk')
end
theorem flat_at : ∀ {rows : List (List Value)} (h : ∀ c ∈ rows, c.length = 5) (i j : Nat) (c : List Value), rows[i]? = some c → j < 5 → rows.flatten[i * 5 + j]? = c[j]? := fun {rows} h i j c hc hj => by
  have hi := (List.getElem?_eq_some_iff.1 hc).1
  rw [flat5 h i j hi hj]
  rw [(List.getElem?_eq_some_iff.1 hc).2]
theorem RLO.kx {w : World} {B K : Nat} {v : Value} {rs : List Req} (h : RLO w B K v rs) : ∃ xs vh vb, KX w rs.length B K v xs vh vb (fun i => (rs[i]?.map fun r => r.headers.length).getD 0) (fun i => (rs[i]?.map fun r => r.body.length).getD 0) (fun i => (rs[i]?.map fun r => hdrV r.headers).getD []) (fun i => (rs[i]?.map fun r => r.body).getD []) := by
  obtain ⟨rows, h1, h2, h3⟩ := h.ex
  obtain ⟨s, vh, vb, e1, e2, hf⟩ := h2.fam
  have h5 : ∀ c ∈ rows, c.length = 5 := fun c hc => by obtain ⟨r, hr⟩ := (h2.all (Nat.le_refl _)).left c hc; exact hr.len
  have mono : ∀ j i, i ≤ j → j ≤ rs.length → s i ≤ s j := by
    intro j
    induction j with
    | zero => intro i hij _; have : i = 0 := by omega
              subst this; exact Nat.le_refl _
    | succ j ih =>
      intro i hij hjl
      by_cases e : i = j + 1
      · subst e; exact Nat.le_refl _
      · obtain ⟨c, _, m, _, k1, k2, _⟩ := hf j (by omega)
        exact Nat.le_trans (ih i (by omega) (by omega)) (Nat.le_trans k1 k2)
  have hb : ∀ i, i < rs.length → ∀ g, (vb i).ownBlock = some g → s i ≤ g ∧ g < s (i + 1) ∧ some g ≠ v.ownBlock := fun i hi g e => by
    obtain ⟨c, _, m, _, k1, k2, k3, k4, k5, k6⟩ := hf i hi
    exact ⟨Nat.le_trans k1 (k5.lt g e).1, (k6 g e).1, (k6 g e).2⟩
  have hh : ∀ i, i < rs.length → ∀ g, (vh i).ownBlock = some g → s i ≤ g ∧ g < s (i + 1) ∧ some g ≠ v.ownBlock := fun i hi g e => by
    obtain ⟨c, _, m, _, k1, k2, k3, k4, k5, k6⟩ := hf i hi
    exact ⟨(k3.lt g e).1, Nat.lt_of_lt_of_le (k4 g e).1 k2, (k4 g e).2⟩
  have apart : ∀ i j, i < rs.length → j < rs.length → i ≠ j → ∀ g, s i ≤ g → g < s (i + 1) → s j ≤ g → g < s (j + 1) → False := fun i j hi hj hne g a1 a2 b1 b2 => by
    rcases Nat.lt_or_gt_of_ne hne with hlt | hlt
    · have := mono j (i + 1) (by omega) (by omega); omega
    · have := mono i (j + 1) (by omega) (by omega); omega
  have low : ∀ i, i < rs.length → B ≤ s i := fun i hi => by rw [← e1]; exact mono i 0 (Nat.zero_le _) (by omega)
  have high : ∀ i, i < rs.length → s (i + 1) ≤ K := fun i hi => Nat.le_trans (mono rs.length (i + 1) (by omega) (Nat.le_refl _)) e2
  refine ⟨rows.flatten, vh, vb, h1, fun i hi => ?_, fun i hi => ?_, fun i hi => ?_, fun i j hi hj hne g e e' => apart i j hi hj hne g (hb i hi g e).1 (hb i hi g e).2.1 (hb j hj g e').1 (hb j hj g e').2.1, fun i j hi hj g e e' => ?_,
    fun i j hi hj hne g e e' => apart i j hi hj hne g (hh i hi g e).1 (hh i hi g e).2.1 (hh j hj g e').1 (hh j hj g e').2.1, fun i hi g e e' => (hb i hi g e').2.2 e.symm, fun i hi g e e' => (hh i hi g e').2.2 e.symm,
    fun i hi g e => Nat.lt_of_lt_of_le (hb i hi g e).2.1 (high i hi), fun i hi g e => Nat.lt_of_lt_of_le (hh i hi g e).2.1 (high i hi), h3⟩
  · obtain ⟨c, hc, m, ec, _⟩ := hf i hi
    exact ⟨by rw [flat_at h5 i 2 c hc (by omega), ec]; rfl, by rw [flat_at h5 i 3 c hc (by omega), ec]; rfl⟩
  · obtain ⟨c, hc, m, ec, k1, k2, k3, k4, k5, k6⟩ := hf i hi
    simp only [List.getElem?_eq_getElem hi, Option.map_some, Option.getD_some]
    exact own_base k3 (low i hi)
  · obtain ⟨c, hc, m, ec, k1, k2, k3, k4, k5, k6⟩ := hf i hi
    simp only [List.getElem?_eq_getElem hi, Option.map_some, Option.getD_some]
    exact own_base k5 (Nat.le_trans (low i hi) k1)
  · by_cases hne : i = j
    · subst hne
      obtain ⟨c, hc, m, ec, k1, k2, k3, k4, k5, k6⟩ := hf i hi
      have := (k5.lt g e).1
      have := (k4 g e').1
      omega
    · exact apart i j hi hj hne g (hb i hi g e).1 (hb i hi g e).2.1 (hh j hj g e').1 (hh j hj g e').2.1
theorem set_next (a : UInt8) (p : List UInt8) {i : Nat} (h : i < p.length) : (List.replicate i a ++ p.drop i).set i a = List.replicate (i + 1) a ++ p.drop (i + 1) := by
  rw [List.set_append_right _ _ (by simp), List.length_replicate, Nat.sub_self, List.drop_eq_getElem_cons h, List.set_cons_zero, List.replicate_succ', List.append_assoc]
  rfl
theorem at_next (a : UInt8) (p : List UInt8) {i : Nat} (h : i < p.length) : (List.replicate i a ++ p.drop i)[i]? = some p[i] := by
  rw [List.getElem?_append_right (by simp), List.length_replicate, Nat.sub_self, List.getElem?_drop, Nat.add_zero, List.getElem?_eq_getElem h]
theorem KX.fill {W : World} {N lo K : Nat} {vx : Value} {xs : List Value} {vh vb : Nat → Value} {nh nb : Nat → Nat} {hx : Nat → List Value} {bx : Nat → List UInt8} {i j g c : Nat} {y : UInt8}
    (h : KX W N lo K vx xs vh vb nh nb hx (fupd bx i (List.replicate j y ++ (bx i).drop j))) (hi : i < N) (hv : vb i = .slice (some ⟨g, 0, none⟩) (nb i) c) (hj : j < (bx i).length) :
    KX (W.setCell ⟨g, j, none⟩ (bv y)) N lo K vx xs vh vb nh nb hx (fupd bx i (List.replicate (j + 1) y ++ (bx i).drop (j + 1))) := by
  have := h.setb hi hv j y
  rw [fupd_same, fupd_fupd, set_next y (bx i) hj] at this
  exact this
theorem KX.blen {W : World} {N lo K : Nat} {vx : Value} {xs : List Value} {vh vb : Nat → Value} {nh nb : Nat → Nat} {hx : Nat → List Value} {bx : Nat → List UInt8} (h : KX W N lo K vx xs vh vb nh nb hx bx) {i : Nat} (hi : i < N) : (bx i).length = nb i := by
  have := (h.b i hi).1
  simpa using this
theorem own_blk {w : World} {B n c g s : Nat} {T : TypeId} {xs : List Value} (h : w.ownsRow B T s (.slice (some ⟨g, 0, none⟩) n c) n xs) : ∃ cs, Blk w g T cs ∧ cs.length = c * s ∧ B ≤ g ∧ n ≤ c ∧ c ≤ maxLen := by
  rcases h.2 with ⟨hn, _⟩ | ⟨g', cap, cur, hv, hb, hg, hc, hm, hs, ht⟩
  · cases hn
  · injection hv with h1 h2 h3
    injection h1 with h1
    injection h1 with h1
    subst h1 h3
    exact ⟨cur.toList, by unfold Blk; rw [hg], by simpa using hs, hb, hc, hm⟩
theorem blk_own {w : World} {B n c g s : Nat} {T : TypeId} {cs : List Value} (h : Blk w g T cs) (hl : cs.length = c * s) (hb : B ≤ g) (hn : n ≤ c) (hm : c ≤ maxLen) : w.ownsRow B T s (.slice (some ⟨g, 0, none⟩) n c) n (cs.take (n * s)) :=
  ⟨by rw [List.length_take, hl]; exact Nat.min_eq_left (Nat.mul_le_mul_right _ hn), .inr ⟨g, c, cs.toArray, rfl, hb, h, hn, hm, by simpa using hl, by simp⟩⟩
theorem splice_len (cs vs : List Value) (o : Nat) (h : o + vs.length ≤ cs.length) : (splice cs o vs).length = cs.length := by
  unfold splice
  simp only [List.length_append, List.length_take, List.length_drop]
  omega
end Go.Proofs.YtojemdggbcklkaaDoor.WireR
