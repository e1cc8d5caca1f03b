/- AppG, Own2, Far, KeepRow and ApL in one text (a claim has at most 60 files). -/
import Derived.Test.YtojemdggbcklkaaDoorByteRow

/- Guarded operations: []T{} and append. Plain theorems over any program. -/
namespace Go.Proofs.YtojemdggbcklkaaDoor.Seal
set_option linter.unusedVariables false
set_option linter.unusedSectionVars false
set_option linter.unusedSimpArgs false
open Go.RowKit Go.Proofs.YtojemdggbcklkaaDoor.Mem

section
variable {P : Program} {t e : TypeId} {zs : List Value} {by_ : Nat}
theorem wpList_wanted {w : World} {ops : Array Oper} {rest : List Oper} {o : Oper} {a : Act} {Q : Exit → Act → World → Prop} (hw : Region.wanted o (yielded ops a.tmps) = true)
    (h : ∀ K : Act → World → Prop, (∀ a w, wpList P ops Q rest a w → K a w) → o.wp P a w K Q) : wpList P ops Q (o :: rest) a w := by
  simp only [wpList, hw, if_true]
  exact .inl (h _ (fun _ _ h => h))
theorem run_zero (E : Elt P t e zs by_) (hs : zs.length ≤ 16777216) {ρ : Operand → Value} {w : World} {o : Oper} (ho : o.op = .buildSlice t 0 #[]) :
    (execOp ρ o).run P w = .ok (.value (.slice (some ⟨w.heap.size, 0, none⟩) 0 0)) (w.alloc (.cells #[] e)) := by
  obtain ⟨i, z, hi, hz, hsz, hby, hcs⟩ := E.inf
  have hp := E.pos
  have hr : (Instr.buildSlice t 0 #[]).run P w = .ok (.slice (some ⟨w.heap.size, 0, none⟩) 0 0) (w.alloc (.cells #[] e)) := by
    simp [Instr.buildSlice, run_underlying E.und, sizeOf, typeInfo, hi, Instr.fill, newRow]
    rw [Array.eq_empty_of_size_eq_zero (xs := Array.map (fun _ => (default : Value)) (Array.range 0)) (by simp)]
  simp [execOp, ho, hr, Result.andThen]
theorem wpList_zeroG (E : Elt P t e zs by_) (hs : zs.length ≤ 16777216) {w : World} {ops : Array Oper} {rest : List Oper} {o : Oper} {a : Act} {Q : Exit → Act → World → Prop} (hw : Region.wanted o (yielded ops a.tmps) = true) (ho : o.op = .buildSlice t 0 #[]) (H : Nat) (hH : w.heap.size = H)
    (h : ∀ w', w'.ownsRow H e zs.length (.slice (some ⟨H, 0, none⟩) 0 0) 0 [] → Below H w w' → w'.heap.size = H + 1 → wpList P ops Q rest (a.put o.dst (.slice (some ⟨H, 0, none⟩) 0 0)) w') : wpList P ops Q (o :: rest) a w := by
  subst hH
  refine wpList_wanted hw fun K hK => ?_
  unfold Oper.wp
  rw [run_zero E hs ho]
  refine hK _ _ (h _ ⟨by simp, .inr ⟨_, 0, #[], rfl, Nat.le_refl _, heap_alloc_new w _, Nat.le_refl _, by unfold maxLen; omega, by simp, by simp⟩⟩ (ga (gr w) _) (by simp))
theorem wpList_appG (E : Elt P t e zs by_) {w : World} {ops : Array Oper} {rest : List Oper} {o : Oper} {a : Act} {Q : Exit → Act → World → Prop} (hw : Region.wanted o (yielded ops a.tmps) = true)
    (s x : Operand) (ho : o.op = .call { callee := .builtin .append, args := #[s, x], argTypes := #[t, t] })
    (B : Nat) (v : Value) (n : Nat) (xs : List Value) (hs : a.eval s = v) (hown : w.ownsRow B e zs.length v n xs)
    (A : Option Addr) (m c : Nat) (news : List Value) (hx : a.eval x = .slice A m c) (hr : RV w A news) (hm : news.length = m * zs.length) (h1 : ∀ u ∈ news, u.oneCell' = true)
    (h63 : n + m ≤ maxLen) (hbytes : (n + m) * by_ ≤ 140737488355328) (hbase : B ≤ w.heap.size)
    (h : ∀ v' w', w'.ownsRow B e zs.length v' (n + m) (xs ++ news) → w.grownBy w' v.ownBlock → (v'.ownBlock = v.ownBlock ∨ v'.ownBlock = some w.heap.size) → wpList P ops Q rest (a.put o.dst v') w') : wpList P ops Q (o :: rest) a w :=
  wpList_wanted hw fun _ hK => wp_app E s x ho B v n xs hs hown A m c news hx hr hm h1 h63 hbytes hbase fun v' w' h2 h3 h4 => hK _ _ (h v' w' h2 h3 h4)
end
end Go.Proofs.YtojemdggbcklkaaDoor.Seal

/- append, with what it leaves of every other row, and of the old slice itself; stores into a row of the call's own. Plain theorems over any program. -/
namespace Go.Proofs.YtojemdggbcklkaaDoor.Mem
open Go.RowKit

/-- a row keeps its value, if it lies in another block than v or is no longer than n -/
def Keeps (w w' : World) (e : TypeId) (size : Nat) (v : Value) (n : Nat) : Prop :=
  ∀ (B : Nat) (u : Value) (k : Nat) (ys : List Value), w.ownsRow B e size u k ys → (u.ownBlock ≠ v.ownBlock ∨ k ≤ n) → w'.ownsRow B e size u k ys

theorem Keeps.of_none {w w' : World} {e : TypeId} {size n : Nat} {v : Value} (h : w.grownBy w' none) : Keeps w w' e size v n := fun B u k ys hu _ => hu.kept h (by cases hv : u.ownBlock <;> simp)
theorem Keeps.self {w w' : World} {e : TypeId} {size n : Nat} {v : Value} (h : Keeps w w' e size v n) {B : Nat} {xs : List Value} (hv : w.ownsRow B e size v n xs) : w'.ownsRow B e size v n xs := h B v n xs hv (.inr (Nat.le_refl n))

section
variable {P : Program}
theorem run_app2 (w : World) (base : Nat) (t ty e : TypeId) (i : TypeInfo) (z : Value) (size bytes : Nat) (ht : P.underlying t = some (.slice e)) (hi : P.info? e = some i) (hz : i.zero = some z)
    (hsize : i.size = size) (hby : i.bytes = bytes) (hzs : z.cells.size = size) (hsz : 0 < size)
    (v : Value) (n : Nat) (xs : List Value) (hown : w.ownsRow base e size v n xs)
    (a : Addr) (m c : Nat) (news : List Value) (hl : news.length = m * size) (hnews : ∀ j u, news[j]? = some u → w.cell? (a.add j) = some u) (h1 : ∀ u ∈ news, u.oneCell' = true)
    (h63 : n + m ≤ maxLen) (hbytes : (n + m) * bytes ≤ 140737488355328) (hbase : base ≤ w.heap.size) :
    ∃ v' w', (Builtin.append_ #[t, t] ty #[v, .slice (some a) m c]).run P w = .ok v' w' ∧ w'.ownsRow base e size v' (n + m) (xs ++ news) ∧ w.grownBy w' v.ownBlock ∧
      (v'.ownBlock = v.ownBlock ∨ v'.ownBlock = some w.heap.size) ∧ Keeps w w' e size v n := by
  subst hsize
  subst hby
  have hsmall : n + m ≤ 9223372036854775807 := by simp only [maxLen] at h63; omega
  have hlen : (xs ++ news).length = (n + m) * i.size := by rw [List.length_append, hown.1, hl, Nat.add_mul]
  have grown : ∀ (old : Nat), old < n + m → ∀ (row : Option Nat),
      (w.drew.alloc (.cells (xs.toArray ++ news.toArray ++ Builtin.zeroCells z.cells (grownCap w (n + m) old e - (n + m))) e)).ownsRow base e i.size
        (.slice (some ⟨w.heap.size, 0, none⟩) (n + m) (grownCap w (n + m) old e)) (n + m) (xs ++ news) ∧
      w.grownBy (w.drew.alloc (.cells (xs.toArray ++ news.toArray ++ Builtin.zeroCells z.cells (grownCap w (n + m) old e - (n + m))) e)) row := by
    intro old ho row
    have hge := grownCap_ge w (n + m) old e
    have hcm : grownCap w (n + m) old e ≤ maxLen := grownCap_le_maxLen w (n + m) old e h63
    refine ⟨⟨hlen, .inr ⟨w.heap.size, _, _, rfl, hbase, heap_alloc_new w.drew _, hge, hcm, ?_, ?_⟩⟩, ⟨rfl, rfl, rfl, by simp, fun k hk _ => heap_alloc_old w.drew _ hk⟩⟩
    · simp only [Array.size_append, List.size_toArray, size_zeroCells, hzs, hown.1, hl, ← Nat.add_mul]
      congr 1
      omega
    · simp only [Array.toList_append, List.append_assoc]
      rw [← List.append_assoc, ← hlen]
      exact List.take_left
  rcases hown.2 with ⟨rfl, rfl⟩ | ⟨g, cap, cur, rfl, hbg, hg, hnc, hcm, hcs, htake⟩
  · have hx : xs = [] := List.eq_nil_of_length_eq_zero (by simpa using hown.1)
    subst hx
    by_cases hm : m = 0
    · subst hm
      have hn : news = [] := List.eq_nil_of_length_eq_zero (by simpa using hl)
      subst hn
      refine ⟨.slice none 0 0, w, ?_, World.ownsRow_nil w base e i.size, ⟨rfl, rfl, rfl, Nat.le_refl _, fun _ _ _ => rfl⟩, Or.inl rfl, fun _ _ _ _ h _ => h⟩
      simp [Builtin.append_, run_underlying ht, sizeOf, typeInfo, hi, Builtin.lenOf, Builtin.firstCells, loadCells, loadCellsFrom]
    · have hr := run_append_nil (P := P) w t ty e i z ht hi hz a m c news hl hnews (by omega) (by omega) (by have hb := hbytes; simp only [Nat.zero_add] at hb; omega)
      have hgr := grown 0 (by omega)
      simp only [Nat.zero_add, List.nil_append, Array.empty_append] at hgr ⊢
      exact ⟨_, _, hr, (hgr none).1, (hgr _).2, Or.inr rfl, Keeps.of_none (hgr none).2⟩
  · by_cases hroom : n + m ≤ cap
    · have hfit : n * i.size + news.length ≤ cur.size := by rw [hl, hcs, ← Nat.add_mul]; exact Nat.mul_le_mul_right _ hroom
      have hr := run_append_room (P := P) w t ty e i ht hi g n cap cur hg a m c news hl hnews h1 hroom hfit
      have hgb : w.grownBy (w.setRow g (cur.toList.take (n * i.size) ++ news ++ cur.toList.drop (n * i.size + news.length)).toArray) (some g) :=
        ⟨rfl, rfl, rfl, by simp, fun k _ hk => setRow_other w g k _ (fun e => hk (by simp [e]))⟩
      have hsz' : (cur.toList.take (n * i.size) ++ news ++ cur.toList.drop (n * i.size + news.length)).toArray.size = cap * i.size := by
        simp only [List.size_toArray, List.length_append, List.length_take, List.length_drop, Array.length_toList]
        omega
      refine ⟨_, _, hr, ⟨hlen, .inr ⟨g, cap, _, rfl, hbg, setRow_heap w g cur _ e _ hg, hroom, hcm, hsz', ?_⟩⟩, hgb, Or.inl rfl, ?_⟩
      · rw [htake, ← hlen]
        exact List.take_left
      · intro B u k ys hu hor
        by_cases hne : u.ownBlock = some g
        · have hk : k ≤ n := hor.resolve_left (fun h => h hne)
          refine ⟨hu.1, ?_⟩
          rcases hu.2 with ⟨rfl, _⟩ | ⟨g', cap', cur', rfl, hb', hg', hnc', hcm', hcs', htake'⟩
          · simp [Value.ownBlock] at hne
          · simp only [Value.ownBlock, Option.some.injEq] at hne
            subst hne
            rw [hg] at hg'
            simp only [Option.some.injEq, Obj.cells.injEq, and_true] at hg'
            subst hg'
            refine .inr ⟨g', cap', _, rfl, hb', setRow_heap w g' cur _ e _ hg, hnc', hcm', by rw [hsz', ← hcs, hcs'], ?_⟩
            have hki : k * i.size ≤ n * i.size := Nat.mul_le_mul_right _ hk
            simp only [List.append_assoc]
            rw [List.take_append_of_le_length (by rw [List.length_take, Array.length_toList]; omega), List.take_take, Nat.min_eq_left hki]
            exact htake'
        · exact hu.kept hgb (.inr hne)
    · have holds : ∀ j u, xs[j]? = some u → w.cell? ((⟨g, 0, none⟩ : Addr).add j) = some u := hown.cells (g := g) rfl
      have hr := run_append_grow (P := P) w t ty e i z ht hi hz ⟨g, 0, none⟩ n cap xs hown.1 holds a m c news hl hnews (by omega) (by omega) (growslice_fits (by omega) hbytes)
      have hgr := grown cap (by omega)
      exact ⟨_, _, hr, (hgr none).1, (hgr _).2, Or.inr rfl, Keeps.of_none (hgr none).2⟩

variable {t e : TypeId} {zs : List Value} {by_ : Nat}
theorem wp_app2 (E : Elt P t e zs by_) {w : World} {o : Oper} {a : Act} {K : Act → World → Prop} {Q : Exit → Act → World → Prop}
    (s x : Operand) (ho : o.op = .call { callee := .builtin .append, args := #[s, x], argTypes := #[t, t] })
    (B : Nat) (v : Value) (n : Nat) (xs : List Value) (hs : a.eval s = v) (hown : w.ownsRow B e zs.length v n xs)
    (A : Option Addr) (m c : Nat) (news : List Value) (hx : a.eval x = .slice A m c) (hr : RV w A news) (hm : news.length = m * zs.length) (h1 : ∀ u ∈ news, u.oneCell' = true)
    (h63 : n + m ≤ maxLen) (hbytes : (n + m) * by_ ≤ 140737488355328) (hbase : B ≤ w.heap.size)
    (h : ∀ v' w', w'.ownsRow B e zs.length v' (n + m) (xs ++ news) → w.grownBy w' v.ownBlock → (v'.ownBlock = v.ownBlock ∨ v'.ownBlock = some w.heap.size) → Keeps w w' e zs.length v n → K (a.put o.dst v') w') : o.wp P a w K Q := by
  obtain ⟨i, z', hi, hz, hsz, hby, hcs⟩ := E.inf
  have key : ∃ v' w', (Builtin.append_ #[t, t] o.type #[v, .slice A m c]).run P w = .ok v' w' ∧ w'.ownsRow B e zs.length v' (n + m) (xs ++ news) ∧ w.grownBy w' v.ownBlock ∧ (v'.ownBlock = v.ownBlock ∨ v'.ownBlock = some w.heap.size) ∧ Keeps w w' e zs.length v n := by
    rcases A with _ | ad
    · have hm0 : news = [] := by
        rcases news with _ | ⟨u, r⟩
        · rfl
        · obtain ⟨ad, he, _⟩ := hr 0 (by simp)
          cases he
      subst hm0
      have hm' : m = 0 := by
        rcases Nat.eq_zero_or_pos m with h0 | h0
        · exact h0
        · have := Nat.mul_pos h0 E.pos; simp at hm; omega
      subst hm'
      refine ⟨v, w, ?_, by simpa using hown, World.grownBy.refl w _, .inl rfl, fun _ _ _ _ h _ => h⟩
      rcases hown.2 with ⟨rfl, rfl⟩ | ⟨g, cap, cur, rfl, _, _, hnc, _⟩
      · simp [Builtin.append_, run_underlying E.und, sizeOf, typeInfo, hi, Builtin.lenOf, Builtin.firstCells]
      · simp [Builtin.append_, run_underlying E.und, sizeOf, typeInfo, hi, Builtin.lenOf, Builtin.firstCells, hnc, storeCells]
    · exact run_app2 (P := P) w B t o.type e i z' zs.length by_ E.und hi hz hsz hby (by rw [hcs]; simp) E.pos v n xs hown ad m c news hm (hr.cells rfl) h1 h63 hbytes hbase
  obtain ⟨v', w', hrun, h2, h3, h4⟩ := key
  unfold Oper.wp execOp
  simp only [ho, resolve, invoke, builtin, Sem.run_bind, Sem.run_pure, Result.andThen_ok, List.map_toArray, List.map_cons, List.map_nil, hs, hx, hrun]
  exact h v' w' h2 h3 h4.1 h4.2

theorem wpList_app2 (E : Elt P t e zs by_) {w : World} {ops : Array Oper} {rest : List Oper} {o : Oper} {a : Act} {Q : Exit → Act → World → Prop} (hw : Region.wanted o (yielded ops a.tmps) = true)
    (s x : Operand) (ho : o.op = .call { callee := .builtin .append, args := #[s, x], argTypes := #[t, t] })
    (B : Nat) (v : Value) (n : Nat) (xs : List Value) (hs : a.eval s = v) (hown : w.ownsRow B e zs.length v n xs)
    (A : Option Addr) (m c : Nat) (news : List Value) (hx : a.eval x = .slice A m c) (hr : RV w A news) (hm : news.length = m * zs.length) (h1 : ∀ u ∈ news, u.oneCell' = true)
    (h63 : n + m ≤ maxLen) (hbytes : (n + m) * by_ ≤ 140737488355328) (hbase : B ≤ w.heap.size)
    (h : ∀ v' w', w'.ownsRow B e zs.length v' (n + m) (xs ++ news) → w.grownBy w' v.ownBlock → (v'.ownBlock = v.ownBlock ∨ v'.ownBlock = some w.heap.size) → Keeps w w' e zs.length v n → wpList P ops Q rest (a.put o.dst v') w') : wpList P ops Q (o :: rest) a w :=
  Seal.wpList_wanted hw fun _ hK => wp_app2 E s x ho B v n xs hs hown A m c news hx hr hm h1 h63 hbytes hbase fun v' w' h2 h3 h4 h5 => hK _ _ (h v' w' h2 h3 h4 h5)
end
end Go.Proofs.YtojemdggbcklkaaDoor.Mem

/- Two rows that lie apart; what changes in two blocks alone. Plain theorems over any program. -/
namespace Go.Proofs.YtojemdggbcklkaaDoor.Mem
open Go.RowKit

/-- no block in common -/
def Far (v u : Value) : Prop := ∀ g, v.ownBlock = some g → u.ownBlock ≠ some g
theorem Far.symm {v u : Value} (h : Far v u) : Far u v := fun g hg hv => h g hv hg
theorem Far.ne {v u : Value} (h : Far v u) : u.ownBlock = none ∨ u.ownBlock ≠ v.ownBlock := by
  cases hu : u.ownBlock with
  | none => exact .inl rfl
  | some g => exact .inr fun e => h g e.symm hu
theorem Far.nil (u : Value) (n c : Nat) : Far (.slice none n c) u := fun g h => by cases h
theorem Far.new {w : World} {B n size : Nat} {T : TypeId} {v u : Value} {xs : List Value} (hu : w.ownsRow B T size u n xs) (hv : ∀ g, v.ownBlock = some g → w.heap.size ≤ g) : Far v u := fun g hg he => by
  have := (hu.lt g he).2
  have := hv g hg
  omega
theorem Far.low {w : World} {n size B : Nat} {T : TypeId} {v u : Value} {xs : List Value} (hv : ∀ g, v.ownBlock = some g → g < B) (hu : w.ownsRow B T size u n xs) : Far v u := fun g hg he => by
  have := (hu.lt g he).1
  have := hv g hg
  omega
theorem Far.next {w : World} {B n size : Nat} {T : TypeId} {v v' u : Value} {xs : List Value} (h : Far v u) (hu : w.ownsRow B T size u n xs) (hv : v'.ownBlock = v.ownBlock ∨ v'.ownBlock = some w.heap.size) : Far v' u := fun g hg he => by
  rcases hv with e | e
  · exact h g (e ▸ hg) he
  · rw [e] at hg
    injection hg with hg
    have := (hu.lt g he).2
    omega

/-- what changed lies in these two blocks or is new -/
structure Grown2 (w w' : World) (r1 r2 : Option Nat) : Prop where
  os : w'.os = w.os
  tape : w'.tape = w.tape
  output : w'.output = w.output
  size : w.heap.size ≤ w'.heap.size
  block : ∀ k, k < w.heap.size → some k ≠ r1 → some k ≠ r2 → w'.heap[k]? = w.heap[k]?
section
variable {w w1 w' : World} {r1 r2 : Option Nat}
theorem Grown2.refl (w : World) (r1 r2 : Option Nat) : Grown2 w w r1 r2 := ⟨rfl, rfl, rfl, Nat.le_refl _, fun _ _ _ _ => rfl⟩
theorem Grown2.step {r : Option Nat} (h : Grown2 w w1 r1 r2) (hg : w1.grownBy w' r) (hr : ∀ k, r = some k → some k = r1 ∨ some k = r2 ∨ w.heap.size ≤ k) : Grown2 w w' r1 r2 :=
  ⟨hg.os.trans h.os, hg.tape.trans h.tape, hg.output.trans h.output, Nat.le_trans h.size hg.size, fun k hk h1 h2 => (hg.block k (Nat.lt_of_lt_of_le hk h.size) (fun e => by
    rcases hr k e.symm with e1 | e1 | e1
    · exact h1 e1
    · exact h2 e1
    · omega)).trans (h.block k hk h1 h2)⟩
theorem Grown2.below (h : Grown2 w w1 r1 r2) (hb : Below w1.heap.size w1 w') : Grown2 w w' r1 r2 :=
  ⟨hb.os.trans h.os, hb.tape.trans h.tape, hb.output.trans h.output, Nat.le_trans h.size hb.size, fun k hk h1 h2 => (hb.block k (Nat.lt_of_lt_of_le hk h.size)).trans (h.block k hk h1 h2)⟩
theorem Grown2.own {B n size : Nat} {T : TypeId} {u : Value} {xs : List Value} (h : Grown2 w w' r1 r2) (hu : w.ownsRow B T size u n xs) (h1 : u.ownBlock = none ∨ u.ownBlock ≠ r1) (h2 : u.ownBlock = none ∨ u.ownBlock ≠ r2) : w'.ownsRow B T size u n xs := by
  refine ⟨hu.1, ?_⟩
  rcases hu.2 with hn | ⟨g, cap, cur, rfl, hb, hgg, rest⟩
  · exact .inl hn
  · refine .inr ⟨g, cap, cur, rfl, hb, ?_, rest⟩
    rw [h.block g (Array.getElem?_eq_some_iff.1 hgg).1 (by simpa [Value.ownBlock] using h1) (by simpa [Value.ownBlock] using h2)]
    exact hgg
theorem Grown2.low {B : Nat} (h : Grown2 w w' r1 r2) {w0 : World} (hb : Below B w0 w) (hB : B ≤ w.heap.size) (h1 : ∀ k, r1 = some k → B ≤ k) (h2 : ∀ k, r2 = some k → B ≤ k) : Below B w0 w' :=
  ⟨h.os.trans hb.os, h.tape.trans hb.tape, h.output.trans hb.output, Nat.le_trans hb.size h.size, fun k hk => (h.block k (by omega) (fun e => by have := h1 k e.symm; omega) (fun e => by have := h2 k e.symm; omega)).trans (hb.block k hk)⟩
theorem Grown2.rv {A : Option Addr} {xs : List Value} (h : Grown2 w w' r1 r2) (hr : RV w A xs) (h1 : ∀ a, A = some a → some a.block ≠ r1 ∧ some a.block ≠ r2) : RV w' A xs := fun k hk => by
  obtain ⟨ad, e, hc⟩ := hr k hk
  refine ⟨ad, e, ?_⟩
  rw [← hc]
  have hlt := block_lt_of_cell hc
  rw [block_of_add] at hlt
  exact World.cell?_of_block (by rw [block_of_add]; exact h.block _ hlt (h1 ad e).1 (h1 ad e).2)
end

/-- a row that is not empty, by its block -/
theorem own_addr {w : World} {B n size : Nat} {T : TypeId} {A : Option Addr} {n' c : Nat} {xs : List Value} (h : w.ownsRow B T size (.slice A n' c) n xs) (hn : 0 < n) : ∃ g, A = some ⟨g, 0, none⟩ ∧ n' = n ∧ n ≤ c := by
  rcases h.2 with ⟨_, h0⟩ | ⟨g, cap, cur, hv, _, _, hc, _⟩
  · omega
  · injection hv with h1 h2 h3
    exact ⟨g, h1, h2, h3 ▸ hc⟩
/-- a store into one row leaves another that lies apart -/
theorem own_far {w : World} {B n size : Nat} {T : TypeId} {u : Value} {xs : List Value} {g j : Nat} (hu : w.ownsRow B T size u n xs) (hf : u.ownBlock ≠ some g) (x : Value) : (w.setCell ⟨g, j, none⟩ x).ownsRow B T size u n xs :=
  hu.kept (row := some g) ⟨rfl, rfl, rfl, by simp, fun k _ hk => heap_setCell_other w ⟨g, j, none⟩ k x (fun e => hk (by simp [e]))⟩ (.inr hf)
theorem grown_set (w : World) (g j : Nat) (x : Value) : w.grownBy (w.setCell ⟨g, j, none⟩ x) (some g) :=
  ⟨rfl, rfl, rfl, by simp, fun k _ hk => heap_setCell_other w ⟨g, j, none⟩ k x (fun e => hk (by simp [e]))⟩
end Go.Proofs.YtojemdggbcklkaaDoor.Mem

/- A row of the call's own, with the blocks it lies between. Plain theorems over any program. -/
namespace Go.Proofs.YtojemdggbcklkaaDoor.Mem
open Go.RowKit

/-- an own row that was made between two sizes of the heap -/
structure Row (w : World) (lo hi : Nat) (T : TypeId) (size : Nat) (v : Value) (n : Nat) (xs : List Value) : Prop where
  own : w.ownsRow lo T size v n xs
  lt : ∀ g, v.ownBlock = some g → g < hi
  le : hi ≤ w.heap.size
section
variable {w w' : World} {lo hi lo' hi' : Nat} {T T' : TypeId} {size size' : Nat} {v u : Value} {n m : Nat} {xs ys : List Value}
theorem Row.new (h : w'.ownsRow w.heap.size T size v n xs) : Row w' w.heap.size w'.heap.size T size v n xs := ⟨h, fun g hg => (h.lt g hg).2, Nat.le_refl _⟩
theorem Row.of (h : w'.ownsRow lo T size v n xs) : Row w' lo w'.heap.size T size v n xs := ⟨h, fun g hg => (h.lt g hg).2, Nat.le_refl _⟩
theorem Row.below (h : Row w lo hi T size v n xs) (hb : Below w.heap.size w w') : Row w' lo hi T size v n xs := ⟨h.own.kept (row := none) ⟨hb.os, hb.tape, hb.output, hb.size, fun k hk _ => hb.block k hk⟩ (by cases hv : v.ownBlock <;> simp), h.lt, Nat.le_trans h.le hb.size⟩
theorem Row.low (h : Row w lo hi T size v n xs) (hl : lo' ≤ lo) : Row w lo' hi T size v n xs := ⟨by
  refine ⟨h.own.1, ?_⟩
  rcases h.own.2 with hn | ⟨g, cap, cur, rfl, hb, rest⟩
  · exact .inl hn
  · exact .inr ⟨g, cap, cur, rfl, Nat.le_trans hl hb, rest⟩, h.lt, h.le⟩
theorem Row.far (h : Row w lo hi T size v n xs) (h' : Row w' lo' hi' T' size' u m ys) (hle : hi ≤ lo') : Far v u := fun g hg he => by
  have := (h'.own.lt g he).1
  have := h.lt g hg
  omega
theorem Row.far' (h : Row w lo hi T size v n xs) (h' : Row w' lo' hi' T' size' u m ys) (hle : hi ≤ lo') : Far u v := (h.far h' hle).symm
theorem Row.grown2 {r1 r2 : Option Nat} (h : Row w lo hi T size v n xs) (hg : Grown2 w w' r1 r2) (h1 : v.ownBlock = none ∨ v.ownBlock ≠ r1) (h2 : v.ownBlock = none ∨ v.ownBlock ≠ r2) : Row w' lo hi T size v n xs := ⟨hg.own h.own h1 h2, h.lt, Nat.le_trans h.le hg.size⟩
theorem Row.rv {A : Option Addr} {c : Nat} (h : Row w lo hi T size (.slice A n c) n xs) : RV w A xs := own_rv h.own
/-- the front of an own row that is not empty -/
theorem Row.front {g n m c : Nat} (h : Row w lo hi T size (.slice (some ⟨g, 0, none⟩) (n + m) c) (n + m) (xs ++ ys)) (hx : xs.length = n * size) : Row w lo hi T size (.slice (some ⟨g, 0, none⟩) n c) n xs := by
  refine ⟨⟨hx, ?_⟩, fun k hk => h.lt k (by simpa [Value.ownBlock] using hk), h.le⟩
  rcases h.own.2 with ⟨hn, _⟩ | ⟨g', cap, cur, hv, hb, hg, hc, hm, hs, ht⟩
  · cases hn
  · injection hv with h1 h2 h3
    injection h1 with h1
    injection h1 with h1
    subst h1 h3
    refine .inr ⟨g, c, cur, rfl, hb, hg, by omega, hm, hs, ?_⟩
    have := congrArg (List.take (n * size)) ht
    rw [List.take_take, Nat.min_eq_left (Nat.mul_le_mul_right _ (by omega)), ← hx, List.take_left] at this
    rw [← hx]
    exact this
end
end Go.Proofs.YtojemdggbcklkaaDoor.Mem

/- Many rows that lie apart: written over, grown by turns, looked at. Plain theorems over any program. -/
namespace Go.Proofs.YtojemdggbcklkaaDoor.Mem
open Go.RowKit

/-! ### a function changed at one place -/
def fupd {α : Type} (f : Nat → α) (i : Nat) (x : α) : Nat → α := fun k => if k = i then x else f k
theorem fupd_same {α : Type} (f : Nat → α) (i : Nat) (x : α) : fupd f i x i = x := if_pos rfl
theorem fupd_ne {α : Type} (f : Nat → α) {i k : Nat} (x : α) (h : k ≠ i) : fupd f i x k = f k := if_neg h
theorem fupd_self {α : Type} (f : Nat → α) (i : Nat) : fupd f i (f i) = f := by
  funext k
  unfold fupd
  split
  · rename_i e; rw [e]
  · rfl
theorem fupd_fupd {α : Type} (f : Nat → α) (i : Nat) (x y : α) : fupd (fupd f i x) i y = fupd f i y := by
  funext k
  unfold fupd
  split <;> rfl
theorem map_fupd {α β : Type} (f : Nat → α) (c : α → β) (N i : Nat) (x : α) : ((List.range N).map fun k => c (f k)).set i (c x) = (List.range N).map fun k => c (fupd f i x k) := by
  apply List.ext_getElem (by simp)
  intro k h1 h2
  simp only [List.length_set, List.length_map, List.length_range] at h1
  rw [List.getElem_set]
  by_cases e : i = k
  · subst e; simp [fupd_same]
  · simp [e, fupd_ne f x (fun e' => e e'.symm)]

/-! ### elements that begin with a mark -/
def Has (s : Nat) (xs : List Value) (lo hi : Nat) (p : Value) : Prop := ∀ j, lo ≤ j → j < hi → xs[j * s]? = some p
theorem Has.none_ (s : Nat) (xs : List Value) (n : Nat) (p : Value) : Has s xs n n p := fun j h1 h => by omega
theorem Has.set_ {s : Nat} {xs : List Value} {k : Nat} {p : Value} (h : Has s xs 0 k p) (hs : 0 < s) (hk : k * s < xs.length) : Has s (xs.set (k * s) p) 0 (k + 1) p := fun j _ hj => by
  rw [List.getElem?_set]
  by_cases e : k = j
  · subst e; simp [hk]
  · rw [if_neg (fun e' => e (Nat.eq_of_mul_eq_mul_right hs e'))]
    exact h j (by omega) (by omega)
theorem Has.app {s : Nat} {xs : List Value} {lo hi : Nat} {p : Value} (h : Has s xs lo hi p) (ys : List Value) : Has s (xs ++ ys) lo hi p := fun j h1 h2 => by
  have := h j h1 h2
  rw [List.getElem?_append_left (List.getElem?_eq_some_iff.1 this).1]
  exact this
theorem Has.push {s : Nat} {xs : List Value} {n m : Nat} {p : Value} (h : Has s xs n m p) (ys : List Value) (hl : xs.length = m * s) (hy : ys[0]? = some p) : Has s (xs ++ ys) n (m + 1) p := fun j h1 h2 => by
  by_cases e : j < m
  · exact h.app ys j h1 e
  · obtain rfl : j = m := by omega
    rw [List.getElem?_append_right (by omega), hl, Nat.sub_self]
    exact hy
theorem own_has {w : World} {B n size g cap : Nat} {T : TypeId} {xs : List Value} (h : w.ownsRow B T size (.slice (some ⟨g, 0, none⟩) n cap) n xs) {j : Nat} (hj : j < n * size) : ∃ u, w.cell? ⟨g, j, none⟩ = some u := by
  rw [h.cellAt j hj]
  exact ⟨_, List.getElem?_eq_getElem (by rw [h.1]; exact hj)⟩

/-! ### what changed lies in the blocks of R or is new -/
structure GrownS (w w' : World) (R : Nat → Prop) : Prop where
  os : w'.os = w.os
  tape : w'.tape = w.tape
  output : w'.output = w.output
  size : w.heap.size ≤ w'.heap.size
  block : ∀ k, k < w.heap.size → ¬ R k → w'.heap[k]? = w.heap[k]?
section
variable {w w1 w' : World} {R : Nat → Prop}
theorem GrownS.refl (w : World) (R : Nat → Prop) : GrownS w w R := ⟨rfl, rfl, rfl, Nat.le_refl _, fun _ _ _ => rfl⟩
theorem GrownS.step {r : Option Nat} (h : GrownS w w1 R) (hg : w1.grownBy w' r) (hr : ∀ k, r = some k → R k ∨ w.heap.size ≤ k) : GrownS w w' R :=
  ⟨hg.os.trans h.os, hg.tape.trans h.tape, hg.output.trans h.output, Nat.le_trans h.size hg.size, fun k hk h1 => (hg.block k (Nat.lt_of_lt_of_le hk h.size) (fun e => by
    rcases hr k e.symm with e1 | e1
    · exact h1 e1
    · omega)).trans (h.block k hk h1)⟩
theorem GrownS.below (h : GrownS w w1 R) (hb : Below w1.heap.size w1 w') : GrownS w w' R :=
  ⟨hb.os.trans h.os, hb.tape.trans h.tape, hb.output.trans h.output, Nat.le_trans h.size hb.size, fun k hk h1 => (hb.block k (Nat.lt_of_lt_of_le hk h.size)).trans (h.block k hk h1)⟩
theorem GrownS.own {B n size : Nat} {T : TypeId} {u : Value} {xs : List Value} (h : GrownS w w' R) (hu : w.ownsRow B T size u n xs) (h1 : ∀ k, u.ownBlock = some k → ¬ R k) : w'.ownsRow B T size u n xs := by
  refine ⟨hu.1, ?_⟩
  rcases hu.2 with hn | ⟨g, cap, cur, rfl, hb, hgg, rest⟩
  · exact .inl hn
  · refine .inr ⟨g, cap, cur, rfl, hb, ?_, rest⟩
    rw [h.block g (Array.getElem?_eq_some_iff.1 hgg).1 (h1 g rfl)]
    exact hgg
theorem GrownS.low {B : Nat} (h : GrownS w w' R) {w0 : World} (hb : Below B w0 w) (hB : B ≤ w.heap.size) (h1 : ∀ k, R k → B ≤ k) : Below B w0 w' :=
  ⟨h.os.trans hb.os, h.tape.trans hb.tape, h.output.trans hb.output, Nat.le_trans hb.size h.size, fun k hk => (h.block k (by omega) (fun e => by have := h1 k e; omega)).trans (hb.block k hk)⟩
theorem GrownS.blk {g : Nat} {t : TypeId} {cs : List Value} (h : GrownS w w' R) (hb : Blk w g t cs) (hn : ¬ R g) : Blk w' g t cs := (h.block g hb.lt hn).trans hb
end
theorem Row.grownS {w w' : World} {lo hi : Nat} {T : TypeId} {size : Nat} {v : Value} {n : Nat} {xs : List Value} {R : Nat → Prop} (h : Row w lo hi T size v n xs) (hg : GrownS w w' R) (h1 : ∀ k, v.ownBlock = some k → ¬ R k) : Row w' lo hi T size v n xs := ⟨hg.own h.own h1, h.lt, Nat.le_trans h.le hg.size⟩

theorem Row.rb {w : World} {lo hi n c : Nat} {T : TypeId} {A : Option Addr} {l : List UInt8} (h : Row w lo hi T 1 (.slice A n c) n (l.map bv)) : RB w A l := own_rb h.own

/-! ### rows that are written over -/
structure Ap0 (w W : World) (B : Nat) (T : TypeId) (s N : Nat) (R A : Nat → Prop) (v : Nat → Value) (n : Nat → Nat) (xs : Nat → List Value) : Prop where
  own : ∀ i, i < N → W.ownsRow B T s (v i) (n i) (xs i)
  far : ∀ i j, i < N → j < N → i ≠ j → Far (v i) (v j)
  gr : GrownS w W R
  blk : ∀ i, i < N → ∀ b, (v i).ownBlock = some b → R b
  lt : ∀ b, A b → b < W.heap.size
  av : ∀ b, A b → ∀ i, i < N → (v i).ownBlock ≠ some b
section
variable {w W W' : World} {B : Nat} {T : TypeId} {s N : Nat} {R A : Nat → Prop} {v : Nat → Value} {n : Nat → Nat} {xs : Nat → List Value}
theorem Ap0.alloc (h : Ap0 w W B T s N R A v n xs) (o : Obj) : Ap0 w (W.alloc o) B T s N R A v n xs :=
  ⟨fun i hi => (h.own i hi).alloc o, h.far, h.gr.below (ga (Mem.gr _) o), h.blk, fun b hb => by have := h.lt b hb; simp; omega, h.av⟩
theorem Ap0.below (h : Ap0 w W B T s N R A v n xs) (hb : Below W.heap.size W W') : Ap0 w W' B T s N R A v n xs :=
  ⟨fun i hi => (h.own i hi).kept (row := none) ⟨hb.os, hb.tape, hb.output, hb.size, fun k hk _ => hb.block k hk⟩ (by cases hv : (v i).ownBlock <;> simp), h.far, h.gr.below hb, h.blk, fun b hb' => Nat.lt_of_lt_of_le (h.lt b hb') hb.size, h.av⟩
theorem Ap0.new_ (h : Ap0 w W B T s N R A v n xs) {g : Nat} (hg : W.heap.size ≤ g) : ∀ i, i < N → (v i).ownBlock ≠ some g := fun i hi e => by
  have := ((h.own i hi).lt g e).2
  omega
theorem Ap0.avoid (h : Ap0 w W B T s N R A v n xs) {A' : Nat → Prop} (hA : ∀ b, A' b → b < W.heap.size ∧ ∀ i, i < N → (v i).ownBlock ≠ some b) : Ap0 w W B T s N R A' v n xs :=
  ⟨h.own, h.far, h.gr, h.blk, fun b hb => (hA b hb).1, fun b hb => (hA b hb).2⟩
theorem Ap0.set_ (h : Ap0 w W B T s N R A v n xs) {i g c : Nat} (hi : i < N) (hv : v i = .slice (some ⟨g, 0, none⟩) (n i) c) (j : Nat) (x : Value) : Ap0 w (W.setCell ⟨g, j, none⟩ x) B T s N R A v n (fupd xs i ((xs i).set j x)) := by
  have hb : (v i).ownBlock = some g := by rw [hv]; rfl
  refine ⟨fun k hk => ?_, h.far, h.gr.step (grown_set W g j x) (fun b e => .inl (h.blk i hi b (by rw [hb]; exact e))), h.blk, fun b hb => by have := h.lt b hb; simpa using this, h.av⟩
  by_cases e : k = i
  · subst e
    rw [fupd_same]
    have ho := h.own k hk
    rw [hv] at ho ⊢
    exact (ho.stored j x).1
  · rw [fupd_ne _ _ e]
    exact own_far (h.own k hk) (h.far i k hi hk (fun e' => e e'.symm) g hb) x
theorem Ap0.store (h : Ap0 w W B T s N R A v n xs) {g : Nat} (hA : A g) (hw : w.heap.size ≤ g) (j : Nat) (x : Value) : Ap0 w (W.setCell ⟨g, j, none⟩ x) B T s N R A v n xs :=
  ⟨fun k hk => own_far (h.own k hk) (h.av g hA k hk) x, h.far, h.gr.step (grown_set W g j x) (fun b e => .inr (by injection e with e; omega)), h.blk, fun b hb => by have := h.lt b hb; simpa using this, h.av⟩
theorem Ap0.drewN (h : Ap0 w W B T s N R A v n xs) (d : Nat) : Ap0 w (W.drewN d) B T s N R A v n xs :=
  ⟨fun i hi => h.own i hi, h.far, h.gr.below (gn (Mem.gr _) d), h.blk, h.lt, h.av⟩
end

/-! ### rows that grow; K: the older rows that are kept -/
structure ApL (w W : World) (B : Nat) (T : TypeId) (s N : Nat) (R A : Nat → Prop) (K : Nat → Value → Nat → List Value → Prop) (gv : Nat → Value) (m : Nat → Nat) (ys : Nat → List Value) : Prop where
  gown : ∀ i, i < N → W.ownsRow B T s (gv i) (m i) (ys i)
  far : ∀ i j, i < N → j < N → i ≠ j → Far (gv i) (gv j)
  kown : ∀ i u n xs, K i u n xs → i < N ∧ n ≤ m i ∧ W.ownsRow B T s u n xs
  kfar : ∀ i j u n xs, j < N → K i u n xs → i ≠ j → Far (gv j) u
  kav : ∀ b, A b → ∀ i u n xs, K i u n xs → u.ownBlock ≠ some b
  gr : GrownS w W R
  blk : ∀ i, i < N → ∀ b, (gv i).ownBlock = some b → R b ∨ w.heap.size ≤ b
  lt : ∀ b, A b → b < W.heap.size
  av : ∀ b, A b → ∀ i, i < N → (gv i).ownBlock ≠ some b
section
variable {w W W' : World} {B : Nat} {T : TypeId} {s N : Nat} {R A : Nat → Prop} {K : Nat → Value → Nat → List Value → Prop} {gv : Nat → Value} {m : Nat → Nat} {ys : Nat → List Value}
theorem Ap0.apL {v : Nat → Value} {n : Nat → Nat} {xs : Nat → List Value} (h : Ap0 w W B T s N R A v n xs) : ApL w W B T s N R A (fun i u k zs => i < N ∧ u = v i ∧ k = n i ∧ zs = xs i) v n xs :=
  ⟨h.own, h.far, fun i u k zs ⟨hi, e1, e2, e3⟩ => by subst e1 e2 e3; exact ⟨hi, Nat.le_refl _, h.own i hi⟩,
   fun i j u k zs hj ⟨hi, e1, _, _⟩ hne => by subst e1; exact h.far j i hj hi (fun e => hne e.symm),
   fun b hb i u k zs ⟨hi, e1, _, _⟩ => by subst e1; exact h.av b hb i hi, h.gr, fun i hi b e => .inl (h.blk i hi b e), h.lt, h.av⟩
theorem ApL.alloc (h : ApL w W B T s N R A K gv m ys) (o : Obj) : ApL w (W.alloc o) B T s N R A K gv m ys :=
  ⟨fun i hi => (h.gown i hi).alloc o, h.far, fun i u n xs hk => ⟨(h.kown i u n xs hk).1, (h.kown i u n xs hk).2.1, (h.kown i u n xs hk).2.2.alloc o⟩, h.kfar, h.kav, h.gr.below (ga (Mem.gr _) o), h.blk, fun b hb => by have := h.lt b hb; simp; omega, h.av⟩
theorem ApL.store (h : ApL w W B T s N R A K gv m ys) {g : Nat} (hA : A g) (hw : w.heap.size ≤ g) (j : Nat) (x : Value) : ApL w (W.setCell ⟨g, j, none⟩ x) B T s N R A K gv m ys :=
  ⟨fun k hk => own_far (h.gown k hk) (h.av g hA k hk) x, h.far, fun i u n xs hk => ⟨(h.kown i u n xs hk).1, (h.kown i u n xs hk).2.1, own_far (h.kown i u n xs hk).2.2 (h.kav g hA i u n xs hk) x⟩, h.kfar, h.kav,
   h.gr.step (grown_set W g j x) (fun b e => .inr (by injection e with e; omega)), h.blk, fun b hb => by have := h.lt b hb; simpa using this, h.av⟩
theorem ApL.avoid (h : ApL w W B T s N R A K gv m ys) {A' : Nat → Prop} (hA : ∀ b, A' b → b < W.heap.size ∧ (∀ i, i < N → (gv i).ownBlock ≠ some b) ∧ ∀ i u n xs, K i u n xs → u.ownBlock ≠ some b) : ApL w W B T s N R A' K gv m ys :=
  ⟨h.gown, h.far, h.kown, h.kfar, fun b hb => (hA b hb).2.2, h.gr, h.blk, fun b hb => (hA b hb).1, fun b hb => (hA b hb).2.1⟩
/-- a row of another block, or of none, that a growth of gv i leaves -/
theorem far_or {W : World} {B n : Nat} {T : TypeId} {s : Nat} {g u : Value} {xs : List Value} (hu : W.ownsRow B T s u n xs) (hf : Far g u) (M : Nat) : u.ownBlock ≠ g.ownBlock ∨ n ≤ M := by
  rcases hu.2 with ⟨_, h0⟩ | ⟨k, cap, cur, e6, _⟩
  · exact .inr (by omega)
  · exact .inl (fun e => hf k (by rw [← e, e6]; rfl) (by rw [e6]; rfl))
theorem ApL.push (h : ApL w W B T s N R A K gv m ys) {i k : Nat} (hi : i < N) {v' : Value} {news : List Value} (ho : W'.ownsRow B T s v' (m i + k) (ys i ++ news)) (hg : W.grownBy W' (gv i).ownBlock)
    (hv : v'.ownBlock = (gv i).ownBlock ∨ v'.ownBlock = some W.heap.size) (hk : Keeps W W' T s (gv i) (m i)) : ApL w W' B T s N R A K (fupd gv i v') (fupd m i (m i + k)) (fupd ys i (ys i ++ news)) := by
  have far1 : ∀ u n xs, W.ownsRow B T s u n xs → Far (gv i) u → Far v' u := fun u n xs hu hf => hf.next hu hv
  refine ⟨fun j hj => ?_, fun j l hj hl hne => ?_, fun j u n xs hk' => ?_, fun j l u n xs hl hk' hne => ?_, h.kav, h.gr.step hg (h.blk i hi), fun j hj b e => ?_, fun b hb => Nat.lt_of_lt_of_le (h.lt b hb) hg.size, fun b hb j hj => ?_⟩
  · by_cases e : j = i
    · subst e; rw [fupd_same, fupd_same, fupd_same]; exact ho
    · rw [fupd_ne _ _ e, fupd_ne _ _ e, fupd_ne _ _ e]
      exact hk _ _ _ _ (h.gown j hj) (far_or (h.gown j hj) (h.far i j hi hj (fun e' => e e'.symm)) _)
  · by_cases e : j = i
    · subst e
      rw [fupd_same, fupd_ne _ _ (fun e' => hne e'.symm)]
      exact far1 _ _ _ (h.gown l hl) (h.far j l hj hl hne)
    · rw [fupd_ne _ _ e]
      by_cases e2 : l = i
      · subst e2
        rw [fupd_same]
        exact (far1 _ _ _ (h.gown j hj) (h.far l j hl hj (fun e' => hne e'.symm))).symm
      · rw [fupd_ne _ _ e2]
        exact h.far j l hj hl hne
  · obtain ⟨h1, h2, h3⟩ := h.kown j u n xs hk'
    by_cases e : j = i
    · subst e
      rw [fupd_same]
      exact ⟨h1, by omega, hk _ _ _ _ h3 (.inr h2)⟩
    · rw [fupd_ne _ _ e]
      exact ⟨h1, h2, hk _ _ _ _ h3 (far_or h3 (h.kfar j i u n xs hi hk' e) _)⟩
  · by_cases e : l = i
    · subst e
      rw [fupd_same]
      exact far1 _ _ _ (h.kown j u n xs hk').2.2 (h.kfar j l u n xs hl hk' hne)
    · rw [fupd_ne _ _ e]
      exact h.kfar j l u n xs hl hk' hne
  · by_cases e1 : j = i
    · subst e1
      rw [fupd_same] at e
      rcases hv with hv | hv
      · exact h.blk j hj b (hv ▸ e)
      · rw [hv] at e; injection e with e; exact .inr (by have := h.gr.size; omega)
    · rw [fupd_ne _ _ e1] at e
      exact h.blk j hj b e
  · by_cases e1 : j = i
    · subst e1
      rw [fupd_same]
      rcases hv with hv | hv
      · rw [hv]; exact h.av b hb j hj
      · rw [hv]; intro e; injection e with e; have := h.lt b hb; omega
    · rw [fupd_ne _ _ e1]
      exact h.av b hb j hj
/-- the rows' cells, in a block of their own, stay -/
theorem ApL.kept (h : ApL w W B T s N R A K gv m ys) {i : Nat} (hi : i < N) (hg : W.grownBy W' (gv i).ownBlock) {b : Nat} (hA : A b) {t : TypeId} {cs : List Value} (hb : Blk W b t cs) : Blk W' b t cs :=
  (hg.block b hb.lt (fun e => h.av b hA i hi e.symm)).trans hb
/-- the grown rows are kept too from here on -/
theorem ApL.more (h : ApL w W B T s N R A K gv m ys) : ApL w W B T s N R A (fun i u k zs => K i u k zs ∨ (i < N ∧ u = gv i ∧ k = m i ∧ zs = ys i)) gv m ys :=
  ⟨h.gown, h.far, fun i u k zs hk => by
     rcases hk with hk | ⟨hi, e1, e2, e3⟩
     · exact h.kown i u k zs hk
     · subst e1 e2 e3; exact ⟨hi, Nat.le_refl _, h.gown i hi⟩,
   fun i j u k zs hj hk hne => by
     rcases hk with hk | ⟨hi, e1, e2, e3⟩
     · exact h.kfar i j u k zs hj hk hne
     · subst e1; exact h.far j i hj hi (fun e => hne e.symm),
   fun b hb i u k zs hk => by
     rcases hk with hk | ⟨hi, e1, e2, e3⟩
     · exact h.kav b hb i u k zs hk
     · subst e1; exact h.av b hb i hi, h.gr, h.blk, h.lt, h.av⟩
end
end Go.Proofs.YtojemdggbcklkaaDoor.Mem
