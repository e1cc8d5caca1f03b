/- Arrays and structs as a whole: variables made, loaded and stored without opening their cells. Plain theorems over any program. -/
import Derived.Test.YtojemdggbcklkaaDoorLaws
import Derived.Deep.MidRow
namespace Go.Proofs.YtojemdggbcklkaaDoor.Mem
open Go.RowKit

def isAggD : TypeDesc → Bool
  | .struct _ | .array _ _ => true
  | _ => false

/-- An array or struct type, with its zero cells. -/
structure Arr (P : Program) (ty : TypeId) (zs : List Value) : Prop where
  und : ∃ d, P.underlying ty = some d ∧ isAggD d = true
  info : ∃ i, P.info? ty = some i ∧ i.zero = some (.agg zs.toArray) ∧ i.size = zs.length

theorem Arr.mk' {P : Program} {ty : TypeId} {d : TypeDesc} {zs : List Value} (hu : P.underlying ty = some d) (hd : isAggD d = true)
    (hi : (P.info? ty).map (fun i => (i.zero, i.size)) = some (some (.agg zs.toArray), zs.length)) : Arr P ty zs := by
  refine ⟨⟨d, hu, hd⟩, ?_⟩
  cases hq : P.info? ty with
  | none => rw [hq] at hi; cases hi
  | some i =>
    rw [hq] at hi
    simp only [Option.map_some, Option.some.injEq, Prod.mk.injEq] at hi
    exact ⟨i, rfl, hi.1, hi.2⟩

theorem Arr.size {P : Program} {ty : TypeId} {zs : List Value} (A : Arr P ty zs) : (P.info? ty).map (·.size) = some zs.length := by
  obtain ⟨i, hi, _, hs⟩ := A.info
  rw [hi]; simp [hs]

theorem Blk.range {w : World} {g : Nat} {T : TypeId} {cs : List Value} (h : Blk w g T cs) (o n : Nat) : w.rangeAt g o ((cs.drop o).take n) := fun j v hv => by
  rw [h.cell, ← hv]
  have hj : j < n := by
    have := (List.getElem?_eq_some_iff.1 hv).1
    simp at this
    omega
  rw [List.getElem?_take, if_pos hj, List.getElem?_drop]

theorem Blk.there {w : World} {g : Nat} {T : TypeId} {cs : List Value} (h : Blk w g T cs) (o n : Nat) (hf : o + n ≤ cs.length) : w.there g o n := fun j hj => by
  refine ⟨?_, h.frozen _⟩
  rw [h.cell, List.getElem?_eq_getElem (by omega)]
  rfl

theorem Blk.setCells {w : World} {g : Nat} {T : TypeId} : ∀ (vs : List Value) (o : Nat) (cs : List Value), Blk w g T cs → o + vs.length ≤ cs.length → Blk (w.setCells g o vs) g T (splice cs o vs) := by
  have key : ∀ (vs : List Value) (o : Nat) (cs : List Value) (w : World), Blk w g T cs → o + vs.length ≤ cs.length → Blk (w.setCells g o vs) g T (splice cs o vs) := by
    intro vs
    induction vs with
    | nil => intro o cs w h _; simpa [World.setCells, splice] using h
    | cons v r ih =>
      intro o cs w h hf
      have h1 := ih (o + 1) (cs.set o v) (w.setCell ⟨g, o, none⟩ v) (h.set_ o v) (by simp at hf ⊢; omega)
      have e : splice (cs.set o v) (o + 1) r = splice cs o (v :: r) := by
        unfold splice
        have ho : o < cs.length := by simp at hf; omega
        rw [take_succ_ (by simp; exact ho), List.getElem_set_self, List.take_set_of_le (Nat.le_refl _)]
        simp only [List.length_cons, List.append_assoc, List.cons_append, List.nil_append]
        rw [List.drop_set_of_lt (by omega), show o + 1 + r.length = o + (r.length + 1) by omega]
      rw [e] at h1
      exact h1
  exact fun vs o cs h hf => key vs o cs w h hf

theorem setCells_grown (g : Nat) : ∀ (vs : List Value) (o : Nat) (w : World), w.grownBy (w.setCells g o vs) (some g) ∧ (w.setCells g o vs).heap.size = w.heap.size := by
  intro vs
  induction vs with
  | nil => intro o w; exact ⟨World.grownBy.refl w _, rfl⟩
  | cons v r ih =>
    intro o w
    obtain ⟨h1, h2⟩ := ih (o + 1) (w.setCell ⟨g, o, none⟩ v)
    have h0 : w.grownBy (w.setCell ⟨g, o, none⟩ v) (some g) := ⟨rfl, rfl, rfl, by simp [World.setCell], fun k hk hne => Below.heap_setCell _ _ _ _ (fun e => hne (by rw [e]))⟩
    exact ⟨h0.trans h1, by rw [show w.setCells g o (v :: r) = (w.setCell ⟨g, o, none⟩ v).setCells g (o + 1) r from rfl, h2]; simp [World.setCell]⟩

section
variable {P : Program} {ty : TypeId} {zs : List Value}

theorem run_loadB (A : Arr P ty zs) {w : World} {g o : Nat} {T : TypeId} {cs : List Value} (hB : Blk w g T cs) (vs : List Value) (hv : (cs.drop o).take zs.length = vs) (hl : vs.length = zs.length) :
    (Instr.loadAt ty (.pointer (some ⟨g, o, none⟩))).run P w = .ok (.agg vs.toArray) w := by
  obtain ⟨d, hu, hd⟩ := A.und
  have hr := hB.range o zs.length
  rw [hv] at hr
  exact run_loadAt_mid w g o ty vs d hr hu (by cases d <;> first | rfl | cases hd) (by rw [A.size, hl])

theorem wp_loadB (A : Arr P ty zs) {w : World} {op : Oper} {a : Act} {K : Act → World → Prop} {Q : Exit → Act → World → Prop} (x : Operand) (ho : op.op = .load ty x)
    (g o : Nat) (hx : a.eval x = .pointer (some ⟨g, o, none⟩)) (T : TypeId) (cs : List Value) (hB : Blk w g T cs) (vs : List Value) (hv : (cs.drop o).take zs.length = vs) (hl : vs.length = zs.length)
    (h : K (a.put op.dst (.agg vs.toArray)) w) : op.wp P a w K Q := by
  obtain ⟨d, hu, hd⟩ := A.und
  have hr := hB.range o zs.length
  rw [hv] at hr
  exact wp_load_mid ty x ho g o hx vs d hr hu (by cases d <;> first | rfl | cases hd) (by rw [A.size, hl]) h

theorem wp_storeB (A : Arr P ty zs) {w : World} {op : Oper} {a : Act} {K : Act → World → Prop} {Q : Exit → Act → World → Prop} (x y : Operand) (ho : op.op = .store ty x y)
    (g o : Nat) (hx : a.eval x = .pointer (some ⟨g, o, none⟩)) (vs : List Value) (hy : a.eval y = .agg vs.toArray) (hl : vs.length = zs.length) (T : TypeId) (cs : List Value) (hB : Blk w g T cs)
    (hf : o + vs.length ≤ cs.length) (h1 : ∀ v ∈ vs, v.oneCell' = true)
    (h : ∀ w', Blk w' g T (splice cs o vs) → w.grownBy w' (some g) → w'.heap.size = w.heap.size → K (a.put op.dst undef) w') : op.wp P a w K Q := by
  refine wp_store_mid ty x y ho g o vs.toArray hx hy (by simpa using hB.there o vs.length hf) (by rw [A.size, ← hl]; simp) (all_oneCell_toArray h1) ?_
  obtain ⟨h2, h3⟩ := setCells_grown g vs o w
  dsimp only
  exact h _ (Blk.setCells vs o cs hB hf) h2 h3

theorem wpList_loadB (A : Arr P ty zs) {w : World} {ops : Array Oper} {rest : List Oper} {op : Oper} {a : Act} {Q : Exit → Act → World → Prop} (hgd : op.guard = none) (x : Operand) (ho : op.op = .load ty x)
    (g o : Nat) (hx : a.eval x = .pointer (some ⟨g, o, none⟩)) (T : TypeId) (cs : List Value) (hB : Blk w g T cs) (vs : List Value) (hv : (cs.drop o).take zs.length = vs) (hl : vs.length = zs.length)
    (h : wpList P ops Q rest (a.put op.dst (.agg vs.toArray)) w) : wpList P ops Q (op :: rest) a w := by
  obtain ⟨d, hu, hd⟩ := A.und
  have hr := hB.range o zs.length
  rw [hv] at hr
  exact wpList_load_mid hgd ty x ho g o hx vs d hr hu (by cases d <;> first | rfl | cases hd) (by rw [A.size, hl]) h

theorem wpList_storeB (A : Arr P ty zs) {w : World} {ops : Array Oper} {rest : List Oper} {op : Oper} {a : Act} {Q : Exit → Act → World → Prop} (hgd : op.guard = none) (x y : Operand) (ho : op.op = .store ty x y)
    (g o : Nat) (hx : a.eval x = .pointer (some ⟨g, o, none⟩)) (vs : List Value) (hy : a.eval y = .agg vs.toArray) (hl : vs.length = zs.length) (T : TypeId) (cs : List Value) (hB : Blk w g T cs)
    (hf : o + vs.length ≤ cs.length) (h1 : ∀ v ∈ vs, v.oneCell' = true)
    (h : ∀ w', Blk w' g T (splice cs o vs) → w.grownBy w' (some g) → w'.heap.size = w.heap.size → wpList P ops Q rest (a.put op.dst undef) w') : wpList P ops Q (op :: rest) a w := by
  refine wpList_store_mid hgd ty x y ho g o vs.toArray hx hy (by simpa using hB.there o vs.length hf) (by rw [A.size, ← hl]; simp) (all_oneCell_toArray h1) ?_
  obtain ⟨h2, h3⟩ := setCells_grown g vs o w
  dsimp only
  exact h _ (Blk.setCells vs o cs hB hf) h2 h3

theorem wpList_allocB (A : Arr P ty zs) {w : World} {ops : Array Oper} {rest : List Oper} {op : Oper} {a : Act} {Q : Exit → Act → World → Prop} (hgd : op.guard = none) (ho : op.op = .alloc ty)
    (H : Nat) (hH : w.heap.size = H)
    (h : ∀ w', Blk w' H ty zs → Below H w w' → w'.heap.size = H + 1 → wpList P ops Q rest (a.put op.dst (.pointer (some ⟨H, 0, none⟩))) w') : wpList P ops Q (op :: rest) a w := by
  subst hH
  obtain ⟨i, hi, hz, hs⟩ := A.info
  refine wpList_plain hgd fun K hK => ?_
  unfold Oper.wp
  have hrun : (execOp a.eval op).run P w = .ok (.value (.pointer (some ⟨w.heap.size, 0, none⟩))) (w.alloc (.cells zs.toArray ty)) := by
    unfold execOp
    simp [ho, go_sem, zeroValue, typeInfo, hi, hz]
  rw [hrun]
  exact hK _ _ (h _ (Blk.new w ty zs) ((Below.refl _ _).alloc (Nat.le_refl _) _) (by simp))

theorem run_allocB (A : Arr P ty zs) {ρ : Operand → Value} {w : World} {op : Oper} (ho : op.op = .alloc ty) : (execOp ρ op).run P w = .ok (.value (.pointer (some ⟨w.heap.size, 0, none⟩))) (w.alloc (.cells zs.toArray ty)) := by
  obtain ⟨i, hi, hz, hs⟩ := A.info
  unfold execOp
  simp [ho, go_sem, zeroValue, typeInfo, hi, hz]

theorem wpList_boxB {w : World} {ops : Array Oper} {rest : List Oper} {op : Oper} {a : Act} {Q : Exit → Act → World → Prop} (hgd : op.guard = none) (x : Operand) (ho : op.op = .box ty x)
    (vs : List Value) (hx : a.eval x = .agg vs.toArray) (H : Nat) (hH : w.heap.size = H)
    (h : ∀ w', Blk w' H ty vs → Below H w w' → w'.heap.size = H + 1 → wpList P ops Q rest (a.put op.dst (.pointer (some ⟨H, 0, none⟩))) w') : wpList P ops Q (op :: rest) a w := by
  subst hH
  refine wpList_plain hgd fun K hK => ?_
  unfold Oper.wp
  have hrun : (execOp a.eval op).run P w = .ok (.value (.pointer (some ⟨w.heap.size, 0, none⟩))) (w.alloc (.cells vs.toArray ty)) := by
    simp only [execOp, ho, hx]
    simp [go_sem]
  rw [hrun]
  exact hK _ _ (h _ (Blk.new w ty vs) ((Below.refl _ _).alloc (Nat.le_refl _) _) (by simp))

/-- a result that lies in a variable -/
theorem ret_cell (A : Arr P ty zs) {fn : Func} {p : Tmp} {R : Ending → World → Prop} {a : Act} {w : World} (h : fn.results = #[.cell p ty]) (g : Nat) (hp : a.tmps.getD p undef = .pointer (some ⟨g, 0, none⟩)) (T : TypeId) (cs : List Value)
    (hB : Blk w g T cs) (hl : cs.length = zs.length) (hd : a.defers = []) (hR : R (.returned (.agg cs.toArray)) w) : bodyPost P fn R .ret a w := by
  obtain ⟨d, hu, hd'⟩ := A.und
  exact bodyPost_ret (results_cell_row h a.tmps w g T cs.toArray (0, 0) d hp hB hu (by cases d <;> first | rfl | cases hd') (by rw [A.size, ← hl]; simp)) hd hR
end

theorem splice_all {α : Type} (L vs : List α) (h : vs.length = L.length) : splice L 0 vs = vs := by
  unfold splice
  rw [List.take_zero, List.nil_append, List.drop_of_length_le (by omega), List.append_nil]
end Go.Proofs.YtojemdggbcklkaaDoor.Mem
