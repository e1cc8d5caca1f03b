/- A slice made of two or three values. Plain theorems over any program. -/
import Derived.Test.YtdebokambldbbaaRgLite
namespace Go.Proofs.Ytdebokambldbbaa.Mem
open Go.RowKit
set_option linter.unusedVariables false
section
variable {P : Program} {t e : TypeId} {zs : List Value} {by_ : Nat}
theorem run_build2 (E : Elt P t e zs by_) {ρ : Operand → Value} {w : World} {o : Oper} (x y : Operand) (ho : o.op = .buildSlice t 2 #[(0, x), (1, y)]) (hs : zs.length ≤ 16777) (vs us : List Value) (hx : (ρ x).cells = vs.toArray) (hl : vs.length = zs.length) (hy : (ρ y).cells = us.toArray) (hly : us.length = zs.length) :
    (execOp ρ o).run P w = .ok (.value (.slice (some ⟨w.heap.size, 0, none⟩) 2 2)) (w.alloc (.cells (vs ++ us).toArray e)) := by
  obtain ⟨i, z, hi, hz, hsz, hby, hcs⟩ := E.inf
  have hp := E.pos
  have hf : Instr.fill (fun j => some (j * i.size, i.size)) ((Array.range (2 * i.size)).map (z.cells[· % z.cells.size]!)) [(0, ρ x), (1, ρ y)] = some (vs ++ us).toArray := by
    have := Great.fill_whole (s := i.size) (by omega) [ρ x, ρ y] ((Array.range (2 * i.size)).map (z.cells[· % z.cells.size]!)) (by
      intro v hv
      simp at hv
      rcases hv with rfl | rfl
      · rw [hx]; simp [hl, hsz]
      · rw [hy]; simp [hly, hsz]) (by simp)
    simp only [List.zipIdx_cons, List.zipIdx_nil, List.map_cons, List.map_nil, List.flatMap_cons, List.flatMap_nil, List.append_nil, hx, hy] at this
    simpa using this
  have hr := run_buildSlice (P := P) w t e 2 #[(0, ρ x), (1, ρ y)] (vs ++ us).toArray i z E.und hi hz (by omega) (by omega) hf
  simp [execOp, ho, hr, Result.andThen]
theorem run_build3 (E : Elt P t e zs by_) {ρ : Operand → Value} {w : World} {o : Oper} (x y r : Operand) (ho : o.op = .buildSlice t 3 #[(0, x), (1, y), (2, r)]) (hs : zs.length ≤ 16777) (vs us rs : List Value) (hx : (ρ x).cells = vs.toArray) (hl : vs.length = zs.length) (hy : (ρ y).cells = us.toArray) (hly : us.length = zs.length) (hr : (ρ r).cells = rs.toArray) (hlr : rs.length = zs.length) :
    (execOp ρ o).run P w = .ok (.value (.slice (some ⟨w.heap.size, 0, none⟩) 3 3)) (w.alloc (.cells (vs ++ us ++ rs).toArray e)) := by
  obtain ⟨i, z, hi, hz, hsz, hby, hcs⟩ := E.inf
  have hp := E.pos
  have hf : Instr.fill (fun j => some (j * i.size, i.size)) ((Array.range (3 * i.size)).map (z.cells[· % z.cells.size]!)) [(0, ρ x), (1, ρ y), (2, ρ r)] = some (vs ++ us ++ rs).toArray := by
    have := Great.fill_whole (s := i.size) (by omega) [ρ x, ρ y, ρ r] ((Array.range (3 * i.size)).map (z.cells[· % z.cells.size]!)) (by
      intro v hv
      simp at hv
      rcases hv with rfl | rfl | rfl
      · rw [hx]; simp [hl, hsz]
      · rw [hy]; simp [hly, hsz]
      · rw [hr]; simp [hlr, hsz]) (by simp)
    simp only [List.zipIdx_cons, List.zipIdx_nil, List.map_cons, List.map_nil, List.flatMap_cons, List.flatMap_nil, List.append_nil, hx, hy, hr] at this
    simpa using this
  have hr := run_buildSlice (P := P) w t e 3 #[(0, ρ x), (1, ρ y), (2, ρ r)] (vs ++ us ++ rs).toArray i z E.und hi hz (by omega) (by omega) hf
  simp [execOp, ho, hr, Result.andThen]
theorem wpList_new {w : World} {cs : List Value} {e : TypeId} {ops : Array Oper} {rest : List Oper} {o : Oper} {a : Act} {Q : Exit → Act → World → Prop} (hgd : o.guard = none) {v : Value} (hr : (execOp a.eval o).run P w = .ok (.value v) (w.alloc (.cells cs.toArray e)))
    (h : ∀ w', Blk w' w.heap.size e cs → Below w.heap.size w w' → w'.heap.size = w.heap.size + 1 → wpList P ops Q rest (a.put o.dst v) w') : wpList P ops Q (o :: rest) a w := by
  refine wpList_plain hgd fun K hK => ?_
  unfold Oper.wp
  rw [hr]
  exact hK _ _ (h _ (Blk.new w _ _) ((Below.refl _ _).alloc (Nat.le_refl _) _) (by simp))
end
end Go.Proofs.Ytdebokambldbbaa.Mem
