/- A slice made of two or three values. Plain theorems over any program. -/
import Derived.Test.YtdebokambldbbaaRgLite
import Derived.Test.YtdebokambldbbaaKeepBase
namespace Go.Proofs.Ytdebokambldbbaa.Mem
open Go.RowKit
set_option linter.unusedVariables false
section
variable {P : Program} {t e : TypeId} {zs : List Value} {by_ : Nat}
theorem run_build2 (E : Elt P t e zs by_) {ρ : Operand → Value} {w : World} {o : Oper} (x y : Operand) (ho : o.op = .buildSlice t 2 #[(0, x), (1, y)]) (hs : zs.length ≤ 16777) (vs us : List Value) (hx : (ρ x).cells = vs.toArray) (hl : vs.length = zs.length) (hy : (ρ y).cells = us.toArray) (hly : us.length = zs.length) :
    (execOp ρ o).run P w = .ok (.value (.slice (some ⟨w.heap.size, 0, none⟩) 2 2)) (w.alloc (.cells (vs ++ us).toArray e)) := by
  obtain ⟨i, z, hi, hz, hsz, hby, hcs⟩ := E.inf
  have hp := E.pos
  have hf : Instr.fill (fun j => some (j * i.size, i.size)) ((Array.range (2 * i.size)).map (z.cells[· % z.cells.size]!)) [(0, ρ x), (1, ρ y)] = some (vs ++ us).toArray := by
    have := Great.fill_whole (s := i.size) (by omega) [ρ x, ρ y] ((Array.range (2 * i.size)).map (z.cells[· % z.cells.size]!)) (by
      intro v hv
      simp at hv
      rcases hv with rfl | rfl
      · rw [hx]; simp [hl, hsz]
      · rw [hy]; simp [hly, hsz]) (by simp)
    simp only [List.zipIdx_cons, List.zipIdx_nil, List.map_cons, List.map_nil, List.flatMap_cons, List.flatMap_nil, List.append_nil, hx, hy] at this
    simpa using this
  have hr := run_buildSlice (P := P) w t e 2 #[(0, ρ x), (1, ρ y)] (vs ++ us).toArray i z E.und hi hz (by omega) (by omega) hf
  simp [execOp, ho, hr, Result.andThen]
theorem run_build3 (E : Elt P t e zs by_) {ρ : Operand → Value} {w : World} {o : Oper} (x y r : Operand) (ho : o.op = .buildSlice t 3 #[(0, x), (1, y), (2, r)]) (hs : zs.length ≤ 16777) (vs us rs : List Value) (hx : (ρ x).cells = vs.toArray) (hl : vs.length = zs.length) (hy : (ρ y).cells = us.toArray) (hly : us.length = zs.length) (hr : (ρ r).cells = rs.toArray) (hlr : rs.length = zs.length) :
    (execOp ρ o).run P w = .ok (.value (.slice (some ⟨w.heap.size, 0, none⟩) 3 3)) (w.alloc (.cells (vs ++ us ++ rs).toArray e)) := by
  obtain ⟨i, z, hi, hz, hsz, hby, hcs⟩ := E.inf
  have hp := E.pos
  have hf : Instr.fill (fun j => some (j * i.size, i.size)) ((Array.range (3 * i.size)).map (z.cells[· % z.cells.size]!)) [(0, ρ x), (1, ρ y), (2, ρ r)] = some (vs ++ us ++ rs).toArray := by
    have := Great.fill_whole (s := i.size) (by omega) [ρ x, ρ y, ρ r] ((Array.range (3 * i.size)).map (z.cells[· % z.cells.size]!)) (by
      intro v hv
      simp at hv
      rcases hv with rfl | rfl | rfl
      · rw [hx]; simp [hl, hsz]
      · rw [hy]; simp [hly, hsz]
      · rw [hr]; simp [hlr, hsz]) (by simp)
    simp only [List.zipIdx_cons, List.zipIdx_nil, List.map_cons, List.map_nil, List.flatMap_cons, List.flatMap_nil, List.append_nil, hx, hy, hr] at this
    simpa using this
  have hr := run_buildSlice (P := P) w t e 3 #[(0, ρ x), (1, ρ y), (2, ρ r)] (vs ++ us ++ rs).toArray i z E.und hi hz (by omega) (by omega) hf
  simp [execOp, ho, hr, Result.andThen]
theorem wpList_new {w : World} {cs : List Value} {e : TypeId} {ops : Array Oper} {rest : List Oper} {o : Oper} {a : Act} {Q : Exit → Act → World → Prop} (hgd : o.guard = none) {v : Value} (hr : (execOp a.eval o).run P w = .ok (.value v) (w.alloc (.cells cs.toArray e)))
    (h : ∀ w', Blk w' w.heap.size e cs → Below w.heap.size w w' → w'.heap.size = w.heap.size + 1 → wpList P ops Q rest (a.put o.dst v) w') : wpList P ops Q (o :: rest) a w := by
  refine wpList_plain hgd fun K hK => ?_
  unfold Oper.wp
  rw [hr]
  exact hK _ _ (h _ (Blk.new w _ _) ((Below.refl _ _).alloc (Nat.le_refl _) _) (by simp))
theorem made_rep (zs : List Value) (hp : 0 < zs.length) (n : Nat) : madeCells zs.toArray (n * zs.length) = ((List.replicate n zs).flatten).toArray := by
  apply Array.ext_getElem?
  intro k
  have hl : ((List.replicate n zs).flatten).length = n * zs.length := by simp
  by_cases hk : k < n * zs.length
  · have h1 : ∀ (n k : Nat), k < n * zs.length → ((List.replicate n zs).flatten)[k]? = zs[k % zs.length]? := by
      intro n
      induction n with
      | zero => intro k hk; simp at hk
      | succ n ih =>
        intro k hk
        rw [List.replicate_succ, List.flatten_cons]
        by_cases h : k < zs.length
        · rw [List.getElem?_append_left h, Nat.mod_eq_of_lt h]
        · rw [List.getElem?_append_right (by omega), ih (k - zs.length) (by rw [Nat.add_mul, Nat.one_mul] at hk; omega)]
          congr 1
          rw [← Nat.mod_eq_sub_mod (by omega)]
    simp only [List.getElem?_toArray, h1 n k hk]
    have hm : k % zs.length < zs.length := Nat.mod_lt _ hp
    simp [madeCells, hk, hm]
  · rw [Array.getElem?_eq_none (by simp [madeCells]; omega), Array.getElem?_eq_none (by simp; omega)]
theorem wpList_makeM {by_ : Nat} (E : Elt P t e zs by_) {w : World} {ops : Array Oper} {rest : List Oper} {o : Oper} {a : Act} {Q : Exit → Act → World → Prop}
    (hg : o.guard = none) (l c : Operand) (hop : o.op = Op.makeSlice t l c) (kl kc : IntKind) (L C : Int) (n m : Nat) (hl : a.eval l = .int kl L) (hc : a.eval c = .int kc C) (hL : L = (n : Int)) (hC : C = (m : Int)) (hnm : n ≤ m)
    (hb : by_ * m ≤ 281474976710656) (h63 : m ≤ maxLen) (H : Nat) (hH : w.heap.size = H)
    (hK : ∀ w', Blk w' H e ((List.replicate m zs).flatten) → Below H w w' → w'.heap.size = H + 1 → wpList P ops Q rest (a.put o.dst (.slice (some ⟨H, 0, none⟩) n m)) w') :
    wpList P ops Q (o :: rest) a w := by
  subst hH
  obtain ⟨i, z', hi, hz, hs, hby, hcs⟩ := E.inf
  refine wpList_plain hg fun K hK' => ?_
  subst hL hC
  have hb' : (i.bytes : Int) * (m : Int) ≤ 281474976710656 := by
    have h : ((i.bytes * m : Nat) : Int) ≤ 281474976710656 := by rw [hby]; omega
    rwa [Int.natCast_mul] at h
  have hrun := run_make (P := P) w t e i z' E.und hi hz kl kc n m (by omega) (by omega) hb' (by unfold maxLen at h63; omega)
  simp only [Int.toNat_natCast] at hrun
  unfold Oper.wp
  simp [execOp, hop, hl, hc, hrun, Result.andThen]
  refine hK' _ _ (hK _ ?_ ((Below.refl _ _).alloc (Nat.le_refl _) _) (by simp))
  have he : (madeCells z'.cells (m * i.size)) = ((List.replicate m zs).flatten).toArray := by
    rw [hcs, hs]
    exact made_rep zs E.pos m
  rw [he]
  exact heap_alloc_new w _
theorem wpList_callG {w : World} {ops : Array Oper} {rest : List Oper} {o : Oper} {a : Act} {Q : Exit → Act → World → Prop} (hw : Region.wanted o (yielded ops a.tmps) = true) {f : FuncId} {args : Array Value} (hr : (execOp a.eval o).run P w = .ok (.enter f args) w)
    {ψ : Value → World → Prop} (hc : Calls P f args w fun e w' => ∃ v, e = .returned v ∧ ψ v w') (h : ∀ v w', ψ v w' → wpList P ops Q rest (a.put o.dst v) w') : wpList P ops Q (o :: rest) a w := by
  refine Seal.wpList_wanted hw fun K hK => ?_
  unfold Oper.wp
  rw [hr]
  refine Calls.mono hc ?_
  rintro e w'' ⟨v, rfl, hv⟩
  exact hK _ _ (h v w'' hv)
end
end Go.Proofs.Ytdebokambldbbaa.Mem
