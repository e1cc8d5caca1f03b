/- A row of bytes under way, grown one byte at a time. Plain theorems over any program. -/
import Derived.Test.YtojemdggbcklkaaDoorLaws
import Derived.Great.BuildSlice
namespace Go.Proofs.YtojemdggbcklkaaDoor.Seal
open Go.RowKit Go.Proofs.YtojemdggbcklkaaDoor.Mem

section
variable {P : Program} {t e : TypeId} {zs : List Value} {by_ : Nat}
theorem run_one (E : Elt P t e zs by_) {ρ : Operand → Value} {w : World} {o : Oper} (x : Operand) (ho : o.op = .buildSlice t 1 #[(0, x)]) (hs : zs.length ≤ 16777216) (vs : List Value) (hx : (ρ x).cells = vs.toArray) (hl : vs.length = zs.length) :
    (execOp ρ o).run P w = .ok (.value (.slice (some ⟨w.heap.size, 0, none⟩) 1 1)) (w.alloc (.cells vs.toArray e)) := by
  obtain ⟨i, z, hi, hz, hsz, hby, hcs⟩ := E.inf
  have hp := E.pos
  have hf : Instr.fill (fun j => some (j * i.size, i.size)) ((Array.range (1 * i.size)).map (z.cells[· % z.cells.size]!)) [(0, ρ x)] = some vs.toArray := by
    have := Great.fill_whole (s := i.size) (by omega) [ρ x] ((Array.range (1 * i.size)).map (z.cells[· % z.cells.size]!)) (by intro v hv; simp at hv; subst hv; rw [hx]; simp [hl, hsz]) (by simp)
    simp only [List.zipIdx_cons, List.zipIdx_nil, List.map_cons, List.map_nil, List.flatMap_cons, List.flatMap_nil, List.append_nil, hx] at this
    simpa using this
  have hr := run_buildSlice (P := P) w t e 1 #[(0, ρ x)] vs.toArray i z E.und hi hz (by omega) (by omega) hf
  simp [execOp, ho, hr, Result.andThen]

theorem wpList_one (E : Elt P t e zs by_) {w : World} {ops : Array Oper} {rest : List Oper} {o : Oper} {a : Act} {Q : Exit → Act → World → Prop} (hgd : o.guard = none) (x : Operand) (ho : o.op = .buildSlice t 1 #[(0, x)]) (hs : zs.length ≤ 16777216)
    (vs : List Value) (hx : (a.eval x).cells = vs.toArray) (hl : vs.length = zs.length) (H : Nat) (hH : w.heap.size = H)
    (h : ∀ w', Blk w' H e vs → Below H w w' → wpList P ops Q rest (a.put o.dst (.slice (some ⟨H, 0, none⟩) 1 1)) w') : wpList P ops Q (o :: rest) a w := by
  subst hH
  refine wpList_plain hgd fun K hK => ?_
  unfold Oper.wp
  rw [run_one E x ho hs vs hx hl]
  exact hK _ _ (h _ (Blk.new _ _ _) (ga (gr w) _))

/-- make([]T, n, m), T of one cell -/
theorem wpList_makeN {z : Value} (E : Elt P t e [z] by_) {w : World} {ops : Array Oper} {rest : List Oper} {o : Oper} {a : Act} {Q : Exit → Act → World → Prop}
    (hg : o.guard = none) (l c : Operand) (hop : o.op = Op.makeSlice t l c) (kl kc : IntKind) (L C : Int) (n m : Nat) (hl : a.eval l = .int kl L) (hc : a.eval c = .int kc C) (hL : L = (n : Int)) (hC : C = (m : Int)) (hnm : n ≤ m)
    (hb : by_ * m ≤ 281474976710656) (h63 : m ≤ maxLen) (H : Nat) (hH : w.heap.size = H)
    (hK : ∀ w', Blk w' H e (List.replicate m z) → Below H w w' → w'.heap.size = H + 1 → wpList P ops Q rest (a.put o.dst (.slice (some ⟨H, 0, none⟩) n m)) w') :
    wpList P ops Q (o :: rest) a w := by
  subst hH
  obtain ⟨i, z', hi, hz, hs, hby, hcs⟩ := E.inf
  refine wpList_plain hg fun K hK' => ?_
  subst hL hC
  have hb' : (i.bytes : Int) * (m : Int) ≤ 281474976710656 := by
    have h : ((i.bytes * m : Nat) : Int) ≤ 281474976710656 := by rw [hby]; omega
    rwa [Int.natCast_mul] at h
  have hrun := run_make (P := P) w t e i z' E.und hi hz kl kc n m (by omega) (by omega) hb' (by unfold maxLen at h63; omega)
  simp only [Int.toNat_natCast] at hrun
  unfold Oper.wp
  simp [execOp, hop, hl, hc, hrun, Result.andThen]
  refine hK' _ _ (hK _ ?_ ((Below.refl _ _).alloc (Nat.le_refl _) _) (by simp))
  have he : (madeCells z'.cells (m * i.size)) = (List.replicate m z).toArray := by
    rw [hcs, hs]
    have := toList_madeCells_one z m
    simp only [List.length_singleton, Nat.mul_one]
    rw [← this]
  rw [he]
  exact heap_alloc_new w _

theorem own_belowB {w w' : World} {B n size : Nat} {T : TypeId} {v : Value} {xs : List Value} (h : w.ownsRow B T size v n xs) (hb : Below w.heap.size w w') : w'.ownsRow B T size v n xs :=
  h.kept (row := none) ⟨hb.os, hb.tape, hb.output, hb.size, fun k hk _ => hb.block k hk⟩ (by
    by_cases hn : v.ownBlock = none
    · exact .inl hn
    · exact .inr hn)

/-- append(s, c): s the call's own row of bytes -/
theorem wpList_pushB {z : Value} (E : Elt P t e [z] 1) {w0 w : World} {ops : Array Oper} {rest : List Oper} {o : Oper} {a : Act} {Q : Exit → Act → World → Prop} (hgd : o.guard = none)
    (s x : Operand) (ho : o.op = .call { callee := .builtin .append, args := #[s, x], argTypes := #[t, t] })
    {v : Value} {n : Nat} {l : List UInt8} (hlow : Below w0.heap.size w0 w) (hown : w.ownsRow w0.heap.size e 1 v n (l.map bv)) (hs : a.eval s = v)
    (g : Nat) (hx : a.eval x = .slice (some ⟨g, 0, none⟩) 1 1) (y : UInt8) (hB : Blk w g e [bv y]) (hn : n + 1 ≤ 140737488355328)
    (h : ∀ v' w', w'.ownsRow w0.heap.size e 1 v' (n + 1) ((l ++ [y]).map bv) → Below w0.heap.size w0 w' → wpList P ops Q rest (a.put o.dst v') w') : wpList P ops Q (o :: rest) a w :=
  wpList_app E hgd s x ho w0.heap.size v n (l.map bv) hs hown (some ⟨g, 0, none⟩) 1 1 [bv y] hx hB.rv rfl (by intro u hu; simp at hu; subst hu; rfl) (by unfold maxLen; omega) (by omega) hlow.size
    fun v' w' h2 h3 _ => h v' w' (by rw [List.map_append]; exact h2) (below_own hlow hown h3 hlow.size)
end
end Go.Proofs.YtojemdggbcklkaaDoor.Seal
