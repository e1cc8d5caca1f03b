/- Guarded operations: []T{} and append. Plain theorems over any program. -/
import Derived.Test.YtojemdggbcklkaaDoorByteRow
namespace Go.Proofs.YtojemdggbcklkaaDoor.Seal
open Go.RowKit Go.Proofs.YtojemdggbcklkaaDoor.Mem

section
variable {P : Program} {t e : TypeId} {zs : List Value} {by_ : Nat}
theorem wpList_wanted {w : World} {ops : Array Oper} {rest : List Oper} {o : Oper} {a : Act} {Q : Exit → Act → World → Prop} (hw : Region.wanted o (yielded ops a.tmps) = true)
    (h : ∀ K : Act → World → Prop, (∀ a w, wpList P ops Q rest a w → K a w) → o.wp P a w K Q) : wpList P ops Q (o :: rest) a w := by
  simp only [wpList, hw, if_true]
  exact .inl (h _ (fun _ _ h => h))
theorem run_zero (E : Elt P t e zs by_) (hs : zs.length ≤ 16777216) {ρ : Operand → Value} {w : World} {o : Oper} (ho : o.op = .buildSlice t 0 #[]) :
    (execOp ρ o).run P w = .ok (.value (.slice (some ⟨w.heap.size, 0, none⟩) 0 0)) (w.alloc (.cells #[] e)) := by
  obtain ⟨i, z, hi, hz, hsz, hby, hcs⟩ := E.inf
  have hp := E.pos
  have hr : (Instr.buildSlice t 0 #[]).run P w = .ok (.slice (some ⟨w.heap.size, 0, none⟩) 0 0) (w.alloc (.cells #[] e)) := by
    simp [Instr.buildSlice, run_underlying E.und, sizeOf, typeInfo, hi, Instr.fill, newRow]
    rw [Array.eq_empty_of_size_eq_zero (xs := Array.map (fun _ => (default : Value)) (Array.range 0)) (by simp)]
  simp [execOp, ho, hr, Result.andThen]
theorem wpList_zeroG (E : Elt P t e zs by_) (hs : zs.length ≤ 16777216) {w : World} {ops : Array Oper} {rest : List Oper} {o : Oper} {a : Act} {Q : Exit → Act → World → Prop} (hw : Region.wanted o (yielded ops a.tmps) = true) (ho : o.op = .buildSlice t 0 #[]) (H : Nat) (hH : w.heap.size = H)
    (h : ∀ w', w'.ownsRow H e zs.length (.slice (some ⟨H, 0, none⟩) 0 0) 0 [] → Below H w w' → w'.heap.size = H + 1 → wpList P ops Q rest (a.put o.dst (.slice (some ⟨H, 0, none⟩) 0 0)) w') : wpList P ops Q (o :: rest) a w := by
  subst hH
  refine wpList_wanted hw fun K hK => ?_
  unfold Oper.wp
  rw [run_zero E hs ho]
  refine hK _ _ (h _ ⟨by simp, .inr ⟨_, 0, #[], rfl, Nat.le_refl _, heap_alloc_new w _, Nat.le_refl _, by unfold maxLen; omega, by simp, by simp⟩⟩ (ga (gr w) _) (by simp))
theorem wpList_appG (E : Elt P t e zs by_) {w : World} {ops : Array Oper} {rest : List Oper} {o : Oper} {a : Act} {Q : Exit → Act → World → Prop} (hw : Region.wanted o (yielded ops a.tmps) = true)
    (s x : Operand) (ho : o.op = .call { callee := .builtin .append, args := #[s, x], argTypes := #[t, t] })
    (B : Nat) (v : Value) (n : Nat) (xs : List Value) (hs : a.eval s = v) (hown : w.ownsRow B e zs.length v n xs)
    (A : Option Addr) (m c : Nat) (news : List Value) (hx : a.eval x = .slice A m c) (hr : RV w A news) (hm : news.length = m * zs.length) (h1 : ∀ u ∈ news, u.oneCell' = true)
    (h63 : n + m ≤ maxLen) (hbytes : (n + m) * by_ ≤ 140737488355328) (hbase : B ≤ w.heap.size)
    (h : ∀ v' w', w'.ownsRow B e zs.length v' (n + m) (xs ++ news) → w.grownBy w' v.ownBlock → (v'.ownBlock = v.ownBlock ∨ v'.ownBlock = some w.heap.size) → wpList P ops Q rest (a.put o.dst v') w') : wpList P ops Q (o :: rest) a w :=
  wpList_wanted hw fun _ hK => wp_app E s x ho B v n xs hs hown A m c news hx hr hm h1 h63 hbytes hbase fun v' w' h2 h3 h4 => hK _ _ (h v' w' h2 h3 h4)
end
end Go.Proofs.YtojemdggbcklkaaDoor.Seal
