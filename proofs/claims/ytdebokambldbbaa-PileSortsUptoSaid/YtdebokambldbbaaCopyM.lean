/- copy of elements of many cells into a block that is known whole, from its beginning. Plain theorem over any program. -/
import Derived.Test.YtdebokambldbbaaLaws
namespace Go.Proofs.Ytdebokambldbbaa.Mem
open Go.RowKit
theorem wpList_copyM {P : Program} {t e : TypeId} {zs : List Value} {by_ : Nat} (E : Elt P t e zs by_) {w : World} {ops : Array Oper} {rest : List Oper} {o : Oper} {a : Act} {Q : Exit → Act → World → Prop} (hgd : o.guard = none)
    (d s : Operand) (ho : o.op = .call { callee := .builtin .copy, args := #[d, s], argTypes := #[t, t] })
    (g dLen dCap : Nat) (A : Option Addr) (sLen sCap : Nat) (hd : a.eval d = .slice (some ⟨g, 0, none⟩) dLen dCap) (hs : a.eval s = .slice A sLen sCap)
    (T : TypeId) (cur : List Value) (hB : Blk w g T cur) (xs : List Value) (hlen : xs.length = sLen * zs.length) (hle : sLen ≤ dLen) (hr : RV w A xs) (hfit : xs.length ≤ cur.length) (h1 : ∀ u ∈ xs, u.oneCell' = true)
    (h : ∀ w', Blk w' g T (xs ++ cur.drop xs.length) → w'.heap.size = w.heap.size → w.grownBy w' (some g) → wpList P ops Q rest (a.put o.dst (.int .i64 (sLen : Nat))) w') :
    wpList P ops Q (o :: rest) a w := by
  obtain ⟨i, z', hi, hz, hsz, hby, hcs⟩ := E.inf
  refine wpList_plain hgd fun K hK => ?_
  have hmin : min sLen dLen = sLen := Nat.min_eq_left hle
  have hrun : (Builtin.copy_ #[t, t] o.type #[.slice (some ⟨g, 0, none⟩) dLen dCap, .slice A sLen sCap]).run P w = .ok (goInt sLen) (w.setRow g (xs ++ cur.drop xs.length).toArray) := by
    have hst := run_storeCells_at P g 0 T xs 0 cur.toArray w hB (by simpa using hfit) h1
    rcases A with _ | ad
    · have hx : xs = [] := by
        rcases xs with _ | ⟨u, r⟩
        · rfl
        · obtain ⟨ad, he, _⟩ := hr 0 (by simp)
          cases he
      subst hx
      have h0 : sLen = 0 := by
        rcases Nat.eq_zero_or_pos sLen with h0 | h0
        · exact h0
        · have := Nat.mul_pos h0 E.pos; simp at hlen; omega
      subst h0
      have hself := setRow_self w g cur.toArray T (0, 0) hB
      simp [Builtin.copy_, run_underlying E.und, Builtin.lenOf, Builtin.firstCells, sizeOf, typeInfo, hi, storeCells, hself]
    · have hl := run_loadCells_list (P := P) w ad xs (hr.cells rfl)
      simp only [Nat.add_zero, Nat.zero_add, List.take_zero, List.nil_append, List.toList_toArray] at hst
      simp [Builtin.copy_, run_underlying E.und, Builtin.lenOf, Builtin.firstCells, sizeOf, typeInfo, hi, hsz, hmin, ← hlen, hl, hst]
  unfold Oper.wp
  simp [execOp, ho, resolve, invoke, builtin, hd, hs, hrun, Result.andThen]
  refine hK _ _ (h _ ?_ (by simp) ⟨rfl, rfl, rfl, by simp, fun k hk hne => setRow_other w g k _ (fun e => hne (by rw [e]))⟩)
  exact setRow_heap w g _ _ T (0, 0) hB
end Go.Proofs.Ytdebokambldbbaa.Mem
