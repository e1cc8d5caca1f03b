/- An append to a new empty row: it is empty still, or new. For regions that draw their order. -/
import Derived.Test.YtojemdggbcklkaaDoorWPieces
import Derived.Test.YtojemdggbcklkaaDoorKeepBase
import Derived.ArgAppend
namespace Go.Proofs.YtojemdggbcklkaaDoor.WireR
open Go.RowKit Go.Proofs.YtojemdggbcklkaaDoor.Mem Go.Proofs.YtojemdggbcklkaaDoor.Wire Go.Proofs.YtojemdggbcklkaaDoor.Strs Go.Proofs.YtojemdggbcklkaaDoor.Heads
set_option linter.unusedVariables false
set_option linter.unusedSimpArgs false
set_option maxRecDepth 4000

theorem exec_fresh {ρ : Operand → Value} {w : World} {o : Oper} {s x : Operand} (ho : o.op = .call { callee := .builtin .append, args := #[s, x], argTypes := #[22, 22] }) {g : Nat} (hs : ρ s = .slice (some ⟨g, 0, none⟩) 0 0) {A : Option Addr} {m c : Nat} {p : List UInt8}
    (hx : ρ x = .slice A m c) (hm : m = p.length) (h0 : 0 < m) (hl : m ≤ 16777216) (hr : RB w A p) :
    ∃ v w', (execOp ρ o).run Tryd.prog w = .ok (.value v) w' ∧ w'.ownsRow w.heap.size 5 1 v m (p.map bv) ∧ Below w.heap.size w w' := by
  obtain ⟨i, z, hi, hz, hsz, hby, hcs⟩ := EB.inf
  cases A with
  | none =>
    exfalso
    cases p with
    | nil => simp at hm; omega
    | cons a q => obtain ⟨ad, e, _⟩ := hr 0 (by simp); cases e
  | some ad =>
    obtain ⟨v', w', hrun, h1, h2⟩ := run_append_arg_grows (P := Tryd.prog) w 22 o.type 5 i z 1 1 Tryd.underlying22 hi hz hsz hby (by rw [hcs]; rfl) (by decide) ⟨g, 0, none⟩ 0 0 [] rfl (fun j u h => by simp at h) ad m c (p.map bv) (by rw [List.length_map, hm]; omega)
      (fun j u h => hr.rv.cells rfl j u h) (by omega) (by unfold maxLen; omega) (by omega)
    refine ⟨v', w', ?_, ?_, ⟨h2.os, h2.tape, h2.output, h2.size, fun k hk => h2.block k hk (by simp)⟩⟩
    · simp [execOp, ho, resolve, invoke, builtin, hs, hx, hrun, Result.andThen]
    · rw [Nat.zero_add, List.nil_append] at h1; exact h1
theorem exec_empty {ρ : Operand → Value} {w : World} {o : Oper} {s x : Operand} (ho : o.op = .call { callee := .builtin .append, args := #[s, x], argTypes := #[22, 22] }) {g : Nat} (hs : ρ s = .slice (some ⟨g, 0, none⟩) 0 0) {A : Option Addr} {c : Nat} (hx : ρ x = .slice A 0 c) :
    (execOp ρ o).run Tryd.prog w = .ok (.value (.slice (some ⟨g, 0, none⟩) 0 0)) w := by
  obtain ⟨i, z, hi, hz, hsz, hby, hcs⟩ := EB.inf
  have hrun : (Builtin.append_ #[22, 22] o.type #[.slice (some ⟨g, 0, none⟩) 0 0, .slice A 0 c]).run Tryd.prog w = .ok (.slice (some ⟨g, 0, none⟩) 0 0) w := by
    cases A with
    | none => simp [Builtin.append_, run_underlying EB.und, sizeOf, typeInfo, hi, Builtin.lenOf, Builtin.firstCells, storeCells]
    | some ad =>
      have := run_append_room_cells (P := Tryd.prog) w 22 o.type 5 i Tryd.underlying22 hi g 0 0 0 ad 0 c [] (by simp) (fun j u h => by simp at h) (by simp) (Nat.le_refl _) (fun j h => by simp at h) (fun j h => by simp at h)
      simpa [World.setCells] using this
  simp [execOp, ho, resolve, invoke, builtin, hs, hx, hrun, Result.andThen]
/-- slot d holds what slot e holds -/
def spSame (d e : Nat) : Sp := ⟨[d, e], fun vs _ => ∃ v, vs = [v, v], false⟩
theorem same_holds (d e : Nat) (x : Nat → Value) (w : World) : (spSame d e).holds x w ↔ x d = x e := by
  simp [Sp.holds, spSame]
  constructor <;> exact Eq.symm
theorem same_own (d e : Nat) (x : Nat → Value) : (spSame d e).own x = [] := rfl
theorem block_own {w : World} {B n : Nat} {T : TypeId} {v : Value} {xs : List Value} (h : w.ownsRow B T 1 v n xs) : ∀ b ∈ blockOf v, v.ownBlock = some b := by
  intro b hb
  rcases h.2 with ⟨rfl, _⟩ | ⟨g, cap, cur, rfl, _⟩
  · simp [blockOf] at hb
  · simp [blockOf] at hb
    subst hb
    rfl
theorem rg_fresh {Q : Exit → Act → World → Prop} {T : Array Value} {df : List Deferred} {w : World} {l : List Oper} {sp : List Sp} {i : Nat} {o : Oper} {d m c : Nat} {s y : Operand} {A : Option Addr} {p : List UInt8} (hn : (rgDsts l).Nodup) (hd : o.dst = some d) (hg : o.guard = none)
    (ho : o.op = .call { callee := .builtin .append, args := #[s, y], argTypes := #[22, 22] }) (hm : m = p.length) (h0 : 0 < m) (hl : m ≤ 16777216)
    (h : ∀ (x : Nat → Value) (w' : World) (B : Act), Below w.heap.size w w' → RgPreds sp x w' o.after.toList → RgHolds B T (rgDsts l) x → RB w' A p ∧ (∃ g, B.eval s = .slice (some ⟨g, 0, none⟩) 0 0) ∧ B.eval y = .slice A m c) :
    RgOb Tryd.prog Q T df w l sp i o (.new d (fun v w' => w'.ownsRow w.heap.size 5 1 v m (p.map bv))) :=
  rg_val hn hg fun x w' B h1 h2 h3 => by
    obtain ⟨hr, ⟨g, e1⟩, e2⟩ := h x w' B h1 h2 h3
    obtain ⟨v, w'', hrun, hown, hb⟩ := exec_fresh (ρ := B.eval) (w := w') ho e1 e2 hm h0 hl hr
    refine ⟨v, w'', hrun, hb, ?_, fun b hb' => ?_⟩
    · rw [hd, holds_new]
      simp only [rgUpd, if_true]
      exact own_base hown h1.size
    · rw [hd] at hb'
      simp only [own_new, rgUpd, if_true] at hb'
      exact hown.lt b (block_own hown b hb')
def ZeroB (v : Value) (w : World) : Prop := ∃ g, v = .slice (some ⟨g, 0, none⟩) 0 0
end Go.Proofs.YtojemdggbcklkaaDoor.WireR
