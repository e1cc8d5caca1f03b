/- An array or struct of whole numbers is equal to itself; an element of an array by value. Plain theorems over any program. -/
import Derived.Test.YtoemceehmiaigaaDoorLaws
import Derived.ChangeKeysEq
import Derived.Laws.StructEq
namespace Go.Proofs.YtoemceehmiaigaaDoor.Mem
open Go.RowKit
variable {P : Program}

theorem forIn_all {σ : Type} (w : World) (s : σ) (F : Nat → σ → Sem (ForInStep σ)) (l : List Nat) (h : ∀ i ∈ l, (F i s).run P w = .ok (.yield s) w) :
    (forIn l s F).run P w = .ok s w := by
  induction l with
  | nil => simp
  | cons a r ih =>
    simp only [List.forIn_cons, Sem.run_bind]
    rw [h a (List.mem_cons_self ..)]
    simp only [Result.andThen_ok]
    exact ih fun i hi => h i (List.mem_cons_of_mem _ hi)

theorem size_run {e : TypeId} {n : Nat} (hs : (P.info? e).map (·.size) = some n) (w : World) : (sizeOf e).run P w = .ok n w := by
  cases hi : P.info? e with
  | none => rw [hi] at hs; cases hs
  | some i =>
    rw [hi] at hs
    simp at hs
    simp [sizeOf, typeInfo, hi, hs]

theorem eqIn_array {t e : TypeId} {n d : Nat} {k : IntKind} (hu : P.underlying t = some (.array n e)) (he : P.underlying e = some (.int k)) (hs : (P.info? e).map (·.size) = some 1) (xs : Array Value)
    (hx : ∀ i, i < n → ∃ a, xs[i]? = some (.int k a)) (w : World) : (Op.equalIn (d + 1 + 1) t (.agg xs) (.agg xs)).run P w = .ok true w := by
  have hp : P.plainKey e = true := by unfold Program.plainKey; rw [he]
  unfold Op.equalIn
  simp only [Sem.run_bind, run_underlying hu, Result.andThen_ok, size_run hs]
  simp only [Std.Legacy.Range.forIn_eq_forIn_range', Std.Legacy.Range.size, Nat.sub_zero, Nat.add_sub_cancel, Nat.div_one]
  rw [forIn_all]
  · simp
  · intro i hi
    have hin : i < n := by simpa using hi
    obtain ⟨a, ha⟩ := hx i hin
    simp only [Sem.run_bind, Nat.mul_one, run_part_plain w hp ha, Result.andThen_ok, run_equalIn_int w d e k k a a he, beq_self_eq_true, Bool.not_true, Bool.false_eq_true, if_false]
    simp

theorem run_neq_array {t e : TypeId} {n : Nat} {k : IntKind} (hu : P.underlying t = some (.array n e)) (he : P.underlying e = some (.int k)) (hs : (P.info? e).map (·.size) = some 1) (xs : Array Value)
    (hx : ∀ i, i < n → ∃ a, xs[i]? = some (.int k a)) (w : World) : (binOp .neq t (.agg xs) (.agg xs)).run P w = .ok (.bool false) w := by
  rw [run_neq_struct, show (10000 : Nat) = 9998 + 1 + 1 from rfl, eqIn_array hu he hs xs hx w]
  rfl

theorem bytes_ints (l : List UInt8) (i : Nat) (h : i < l.length) : ∃ a, ((l.map bv).toArray)[i]? = some (.int .u8 a) :=
  ⟨(l[i].toNat : Int), by rw [List.getElem?_toArray, List.getElem?_map, List.getElem?_eq_getElem h]; rfl⟩
theorem run_index_val {t e : TypeId} {n : Nat} {k q : IntKind} (hu : P.underlying t = some (.array n e)) (he : P.underlying e = some (.int q)) (hs : (P.info? e).map (·.size) = some 1) (xs : Array Value) (i : Nat) (hi : i < n) (v : Value) (hx : xs[i]? = some v)
    (w : World) : (Instr.index t (.agg xs) (.int k (i : Int))).run P w = .ok v w := by
  have hp : P.plainKey e = true := by unfold Program.plainKey; rw [he]
  have hlt : (0 : Int) ≤ (i : Int) ∧ (i : Int) < (n : Int) := by omega
  simp only [Instr.index, Sem.run_bind, asIntOf, Sem.run_pure, Result.andThen_ok, run_underlying hu]
  rw [if_pos hlt]
  simp only [Sem.run_bind, size_run hs, Result.andThen_ok, Nat.mul_one, Int.toNat_natCast]
  exact run_part_plain w hp hx
end Go.Proofs.YtoemceehmiaigaaDoor.Mem
