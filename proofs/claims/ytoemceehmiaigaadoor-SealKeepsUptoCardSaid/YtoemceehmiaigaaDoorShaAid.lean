/- Aids of the laws over digests: place, slices of a list, a Hash is equal to itself. -/
import Derived.Test.YtoemceehmiaigaaDoorShaProg
import Derived.Test.YtoemceehmiaigaaDoorShaAbc
import Derived.Test.YtoemceehmiaigaaDoorEqlAgg
import Derived.Test.YtoemceehmiaigaaDoorQuiet
import Derived.Lib.SlBytesConst
namespace Go.Proofs.YtoemceehmiaigaaDoor.Sha
open Go.RowKit Go.Proofs.YtoemceehmiaigaaDoor.Mem Go.Proofs.YtoemceehmiaigaaDoor.Loan
set_option linter.unusedVariables false

def placeN (i : Int) (n : Nat) : Nat := ((if i < 0 then -(i + 1) else i) % (n : Int)).toNat
theorem placeN_lt (i : Int) (n : Nat) (hn : 0 < n) : placeN i n < n := by
  unfold placeN
  have h1 := Int.emod_nonneg (if i < 0 then -(i + 1) else i) (show (n : Int) ≠ 0 by omega)
  have h2 := Int.emod_lt_of_pos (if i < 0 then -(i + 1) else i) (show (0 : Int) < (n : Int) by omega)
  omega
theorem place_any (i : Int) (n : Nat) (hi : -9223372036854775808 ≤ i ∧ i ≤ 9223372036854775807) (hn : 0 < n) (hn2 : n < 4611686018427387904) (w : World) :
    Calls Tryd.prog 28 #[.int .i64 i, .int .i64 (n : Int)] w fun e w' => e = .returned (.int .i64 (placeN i n : Nat)) ∧ w' = w := by
  obtain ⟨k, hk⟩ : ∃ k, k = placeN i n := ⟨_, rfl⟩
  rw [← hk]
  have h0 : ¬ (n : Int) = 0 := by omega
  have hkv : (k : Int) = (if i < 0 then -(i + 1) else i) % (n : Int) := by
    rw [hk]; unfold placeN
    have h1 := Int.emod_nonneg (if i < 0 then -(i + 1) else i) h0
    omega
  obtain ⟨h1, h2⟩ := hi
  go_enter Tryd.func28, Tryd.ntmps28
  by_cases hneg : i < 0
  · rw [if_pos hneg] at hkv
    have hm : (-(i + 1)).tmod (n : Int) = (k : Int) := by rw [Int.tmod_eq_emod_of_nonneg (by omega)]; exact hkv.symm
    have HK := Lib.hid hkv
    clear hkv
    go_wp2
    go_ret
    exact ⟨by rw [hk]; rfl, rfl⟩
  · rw [if_neg hneg] at hkv
    have hm : i.tmod (n : Int) = (k : Int) := by rw [Int.tmod_eq_emod_of_nonneg (by omega)]; exact hkv.symm
    have HK := Lib.hid hkv
    clear hkv
    go_wp2
    go_ret
    exact ⟨rfl, rfl⟩

def subA (A : Option Addr) (c lo : Nat) : Option Addr := match A with | none => none | some ad => if c = lo then some ad else some (ad.add lo)
theorem subA_rb {w : World} {A : Option Addr} {l : List UInt8} (h : RB w A l) (c lo n : Nat) (hc : l.length ≤ c) : RB w (subA A c lo) ((l.drop lo).take n) := by
  refine RB.take ?_ n
  cases A with
  | none =>
    have : l = [] := by
      cases l with
      | nil => rfl
      | cons x r => obtain ⟨_, e, _⟩ := h 0 (by simp); cases e
    subst this
    simp; exact RB.nil _ _
  | some ad =>
    unfold subA
    by_cases hcl : c = lo
    · simp only [hcl, if_true]
      rw [List.drop_of_length_le (by omega)]
      exact RB.nil _ _
    · simp only [hcl, if_false]
      exact h.drop lo ad rfl

section
variable {o : Oper} {a : Act} {x lo hi : Operand} {A : Option Addr} {L c l h : Nat}
theorem slice_op2 (ho : o.op = .slice 32 x (some lo) (some hi) none) (hx : a.eval x = .slice A L c) (hlo : a.eval lo = .int .i64 (l : Int)) (hhi : a.eval hi = .int .i64 (h : Int))
    (hA : A = none → c = 0) (h1 : l ≤ h) (h2 : h ≤ c) (hc : c ≤ maxLen) (W : World) : (execOp a.eval o).run Tryd.prog W = .ok (.value (.slice (subA A c l) (h - l) (c - l))) W := by
  unfold maxLen at hc
  cases A with
  | none =>
    have := hA rfl
    subst this
    obtain rfl : h = 0 := by omega
    obtain rfl : l = 0 := by omega
    simp only [execOp, ho, hx, hlo, hhi, Option.map_some, Option.map_none]
    go_simp
    rfl
  | some ad =>
    have y0 : (0 : Int) ≤ (l : Int) := by omega
    have y1 : (l : Int) ≤ (h : Int) := by omega
    have y2 : (h : Int) ≤ (c : Int) := by omega
    simp only [execOp, ho, hx, hlo, hhi, Option.map_some, Option.map_none]
    go_simp
    rfl
theorem slice_op0 (ho : o.op = .slice 32 x (some lo) none none) (hx : a.eval x = .slice A L c) (hlo : a.eval lo = .int .i64 (l : Int))
    (hA : A = none → c = 0) (h1 : l ≤ L) (h2 : L ≤ c) (hc : c ≤ maxLen) (W : World) : (execOp a.eval o).run Tryd.prog W = .ok (.value (.slice (subA A c l) (L - l) (c - l))) W := by
  unfold maxLen at hc
  cases A with
  | none =>
    have := hA rfl
    subst this
    obtain rfl : L = 0 := by omega
    obtain rfl : l = 0 := by omega
    simp only [execOp, ho, hx, hlo, Option.map_some, Option.map_none]
    go_simp
    rfl
  | some ad =>
    have y0 : (0 : Int) ≤ (l : Int) := by omega
    have y1 : (l : Int) ≤ (L : Int) := by omega
    have y2 : (L : Int) ≤ (c : Int) := by omega
    simp only [execOp, ho, hx, hlo, Option.map_some, Option.map_none]
    go_simp
    rfl
theorem slice_op1 (ho : o.op = .slice 32 x none (some hi) none) (hx : a.eval x = .slice A L c) (hhi : a.eval hi = .int .i64 (h : Int))
    (h2 : h ≤ c) (hc : c ≤ maxLen) (W : World) : (execOp a.eval o).run Tryd.prog W = .ok (.value (.slice A h c)) W := by
  unfold maxLen at hc
  have y1 : (0 : Int) ≤ (h : Int) := by omega
  have y2 : (h : Int) ≤ (c : Int) := by omega
  simp only [execOp, ho, hx, hhi, Option.map_some, Option.map_none]
  go_simp
end

theorem run_part_array {P : Program} {t e : TypeId} {n m : Nat} (hu : P.underlying t = some (.array n e)) (hs : (P.info? t).map (·.size) = some m) (xs : Array Value) (off : Nat) (W : World) :
    (part t xs off).run P W = .ok (.agg (xs.extract off (off + m))) W := by
  simp [part, isAgg, run_underlying hu, size_run hs]

theorem hash_state (b : List UInt8) (i : Nat) (hi : i < 8) : ∃ a, ((hashCells b).toArray.extract 0 (0 + 8))[i]? = some (.int .u32 a) := by
  have h : (((hashCells b).toArray.extract 0 (0 + 8))[i]?) = (stateB b).cells[i]? := by
    rw [Array.getElem?_extract, if_pos (by simp [hashCells_length]; omega), List.getElem?_toArray, hashCells_eq]
    unfold hcell
    rw [Nat.zero_add, List.getElem?_append_left (by rw [cells_length]; exact hi)]
  rw [h, ← col8, col_get _ _ _ hi]
  exact ⟨_, rfl⟩
theorem hash_rest (b : List UInt8) (i : Nat) (hi : i < 64) : ∃ a, ((hashCells b).toArray.extract 8 (8 + 64))[i]? = some (.int .u8 a) := by
  have hr := restB_length b
  have h : (((hashCells b).toArray.extract 8 (8 + 64))[i]?) = ((restB b).map bv)[i]? := by
    rw [Array.getElem?_extract, if_pos (by simp [hashCells_length]; omega), List.getElem?_toArray, hashCells_eq]
    unfold hcell
    rw [List.getElem?_append_right (by rw [cells_length]; omega), cells_length, show 8 + i - 8 = i by omega, List.getElem?_append_left (by rw [List.length_map, hr]; exact hi)]
  rw [h]
  have := bytes_ints (restB b) i (by rw [hr]; exact hi)
  rwa [List.getElem?_toArray] at this
theorem hash_n (b : List UInt8) : ((hashCells b).toArray)[72]? = some (.int .i64 (b.length : Int)) := by
  rw [List.getElem?_toArray, hashCells_eq]; exact hcell_72 _ _ _ (restB_length b)
theorem hash_eqi (b : List UInt8) (W : World) : (Op.equalIn 10000 43 (.agg (hashCells b).toArray) (.agg (hashCells b).toArray)).run Tryd.prog W = .ok true W := by
  rw [show (10000 : Nat) = 9999 + 1 from rfl, run_equalIn_struct W 9999 43 _ _ (by kernel_rfl) (by kernel_rfl)]
  simp only [Program.fieldsOf, Tryd.underlying43]
  have hs := fun i (hi : i < 8) => hash_state b i hi
  have hr := fun i (hi : i < 64) => hash_rest b i hi
  have hn := hash_n b
  obtain ⟨xs, hxs⟩ : ∃ xs, xs = (hashCells b).toArray := ⟨_, rfl⟩
  rw [← hxs] at hs hr hn ⊢
  have e0 := fun W => eqIn_array (P := Tryd.prog) (d := 9997) Tryd.underlying40 Tryd.underlying25 (by kernel_rfl) (xs.extract 0 (0 + 8)) hs W
  have e1 := fun W => eqIn_array (P := Tryd.prog) (d := 9997) Tryd.underlying41 Tryd.underlying5 (by kernel_rfl) (xs.extract 8 (8 + 64)) hr W
  have p0 := fun W => run_part_array (P := Tryd.prog) Tryd.underlying40 (by kernel_rfl : (Tryd.prog.info? 40).map (·.size) = some 8) xs 0 W
  have p1 := fun W => run_part_array (P := Tryd.prog) Tryd.underlying41 (by kernel_rfl : (Tryd.prog.info? 41).map (·.size) = some 64) xs 8 W
  have p2 := fun W => run_part_plain (P := Tryd.prog) W (e := 3) (by kernel_rfl) hn
  have e2 := fun W => run_equalIn_int (P := Tryd.prog) W 9998 3 .i64 .i64 (b.length : Int) (b.length : Int) Tryd.underlying3
  unfold Op.eqFields
  rw [if_pos (by decide)]
  simp only [Sem.run_bind, p0, e0, Result.andThen_ok, Bool.not_true, Bool.false_eq_true, if_false]
  unfold Op.eqFields
  rw [if_pos (by decide)]
  simp only [Sem.run_bind, p1, e1, Result.andThen_ok, Bool.not_true, Bool.false_eq_true, if_false]
  unfold Op.eqFields
  rw [if_pos (by decide)]
  simp only [Sem.run_bind, p2, e2, Result.andThen_ok, Bool.not_true, Bool.false_eq_true, if_false, beq_self_eq_true]
  unfold Op.eqFields
  simp
theorem hash_eql (b : List UInt8) (W : World) : (binOp .eql 43 (.agg (hashCells b).toArray) (.agg (hashCells b).toArray)).run Tryd.prog W = .ok (.bool true) W := by
  rw [run_eql_struct, hash_eqi]; rfl
theorem hash_neq (b : List UInt8) (W : World) : (binOp .neq 43 (.agg (hashCells b).toArray) (.agg (hashCells b).toArray)).run Tryd.prog W = .ok (.bool false) W := by
  rw [run_neq_struct, hash_eqi]; rfl
end Go.Proofs.YtoemceehmiaigaaDoor.Sha
