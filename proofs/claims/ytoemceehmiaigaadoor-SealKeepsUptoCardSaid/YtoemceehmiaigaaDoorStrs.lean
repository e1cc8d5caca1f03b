/- Go's strings package at a separator of one byte: Index, Contains, Cut. (The contracts are laid off the kit's shelf, or walked.) -/
import Derived.Test.YtoemceehmiaigaaDoorMem
import Derived.Test.YtoemceehmiaigaaDoorProg
import Derived.Lib.Strings
import Derived.Lib.Slices
import Derived.Lib.Walk
import Derived.Lib.Bytealg
import Derived.Lib.IndexMore
namespace Go.Proofs.YtoemceehmiaigaaDoor.Strs
open Go.RowKit Go.Proofs.YtoemceehmiaigaaDoor.Mem
set_option linter.unusedVariables false

/-! ### In plain words -/
def cutL (c : UInt8) : List UInt8 → Option (List UInt8 × List UInt8)
  | [] => none
  | x :: r => if x = c then some ([], r) else (cutL c r).map fun p => (x :: p.1, p.2)
theorem cutL_some {c : UInt8} : ∀ {l a b : List UInt8}, cutL c l = some (a, b) → l = a ++ c :: b ∧ c ∉ a
  | [], a, b, h => by cases h
  | x :: r, a, b, h => by
    unfold cutL at h
    by_cases hx : x = c
    · rw [if_pos hx] at h
      simp only [Option.some.injEq, Prod.mk.injEq] at h
      obtain ⟨rfl, rfl⟩ := h
      exact ⟨by rw [hx]; rfl, by simp⟩
    · rw [if_neg hx] at h
      cases hr : cutL c r with
      | none => rw [hr] at h; cases h
      | some p =>
        rw [hr] at h
        simp only [Option.map_some, Option.some.injEq, Prod.mk.injEq] at h
        obtain ⟨rfl, rfl⟩ := h
        obtain ⟨h1, h2⟩ := cutL_some (a := p.1) (b := p.2) hr
        exact ⟨by rw [h1]; rfl, by simp [Ne.symm hx, h2]⟩
theorem cutL_none {c : UInt8} : ∀ {l : List UInt8}, cutL c l = none → c ∉ l
  | [], _ => by simp
  | x :: r, h => by
    unfold cutL at h
    by_cases hx : x = c
    · rw [if_pos hx] at h; cases h
    · rw [if_neg hx] at h
      have := cutL_none (l := r) (by simpa using h)
      simp [Ne.symm hx, this]
theorem cutL_of {c : UInt8} : ∀ {a b : List UInt8}, c ∉ a → cutL c (a ++ c :: b) = some (a, b)
  | [], b, _ => by simp [cutL]
  | x :: r, b, h => by
    have hx : ¬ x = c := fun e => h (by rw [e]; exact List.mem_cons_self)
    rw [List.cons_append, cutL, if_neg hx, cutL_of (fun e => h (List.mem_cons_of_mem _ e))]
    rfl
theorem cutL_not {c : UInt8} {l : List UInt8} (h : c ∉ l) : cutL c l = none := by
  cases hc : cutL c l with
  | none => rfl
  | some p =>
    have := (cutL_some (a := p.1) (b := p.2) hc).1
    rw [this] at h
    simp at h
theorem indexByte_cut (c : UInt8) : ∀ (l : List UInt8), Lib.indexByte l c = match cutL c l with | none => -1 | some p => (p.1.length : Int)
  | [] => rfl
  | x :: r => by
    unfold Lib.indexByte cutL
    by_cases hx : x = c
    · simp [hx]
    · have ih := indexByte_cut c r
      simp only [beq_iff_eq, hx, if_false]
      cases hr : cutL c r with
      | none => rw [hr] at ih; simp only at ih; rw [ih]; simp
      | some p => rw [hr] at ih; simp only at ih; rw [ih, if_neg (by omega)]; simp
theorem indexByte_none {c : UInt8} {l : List UInt8} (h : cutL c l = none) : Lib.indexByte l c = -1 := by rw [indexByte_cut, h]
theorem indexByte_some {c : UInt8} {l a b : List UInt8} (h : cutL c l = some (a, b)) : Lib.indexByte l c = (a.length : Int) := by rw [indexByte_cut, h]
theorem ext_head (a b : List UInt8) : (⟨(a ++ b).toArray⟩ : ByteArray).extract 0 a.length = ⟨a.toArray⟩ := by
  rw [Lib.extract_eq]; simp
theorem ext_tail (a b : List UInt8) : (⟨(a ++ b).toArray⟩ : ByteArray).extract a.length (a ++ b).length = ⟨b.toArray⟩ := by
  rw [Lib.extract_eq]; simp

/-! ### The contracts -/
set_option maxHeartbeats 1000000 in
set_option maxRecDepth 100000 in
theorem sl_indexByte (s : ByteArray) (c : Int) (w : World) :
    Calls Tryd.prog 79 #[.string s, .int .u8 c] w fun e w' => e = .returned (.int .i64 (Lib.indexByte s.data.toList c.toNat.toUInt8)) ∧ w' = w := by
  go_enter Tryd.func79, Tryd.ntmps79
  go_wp2
  rw [run_callFunc_extern Tryd.func83 (by kernel_rfl) (by kernel_rfl) (by kernel_rfl) (e := Extern.BytealgIndexByte.indexByte) (by kernel_rfl), Lib.run_indexByteString]
  simp only [Result.andThen]
  rw [Oper.upon_value]
  go_wp2
  go_ret
  exact ⟨rfl, rfl⟩

set_option maxHeartbeats 2000000 in
set_option maxRecDepth 100000 in
theorem sl_index_one (s : ByteArray) (c : UInt8) (w : World) :
    Calls Tryd.prog 78 #[.string s, .string ⟨#[c]⟩] w fun e w' => e = .returned (.int .i64 (Lib.indexByte s.data.toList c)) ∧ w' = w := by
  go_enter Tryd.func78, Tryd.ntmps78
  go_wp2_with (go_at_call 79; refine (sl_indexByte _ _ _).mono ?_; rintro e w' ⟨rfl, rfl⟩)
  · have h : ([c] == s.toList) = true := by assumption
    go_ret
    refine ⟨?_, rfl⟩
    have e : s.data.toList = [c] := by rw [← Lib.toList_data]; exact (beq_iff_eq.1 h).symm
    rw [e]
    simp [Lib.indexByte]
  · go_ret
    exact ⟨rfl, rfl⟩
set_option maxHeartbeats 1000000 in
theorem index_one (s : ByteArray) (c : UInt8) (w : World) :
    Calls Tryd.prog 73 #[.string s, .string ⟨#[c]⟩] w fun e w' => e = .returned (.int .i64 (Lib.indexByte s.data.toList c)) ∧ w' = w := by
  go_enter Tryd.func73, Tryd.ntmps73
  go_wp2_with (go_at_call 78; refine (sl_index_one _ _ _).mono ?_; rintro e w' ⟨rfl, rfl⟩)
  go_ret
  exact ⟨rfl, rfl⟩
def CutPost (c : UInt8) (l : List UInt8) (e : Ending) : Prop :=
  match cutL c l with
  | none => e = .returned (.tuple #[.string ⟨l.toArray⟩, .string ⟨#[]⟩, .bool false])
  | some p => e = .returned (.tuple #[.string ⟨p.1.toArray⟩, .string ⟨p.2.toArray⟩, .bool true])
set_option maxHeartbeats 1000000 in
theorem sl_cut_one (l : List UInt8) (c : UInt8) (w : World) (hl : l.length ≤ 1152921504606846976) :
    Calls Tryd.prog 72 #[.string ⟨l.toArray⟩, .string ⟨#[c]⟩] w fun e w' => CutPost c l e ∧ Below w.heap.size w w' := by
  unfold CutPost
  cases h : cutL c l with
  | none =>
    have hi := indexByte_none h
    go_enter Tryd.func72, Tryd.ntmps72
    go_wp2_with (go_at_call 78; refine (sl_index_one _ _ _).mono ?_; rintro e w' ⟨rfl, rfl⟩; rw [show (⟨l.toArray⟩ : ByteArray).data.toList = l from rfl, hi])
    go_ret3
    exact ⟨rfl, gr _⟩
  | some p =>
    obtain ⟨a, b⟩ := p
    have hi := indexByte_some h
    have hla := (cutL_some h).1
    obtain ⟨n, hn⟩ : ∃ n, n = a.length := ⟨_, rfl⟩
    rw [← hn] at hi
    obtain ⟨s, hs⟩ : ∃ s, s = (⟨l.toArray⟩ : ByteArray) := ⟨_, rfl⟩
    have hsz : s.size = l.length := by rw [hs]; simp [ByteArray.size]
    have e1 : s.extract 0 n = ⟨a.toArray⟩ := by rw [hs, hla, hn]; exact ext_head a (c :: b)
    have e2 : s.extract (n + 1) s.size = ⟨b.toArray⟩ := by
      rw [hsz, hs, hla, hn]
      have := ext_tail (a ++ [c]) b
      simpa using this
    have hll : l.length = n + 1 + b.length := by rw [hla, hn]; simp; omega
    obtain ⟨m, hm⟩ : ∃ m, m = l.length := ⟨_, rfl⟩
    rw [← hm] at hsz hll
    have hmi : (m : Int) ≤ 1152921504606846976 := by omega
    have hnm : (n : Int) + 1 ≤ (m : Int) := by omega
    have hn0 : (0 : Int) ≤ (n : Int) := by omega
    have hd : s.data.toList = l := by rw [hs]
    rw [hsz] at e2
    rw [← hs]
    clear hs h hla hn hll hl hm
    go_enter Tryd.func72, Tryd.ntmps72
    go_wp2_with (go_at_call 78; refine (sl_index_one _ _ _).mono ?_; rintro e w' ⟨rfl, rfl⟩; rw [hd, hi])
    go_quiet (fail)
    go_wp2_with fail
    go_ret3
    exact ⟨rfl, gn (gr _) _⟩
set_option maxHeartbeats 1000000 in
theorem cut_one (l : List UInt8) (c : UInt8) (w : World) (hl : l.length ≤ 1152921504606846976) :
    Calls Tryd.prog 59 #[.string ⟨l.toArray⟩, .string ⟨#[c]⟩] w fun e w' => CutPost c l e ∧ Below w.heap.size w w' := by
  have hc := fun w => sl_cut_one l c w hl
  unfold CutPost at hc ⊢
  cases h : cutL c l with
  | none =>
    rw [h] at hc
    go_enter Tryd.func59, Tryd.ntmps59
    go_wp2_with (go_at_call 72; refine (hc _).mono ?_; rintro e w' ⟨rfl, hb⟩)
    go_ret3
    exact ⟨rfl, hb⟩
  | some p =>
    rw [h] at hc
    go_enter Tryd.func59, Tryd.ntmps59
    go_wp2_with (go_at_call 72; refine (hc _).mono ?_; rintro e w' ⟨rfl, hb⟩)
    go_ret3
    exact ⟨rfl, hb⟩
end Go.Proofs.YtoemceehmiaigaaDoor.Strs
