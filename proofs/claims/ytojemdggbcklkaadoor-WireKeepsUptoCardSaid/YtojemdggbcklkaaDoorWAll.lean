/- allOf, token, value, find: what holds of all bytes of a text; where a byte stands. (Printed by mkwall.py.) -/
import Derived.Test.YtojemdggbcklkaaDoorWLine
import Derived.Test.YtojemdggbcklkaaDoorWShelf

/- Bytes of a token, of a value, that can be seen: the program's and the reference's tests. -/
namespace Go.Proofs.YtojemdggbcklkaaDoor.WireR
open Go.RowKit Go.Proofs.YtojemdggbcklkaaDoor.Mem Go.Proofs.YtojemdggbcklkaaDoor.Wire Go.Proofs.YtojemdggbcklkaaDoor.Strs
set_option linter.unusedVariables false
set_option linter.unusedSimpArgs false
set_option maxRecDepth 4000

set_option maxHeartbeats 1000000 in
theorem valueByte_any (c : UInt8) (w : World) :
    Calls Tryd.prog 70 #[.int .u8 (c.toNat : Int)] w fun e w' => e = .returned (.bool (valB c)) ∧ w = w' := by
  unfold valB
  obtain ⟨x, hx⟩ : ∃ x, x = c.toNat := ⟨_, rfl⟩
  have hxl : x < 256 := hx ▸ c.toNat_lt
  rw [← hx]
  clear hx
  obtain ⟨y, hy⟩ : ∃ y : Int, y = (x : Int) := ⟨_, rfl⟩
  rw [← hy]
  obtain ⟨r, hr⟩ : ∃ r, r = valN x := ⟨_, rfl⟩
  rw [← hr]
  obtain ⟨b1, h1⟩ : ∃ b, (y == 9) = b := ⟨_, rfl⟩
  obtain ⟨b2, h2⟩ : ∃ b, decide ((32 : Int) ≤ y) = b := ⟨_, rfl⟩
  obtain ⟨b3, h3⟩ : ∃ b, (y != 127) = b := ⟨_, rfl⟩
  have hb : r = (b1 || (b2 && b3)) := by
    rw [hr, ← h1, ← h2, ← h3, hy]
    unfold valN
    rw [Bool.eq_iff_iff]
    simp
    omega
  rw [hb]
  clear hb hr hy hxl
  cases b1 <;> cases b2 <;> cases b3 <;>
  · go_enter Tryd.func70, Tryd.ntmps70
    go_wp2
    go_ret
    exact ⟨rfl, rfl⟩
set_option maxHeartbeats 1000000 in
theorem rvalueByte_any (c : UInt8) (w : World) :
    Calls Tryd.prog 96 #[.int .u8 (c.toNat : Int)] w fun e w' => e = .returned (.bool (valB c)) ∧ w = w' := by
  unfold valB
  obtain ⟨x, hx⟩ : ∃ x, x = c.toNat := ⟨_, rfl⟩
  have hxl : x < 256 := hx ▸ c.toNat_lt
  rw [← hx]
  clear hx
  obtain ⟨y, hy⟩ : ∃ y : Int, y = (x : Int) := ⟨_, rfl⟩
  rw [← hy]
  obtain ⟨r, hr⟩ : ∃ r, r = valN x := ⟨_, rfl⟩
  rw [← hr]
  obtain ⟨b1, h1⟩ : ∃ b, (y == 9) = b := ⟨_, rfl⟩
  obtain ⟨b2, h2⟩ : ∃ b, decide ((32 : Int) ≤ y) = b := ⟨_, rfl⟩
  obtain ⟨b3, h3⟩ : ∃ b, decide (y ≤ 126) = b := ⟨_, rfl⟩
  obtain ⟨b4, h4⟩ : ∃ b, decide ((128 : Int) ≤ y) = b := ⟨_, rfl⟩
  have hb : r = ((b1 || (b2 && b3)) || b4) := by
    rw [hr, ← h1, ← h2, ← h3, ← h4, hy]
    unfold valN
    rw [Bool.eq_iff_iff]
    simp
    omega
  rw [hb]
  clear hb hr hy hxl
  cases b1 <;> cases b2 <;> cases b3 <;> cases b4 <;>
  · go_enter Tryd.func96, Tryd.ntmps96
    go_wp2
    go_ret
    exact ⟨rfl, rfl⟩
set_option maxHeartbeats 1000000 in
theorem visible_any (c : UInt8) (w : World) :
    Calls Tryd.prog 52 #[.int .u8 (c.toNat : Int)] w fun e w' => e = .returned (.bool (visB c)) ∧ w = w' := by
  unfold visB
  obtain ⟨x, hx⟩ : ∃ x, x = c.toNat := ⟨_, rfl⟩
  have hxl : x < 256 := hx ▸ c.toNat_lt
  rw [← hx]
  clear hx
  obtain ⟨y, hy⟩ : ∃ y : Int, y = (x : Int) := ⟨_, rfl⟩
  rw [← hy]
  obtain ⟨r, hr⟩ : ∃ r, r = visN x := ⟨_, rfl⟩
  rw [← hr]
  obtain ⟨b2, h2⟩ : ∃ b, decide ((33 : Int) ≤ y) = b := ⟨_, rfl⟩
  obtain ⟨b3, h3⟩ : ∃ b, decide (y ≤ 126) = b := ⟨_, rfl⟩
  have hb : r = (b2 && b3) := by
    rw [hr, ← h2, ← h3, hy]
    unfold visN
    rw [Bool.eq_iff_iff]
    simp
    omega
  rw [hb]
  clear hb hr hy hxl
  cases b2 <;> cases b3 <;>
  · go_enter Tryd.func52, Tryd.ntmps52
    go_wp2
    go_ret
    exact ⟨rfl, rfl⟩
theorem indexByte_cut (c : UInt8) : ∀ (l : List UInt8), Lib.indexByte l c = match cutL c l with | none => -1 | some p => (p.1.length : Int)
  | [] => rfl
  | x :: r => by
    unfold Lib.indexByte cutL
    by_cases hx : x = c
    · simp [hx]
    · have ih := indexByte_cut c r
      simp only [beq_iff_eq, hx, if_false]
      cases hr : cutL c r with
      | none => rw [hr] at ih; simp only at ih; rw [ih]; simp
      | some p => rw [hr] at ih; simp only at ih; rw [ih, if_neg (by omega)]; simp
theorem indexByte_has (l : List UInt8) (c : UInt8) : decide (0 ≤ Lib.indexByte l c) = l.contains c := by
  rw [indexByte_cut]
  cases h : cutL c l with
  | none => have := cutL_none h; simp [this]
  | some p =>
    have := (cutL_some (a := p.1) (b := p.2) h).1
    rw [this]
    simp
theorem tok_sym (c : UInt8) : ([33, 35, 36, 37, 38, 39, 42, 43, 45, 46, 94, 95, 96, 124, 126] : List UInt8).contains c = ([33, 35, 36, 37, 38, 39, 42, 43, 45, 46, 94, 95, 96, 124, 126] : List Nat).contains c.toNat := by
  have h : ∀ c : UInt8, ((List.range 256).all fun n => ([33, 35, 36, 37, 38, 39, 42, 43, 45, 46, 94, 95, 96, 124, 126] : List UInt8).contains (UInt8.ofNat n) == ([33, 35, 36, 37, 38, 39, 42, 43, 45, 46, 94, 95, 96, 124, 126] : List Nat).contains n) = true := fun _ => by decide +kernel
  have h2 := List.all_eq_true.1 (h c) c.toNat (List.mem_range.2 c.toNat_lt)
  simpa using h2
set_option maxHeartbeats 2000000 in
theorem tokenByte_any (c : UInt8) (w : World) :
    Calls Tryd.prog 51 #[.int .u8 (c.toNat : Int)] w fun e w' => e = .returned (.bool (tokB c)) ∧ w = w' := by
  unfold tokB
  obtain ⟨x, hx⟩ : ∃ x, x = c.toNat := ⟨_, rfl⟩
  have hxl : x < 256 := hx ▸ c.toNat_lt
  rw [← hx]
  obtain ⟨y, hy⟩ : ∃ y : Int, y = (x : Int) := ⟨_, rfl⟩
  rw [← hy]
  obtain ⟨r, hr⟩ : ∃ r, r = tokN x := ⟨_, rfl⟩
  rw [← hr]
  rcases (by omega : (x ≤ 47) ∨ (48 ≤ x ∧ x ≤ 57) ∨ (58 ≤ x ∧ x ≤ 64) ∨ (65 ≤ x ∧ x ≤ 90) ∨ (91 ≤ x ∧ x ≤ 96) ∨ (97 ≤ x ∧ x ≤ 122) ∨ (123 ≤ x)) with h | h | h | h | h | h | h
  · have d0 : decide (((97 : Int)) ≤ y) = false := by simp; omega
    have d1 : decide (((65 : Int)) ≤ y) = false := by simp; omega
    have d2 : decide (((48 : Int)) ≤ y) = false := by simp; omega
    have d3 : decide (y ≤ 122) = true := by simp; omega
    have d4 : decide (y ≤ 90) = true := by simp; omega
    have d5 : decide (y ≤ 57) = true := by simp; omega
    have e : r = [33, 35, 36, 37, 38, 39, 42, 43, 45, 46, 94, 95, 96, 124, 126].contains x := by rw [hr]; unfold tokN; rw [Bool.eq_iff_iff]; simp; omega
    by_cases h0 : x = 0
    · have e2 : r = false := by rw [e, h0]; rfl
      have d6 : (y != 0) = false := by simp; omega
      rw [e2]
      clear e e2 hr hy h hxl hx h0
      go_enter Tryd.func51, Tryd.ntmps51
      go_wp2
      go_ret
      exact ⟨rfl, rfl⟩
    · have d6 : (y != 0) = true := by simp; omega
      obtain ⟨t, ht⟩ : ∃ t, t = Lib.indexByte (⟨#[33, 35, 36, 37, 38, 39, 42, 43, 45, 46, 94, 95, 96, 124, 126]⟩ : ByteArray).data.toList y.toNat.toUInt8 := ⟨_, rfl⟩
      have d7 : decide (0 ≤ t) = r := by
        rw [e, ht, show y.toNat.toUInt8 = c by rw [hy, Int.toNat_natCast, hx]; simp, indexByte_has, hx]
        exact tok_sym c
      have c1 := fun w => Tryd.strings_IndexByte ⟨#[33, 35, 36, 37, 38, 39, 42, 43, 45, 46, 94, 95, 96, 124, 126]⟩ y w
      rw [← ht] at c1
      have C1 := Lib.hid c1
      clear c1 ht e hr hy h hxl hx h0
      go_enter Tryd.func51, Tryd.ntmps51
      go_wp2_with (first
        | (go_at_call 48; go_must (refine (C1.out _).mono ?_); rintro e w' ⟨rfl, rfl⟩))
      go_ret
      exact ⟨rfl, rfl⟩
  · have d0 : decide (((97 : Int)) ≤ y) = false := by simp; omega
    have d1 : decide (((65 : Int)) ≤ y) = false := by simp; omega
    have d2 : decide (((48 : Int)) ≤ y) = true := by simp; omega
    have d3 : decide (y ≤ 122) = true := by simp; omega
    have d4 : decide (y ≤ 90) = true := by simp; omega
    have d5 : decide (y ≤ 57) = true := by simp; omega
    have e : r = true := by rw [hr]; unfold tokN; simp; omega
    rw [e]
    clear e hr hy h hxl hx
    go_enter Tryd.func51, Tryd.ntmps51
    go_wp2
    go_ret
    exact ⟨rfl, rfl⟩
  · have d0 : decide (((97 : Int)) ≤ y) = false := by simp; omega
    have d1 : decide (((65 : Int)) ≤ y) = false := by simp; omega
    have d2 : decide (((48 : Int)) ≤ y) = true := by simp; omega
    have d3 : decide (y ≤ 122) = true := by simp; omega
    have d4 : decide (y ≤ 90) = true := by simp; omega
    have d5 : decide (y ≤ 57) = false := by simp; omega
    have e : r = [33, 35, 36, 37, 38, 39, 42, 43, 45, 46, 94, 95, 96, 124, 126].contains x := by rw [hr]; unfold tokN; rw [Bool.eq_iff_iff]; simp; omega
    by_cases h0 : x = 0
    · have e2 : r = false := by rw [e, h0]; rfl
      have d6 : (y != 0) = false := by simp; omega
      rw [e2]
      clear e e2 hr hy h hxl hx h0
      go_enter Tryd.func51, Tryd.ntmps51
      go_wp2
      go_ret
      exact ⟨rfl, rfl⟩
    · have d6 : (y != 0) = true := by simp; omega
      obtain ⟨t, ht⟩ : ∃ t, t = Lib.indexByte (⟨#[33, 35, 36, 37, 38, 39, 42, 43, 45, 46, 94, 95, 96, 124, 126]⟩ : ByteArray).data.toList y.toNat.toUInt8 := ⟨_, rfl⟩
      have d7 : decide (0 ≤ t) = r := by
        rw [e, ht, show y.toNat.toUInt8 = c by rw [hy, Int.toNat_natCast, hx]; simp, indexByte_has, hx]
        exact tok_sym c
      have c1 := fun w => Tryd.strings_IndexByte ⟨#[33, 35, 36, 37, 38, 39, 42, 43, 45, 46, 94, 95, 96, 124, 126]⟩ y w
      rw [← ht] at c1
      have C1 := Lib.hid c1
      clear c1 ht e hr hy h hxl hx h0
      go_enter Tryd.func51, Tryd.ntmps51
      go_wp2_with (first
        | (go_at_call 48; go_must (refine (C1.out _).mono ?_); rintro e w' ⟨rfl, rfl⟩))
      go_ret
      exact ⟨rfl, rfl⟩
  · have d0 : decide (((97 : Int)) ≤ y) = false := by simp; omega
    have d1 : decide (((65 : Int)) ≤ y) = true := by simp; omega
    have d2 : decide (((48 : Int)) ≤ y) = true := by simp; omega
    have d3 : decide (y ≤ 122) = true := by simp; omega
    have d4 : decide (y ≤ 90) = true := by simp; omega
    have d5 : decide (y ≤ 57) = false := by simp; omega
    have e : r = true := by rw [hr]; unfold tokN; simp; omega
    rw [e]
    clear e hr hy h hxl hx
    go_enter Tryd.func51, Tryd.ntmps51
    go_wp2
    go_ret
    exact ⟨rfl, rfl⟩
  · have d0 : decide (((97 : Int)) ≤ y) = false := by simp; omega
    have d1 : decide (((65 : Int)) ≤ y) = true := by simp; omega
    have d2 : decide (((48 : Int)) ≤ y) = true := by simp; omega
    have d3 : decide (y ≤ 122) = true := by simp; omega
    have d4 : decide (y ≤ 90) = false := by simp; omega
    have d5 : decide (y ≤ 57) = false := by simp; omega
    have e : r = [33, 35, 36, 37, 38, 39, 42, 43, 45, 46, 94, 95, 96, 124, 126].contains x := by rw [hr]; unfold tokN; rw [Bool.eq_iff_iff]; simp; omega
    by_cases h0 : x = 0
    · have e2 : r = false := by rw [e, h0]; rfl
      have d6 : (y != 0) = false := by simp; omega
      rw [e2]
      clear e e2 hr hy h hxl hx h0
      go_enter Tryd.func51, Tryd.ntmps51
      go_wp2
      go_ret
      exact ⟨rfl, rfl⟩
    · have d6 : (y != 0) = true := by simp; omega
      obtain ⟨t, ht⟩ : ∃ t, t = Lib.indexByte (⟨#[33, 35, 36, 37, 38, 39, 42, 43, 45, 46, 94, 95, 96, 124, 126]⟩ : ByteArray).data.toList y.toNat.toUInt8 := ⟨_, rfl⟩
      have d7 : decide (0 ≤ t) = r := by
        rw [e, ht, show y.toNat.toUInt8 = c by rw [hy, Int.toNat_natCast, hx]; simp, indexByte_has, hx]
        exact tok_sym c
      have c1 := fun w => Tryd.strings_IndexByte ⟨#[33, 35, 36, 37, 38, 39, 42, 43, 45, 46, 94, 95, 96, 124, 126]⟩ y w
      rw [← ht] at c1
      have C1 := Lib.hid c1
      clear c1 ht e hr hy h hxl hx h0
      go_enter Tryd.func51, Tryd.ntmps51
      go_wp2_with (first
        | (go_at_call 48; go_must (refine (C1.out _).mono ?_); rintro e w' ⟨rfl, rfl⟩))
      go_ret
      exact ⟨rfl, rfl⟩
  · have d0 : decide (((97 : Int)) ≤ y) = true := by simp; omega
    have d1 : decide (((65 : Int)) ≤ y) = true := by simp; omega
    have d2 : decide (((48 : Int)) ≤ y) = true := by simp; omega
    have d3 : decide (y ≤ 122) = true := by simp; omega
    have d4 : decide (y ≤ 90) = false := by simp; omega
    have d5 : decide (y ≤ 57) = false := by simp; omega
    have e : r = true := by rw [hr]; unfold tokN; simp; omega
    rw [e]
    clear e hr hy h hxl hx
    go_enter Tryd.func51, Tryd.ntmps51
    go_wp2
    go_ret
    exact ⟨rfl, rfl⟩
  · have d0 : decide (((97 : Int)) ≤ y) = true := by simp; omega
    have d1 : decide (((65 : Int)) ≤ y) = true := by simp; omega
    have d2 : decide (((48 : Int)) ≤ y) = true := by simp; omega
    have d3 : decide (y ≤ 122) = false := by simp; omega
    have d4 : decide (y ≤ 90) = false := by simp; omega
    have d5 : decide (y ≤ 57) = false := by simp; omega
    have e : r = [33, 35, 36, 37, 38, 39, 42, 43, 45, 46, 94, 95, 96, 124, 126].contains x := by rw [hr]; unfold tokN; rw [Bool.eq_iff_iff]; simp; omega
    by_cases h0 : x = 0
    · have e2 : r = false := by rw [e, h0]; rfl
      have d6 : (y != 0) = false := by simp; omega
      rw [e2]
      clear e e2 hr hy h hxl hx h0
      go_enter Tryd.func51, Tryd.ntmps51
      go_wp2
      go_ret
      exact ⟨rfl, rfl⟩
    · have d6 : (y != 0) = true := by simp; omega
      obtain ⟨t, ht⟩ : ∃ t, t = Lib.indexByte (⟨#[33, 35, 36, 37, 38, 39, 42, 43, 45, 46, 94, 95, 96, 124, 126]⟩ : ByteArray).data.toList y.toNat.toUInt8 := ⟨_, rfl⟩
      have d7 : decide (0 ≤ t) = r := by
        rw [e, ht, show y.toNat.toUInt8 = c by rw [hy, Int.toNat_natCast, hx]; simp, indexByte_has, hx]
        exact tok_sym c
      have c1 := fun w => Tryd.strings_IndexByte ⟨#[33, 35, 36, 37, 38, 39, 42, 43, 45, 46, 94, 95, 96, 124, 126]⟩ y w
      rw [← ht] at c1
      have C1 := Lib.hid c1
      clear c1 ht e hr hy h hxl hx h0
      go_enter Tryd.func51, Tryd.ntmps51
      go_wp2_with (first
        | (go_at_call 48; go_must (refine (C1.out _).mono ?_); rintro e w' ⟨rfl, rfl⟩))
      go_ret
      exact ⟨rfl, rfl⟩
def tokSym (c : UInt8) : Bool := ([33, 35, 36, 37, 38, 39, 42, 43, 45, 46, 94, 95, 96, 124, 126] : List Nat).contains c.toNat
theorem run_sym (i : Nat) (hi : i < 14) (W : World) : (Instr.index 9 (.string ⟨#[33, 35, 36, 37, 38, 39, 42, 43, 45, 46, 94, 95, 124, 126]⟩) (.int .i64 (i : Int))).run Tryd.prog W = .ok (bv (([33, 35, 36, 37, 38, 39, 42, 43, 45, 46, 94, 95, 124, 126] : List UInt8).getD i 0)) W := by
  have h1 : 0 ≤ (i : Int) ∧ ((i : Int)) < ((⟨#[33, 35, 36, 37, 38, 39, 42, 43, 45, 46, 94, 95, 124, 126]⟩ : ByteArray).size : Int) := by
    constructor
    · omega
    · rw [show (⟨#[33, 35, 36, 37, 38, 39, 42, 43, 45, 46, 94, 95, 124, 126]⟩ : ByteArray).size = 14 from rfl]; omega
  rw [run_index_string (P := Tryd.prog) (w := W) _ _ _ _ Tryd.underlying9, dif_pos (by exact h1)]
  have h2 : ∀ i, i < 14 → ∀ h, (⟨#[33, 35, 36, 37, 38, 39, 42, 43, 45, 46, 94, 95, 124, 126]⟩ : ByteArray)[i]'h = ([33, 35, 36, 37, 38, 39, 42, 43, 45, 46, 94, 95, 124, 126] : List UInt8).getD i 0 := by
    intro i hi h
    rw [List.getD_eq_getElem?_getD, List.getElem?_eq_getElem hi]
    rfl
  simp only [bv, Int.toNat_natCast]
  rw [h2 i hi]
theorem sym_not {c : UInt8} (h : c ∉ ([33, 35, 36, 37, 38, 39, 42, 43, 45, 46, 94, 95, 124, 126] : List UInt8)) : tokSym c = (c.toNat == 96) := by
  have h3 : ∀ c : UInt8, ((List.range 256).all fun n => ([33, 35, 36, 37, 38, 39, 42, 43, 45, 46, 94, 95, 124, 126] : List UInt8).contains (UInt8.ofNat n) || (tokSym (UInt8.ofNat n) == ((UInt8.ofNat n).toNat == 96))) = true := fun _ => by decide +kernel
  have h2 := List.all_eq_true.1 (h3 c) c.toNat (List.mem_range.2 c.toNat_lt)
  simpa [h] using h2
theorem sym_yes {c : UInt8} (h : c ∈ ([33, 35, 36, 37, 38, 39, 42, 43, 45, 46, 94, 95, 124, 126] : List UInt8)) : tokSym c = true := by
  have h3 : ∀ c : UInt8, ((List.range 256).all fun n => !([33, 35, 36, 37, 38, 39, 42, 43, 45, 46, 94, 95, 124, 126] : List UInt8).contains (UInt8.ofNat n) || tokSym (UInt8.ofNat n)) = true := fun _ => by decide +kernel
  have h2 := List.all_eq_true.1 (h3 c) c.toNat (List.mem_range.2 c.toNat_lt)
  rw [Bool.or_eq_true] at h2
  simp only [UInt8.ofNat_toNat] at h2
  rcases h2 with h2 | h2
  · rw [List.contains_iff_mem.2 h] at h2; cases h2
  · exact h2
set_option maxHeartbeats 2000000 in
theorem rtokenByte_any (c : UInt8) (w : World) :
    Calls Tryd.prog 78 #[.int .u8 (c.toNat : Int)] w fun e w' => e = .returned (.bool (tokB c)) ∧ w = w' := by
  unfold tokB
  obtain ⟨x, hx⟩ : ∃ x, x = c.toNat := ⟨_, rfl⟩
  have hxl : x < 256 := hx ▸ c.toNat_lt
  rw [← hx]
  obtain ⟨y, hy⟩ : ∃ y : Int, y = (x : Int) := ⟨_, rfl⟩
  rw [← hy]
  obtain ⟨r, hr⟩ : ∃ r, r = tokN x := ⟨_, rfl⟩
  rw [← hr]
  rcases (by omega : (x ≤ 47) ∨ (48 ≤ x ∧ x ≤ 57) ∨ (58 ≤ x ∧ x ≤ 64) ∨ (65 ≤ x ∧ x ≤ 90) ∨ (91 ≤ x ∧ x ≤ 96) ∨ (97 ≤ x ∧ x ≤ 122) ∨ (123 ≤ x)) with h | h | h | h | h | h | h
  · have d0 : decide (((97 : Int)) ≤ y) = false := by simp; omega
    have d1 : decide (((65 : Int)) ≤ y) = false := by simp; omega
    have d2 : decide (((48 : Int)) ≤ y) = false := by simp; omega
    have d3 : decide (y ≤ 122) = true := by simp; omega
    have d4 : decide (y ≤ 90) = true := by simp; omega
    have d5 : decide (y ≤ 57) = true := by simp; omega
    have e : r = tokSym c := by rw [hr]; unfold tokN tokSym; rw [← hx, Bool.eq_iff_iff]; simp; omega
    have HE := Lib.hid (And.intro e (And.intro hx hy))
    clear e hr h hxl hx hy
    go_enter Tryd.func78, Tryd.ntmps78
    go_wp2
    go_loopw [4] (fun v wr => ∃ k : Nat, k ≤ 14 ∧ v = .int .i64 k ∧ c ∉ (([33, 35, 36, 37, 38, 39, 42, 43, 45, 46, 94, 95, 124, 126] : List UInt8).take k) ∧ wr = w) (fun v _ => 14 - (intOf v).toNat)
    case atStart => exact ⟨0, by omega, rfl, by simp, rfl⟩
    case round =>
      obtain ⟨k, hk, rfl, hno, rfl⟩ := hrel
      by_cases hlt : k < 14
      · have hrun := fun W => run_sym k hlt W
        obtain ⟨z, hz⟩ : ∃ z, z = ([33, 35, 36, 37, 38, 39, 42, 43, 45, 46, 94, 95, 124, 126] : List UInt8).getD k 0 := ⟨_, rfl⟩
        rw [← hz] at hrun
        unfold bv at hrun
        obtain ⟨q, hq⟩ : ∃ q : Int, q = (z.toNat : Int) := ⟨_, rfl⟩
        rw [← hq] at hrun
        have hzk : z = ([33, 35, 36, 37, 38, 39, 42, 43, 45, 46, 94, 95, 124, 126] : List UInt8)[k]'hlt := by rw [hz, List.getD_eq_getElem?_getD, List.getElem?_eq_getElem hlt]; rfl
        have hki : (k : Int) < 14 := by omega
        have hk0 : (0 : Int) ≤ (k : Int) := by omega
        by_cases hqy : q = y
        · have hzc : z = c := UInt8.toNat_inj.1 (by have := HE.out.2.1; have := HE.out.2.2; omega)
          have ht : r = true := by rw [HE.out.1]; exact sym_yes (by rw [← hzc, hzk]; exact List.getElem_mem _)
          have hb : (q == y) = true := by simp; exact hqy
          clear hzc hzk hz hq hqy hno hlt
          go_wp2
          go_ret
          exact ⟨by rw [ht]; rfl, rfl⟩
        · have hzc : z ≠ c := by rintro rfl; have := HE.out.2.1; have := HE.out.2.2; exact hqy (by omega)
          have hnx : c ∉ ([33, 35, 36, 37, 38, 39, 42, 43, 45, 46, 94, 95, 124, 126] : List UInt8).take (k + 1) := by
            rw [List.take_succ_eq_append_getElem hlt, ← hzk]
            simp only [List.mem_append, List.mem_singleton, not_or]
            exact ⟨hno, fun e => hzc e.symm⟩
          have HN := Lib.hid hnx
          have hb : (q == y) = false := by simp; exact hqy
          clear hzc hzk hz hq hqy hno hlt hnx
          go_wp2
          exact ⟨⟨k + 1, by omega, by go_num, HN.out, trivial⟩, by simp [intOf]; omega⟩
      · obtain rfl : k = 14 := by omega
        have hf : r = (c.toNat == 96) := by rw [HE.out.1]; exact sym_not (by simpa using hno)
        have hb : (y == 96) = r := by
          rw [hf, HE.out.2.2, HE.out.2.1, Bool.eq_iff_iff]
          simp
          omega
        clear hno hf hlt
        go_wp2
        go_ret
        exact ⟨rfl, rfl⟩
  · have d0 : decide (((97 : Int)) ≤ y) = false := by simp; omega
    have d1 : decide (((65 : Int)) ≤ y) = false := by simp; omega
    have d2 : decide (((48 : Int)) ≤ y) = true := by simp; omega
    have d3 : decide (y ≤ 122) = true := by simp; omega
    have d4 : decide (y ≤ 90) = true := by simp; omega
    have d5 : decide (y ≤ 57) = true := by simp; omega
    have e : r = true := by rw [hr]; unfold tokN; simp; omega
    rw [e]
    clear e hr hy h hxl hx
    go_enter Tryd.func78, Tryd.ntmps78
    go_wp2
    go_ret
    exact ⟨rfl, rfl⟩
  · have d0 : decide (((97 : Int)) ≤ y) = false := by simp; omega
    have d1 : decide (((65 : Int)) ≤ y) = false := by simp; omega
    have d2 : decide (((48 : Int)) ≤ y) = true := by simp; omega
    have d3 : decide (y ≤ 122) = true := by simp; omega
    have d4 : decide (y ≤ 90) = true := by simp; omega
    have d5 : decide (y ≤ 57) = false := by simp; omega
    have e : r = tokSym c := by rw [hr]; unfold tokN tokSym; rw [← hx, Bool.eq_iff_iff]; simp; omega
    have HE := Lib.hid (And.intro e (And.intro hx hy))
    clear e hr h hxl hx hy
    go_enter Tryd.func78, Tryd.ntmps78
    go_wp2
    go_loopw [4] (fun v wr => ∃ k : Nat, k ≤ 14 ∧ v = .int .i64 k ∧ c ∉ (([33, 35, 36, 37, 38, 39, 42, 43, 45, 46, 94, 95, 124, 126] : List UInt8).take k) ∧ wr = w) (fun v _ => 14 - (intOf v).toNat)
    case atStart => exact ⟨0, by omega, rfl, by simp, rfl⟩
    case round =>
      obtain ⟨k, hk, rfl, hno, rfl⟩ := hrel
      by_cases hlt : k < 14
      · have hrun := fun W => run_sym k hlt W
        obtain ⟨z, hz⟩ : ∃ z, z = ([33, 35, 36, 37, 38, 39, 42, 43, 45, 46, 94, 95, 124, 126] : List UInt8).getD k 0 := ⟨_, rfl⟩
        rw [← hz] at hrun
        unfold bv at hrun
        obtain ⟨q, hq⟩ : ∃ q : Int, q = (z.toNat : Int) := ⟨_, rfl⟩
        rw [← hq] at hrun
        have hzk : z = ([33, 35, 36, 37, 38, 39, 42, 43, 45, 46, 94, 95, 124, 126] : List UInt8)[k]'hlt := by rw [hz, List.getD_eq_getElem?_getD, List.getElem?_eq_getElem hlt]; rfl
        have hki : (k : Int) < 14 := by omega
        have hk0 : (0 : Int) ≤ (k : Int) := by omega
        by_cases hqy : q = y
        · have hzc : z = c := UInt8.toNat_inj.1 (by have := HE.out.2.1; have := HE.out.2.2; omega)
          have ht : r = true := by rw [HE.out.1]; exact sym_yes (by rw [← hzc, hzk]; exact List.getElem_mem _)
          have hb : (q == y) = true := by simp; exact hqy
          clear hzc hzk hz hq hqy hno hlt
          go_wp2
          go_ret
          exact ⟨by rw [ht]; rfl, rfl⟩
        · have hzc : z ≠ c := by rintro rfl; have := HE.out.2.1; have := HE.out.2.2; exact hqy (by omega)
          have hnx : c ∉ ([33, 35, 36, 37, 38, 39, 42, 43, 45, 46, 94, 95, 124, 126] : List UInt8).take (k + 1) := by
            rw [List.take_succ_eq_append_getElem hlt, ← hzk]
            simp only [List.mem_append, List.mem_singleton, not_or]
            exact ⟨hno, fun e => hzc e.symm⟩
          have HN := Lib.hid hnx
          have hb : (q == y) = false := by simp; exact hqy
          clear hzc hzk hz hq hqy hno hlt hnx
          go_wp2
          exact ⟨⟨k + 1, by omega, by go_num, HN.out, trivial⟩, by simp [intOf]; omega⟩
      · obtain rfl : k = 14 := by omega
        have hf : r = (c.toNat == 96) := by rw [HE.out.1]; exact sym_not (by simpa using hno)
        have hb : (y == 96) = r := by
          rw [hf, HE.out.2.2, HE.out.2.1, Bool.eq_iff_iff]
          simp
          omega
        clear hno hf hlt
        go_wp2
        go_ret
        exact ⟨rfl, rfl⟩
  · have d0 : decide (((97 : Int)) ≤ y) = false := by simp; omega
    have d1 : decide (((65 : Int)) ≤ y) = true := by simp; omega
    have d2 : decide (((48 : Int)) ≤ y) = true := by simp; omega
    have d3 : decide (y ≤ 122) = true := by simp; omega
    have d4 : decide (y ≤ 90) = true := by simp; omega
    have d5 : decide (y ≤ 57) = false := by simp; omega
    have e : r = true := by rw [hr]; unfold tokN; simp; omega
    rw [e]
    clear e hr hy h hxl hx
    go_enter Tryd.func78, Tryd.ntmps78
    go_wp2
    go_ret
    exact ⟨rfl, rfl⟩
  · have d0 : decide (((97 : Int)) ≤ y) = false := by simp; omega
    have d1 : decide (((65 : Int)) ≤ y) = true := by simp; omega
    have d2 : decide (((48 : Int)) ≤ y) = true := by simp; omega
    have d3 : decide (y ≤ 122) = true := by simp; omega
    have d4 : decide (y ≤ 90) = false := by simp; omega
    have d5 : decide (y ≤ 57) = false := by simp; omega
    have e : r = tokSym c := by rw [hr]; unfold tokN tokSym; rw [← hx, Bool.eq_iff_iff]; simp; omega
    have HE := Lib.hid (And.intro e (And.intro hx hy))
    clear e hr h hxl hx hy
    go_enter Tryd.func78, Tryd.ntmps78
    go_wp2
    go_loopw [4] (fun v wr => ∃ k : Nat, k ≤ 14 ∧ v = .int .i64 k ∧ c ∉ (([33, 35, 36, 37, 38, 39, 42, 43, 45, 46, 94, 95, 124, 126] : List UInt8).take k) ∧ wr = w) (fun v _ => 14 - (intOf v).toNat)
    case atStart => exact ⟨0, by omega, rfl, by simp, rfl⟩
    case round =>
      obtain ⟨k, hk, rfl, hno, rfl⟩ := hrel
      by_cases hlt : k < 14
      · have hrun := fun W => run_sym k hlt W
        obtain ⟨z, hz⟩ : ∃ z, z = ([33, 35, 36, 37, 38, 39, 42, 43, 45, 46, 94, 95, 124, 126] : List UInt8).getD k 0 := ⟨_, rfl⟩
        rw [← hz] at hrun
        unfold bv at hrun
        obtain ⟨q, hq⟩ : ∃ q : Int, q = (z.toNat : Int) := ⟨_, rfl⟩
        rw [← hq] at hrun
        have hzk : z = ([33, 35, 36, 37, 38, 39, 42, 43, 45, 46, 94, 95, 124, 126] : List UInt8)[k]'hlt := by rw [hz, List.getD_eq_getElem?_getD, List.getElem?_eq_getElem hlt]; rfl
        have hki : (k : Int) < 14 := by omega
        have hk0 : (0 : Int) ≤ (k : Int) := by omega
        by_cases hqy : q = y
        · have hzc : z = c := UInt8.toNat_inj.1 (by have := HE.out.2.1; have := HE.out.2.2; omega)
          have ht : r = true := by rw [HE.out.1]; exact sym_yes (by rw [← hzc, hzk]; exact List.getElem_mem _)
          have hb : (q == y) = true := by simp; exact hqy
          clear hzc hzk hz hq hqy hno hlt
          go_wp2
          go_ret
          exact ⟨by rw [ht]; rfl, rfl⟩
        · have hzc : z ≠ c := by rintro rfl; have := HE.out.2.1; have := HE.out.2.2; exact hqy (by omega)
          have hnx : c ∉ ([33, 35, 36, 37, 38, 39, 42, 43, 45, 46, 94, 95, 124, 126] : List UInt8).take (k + 1) := by
            rw [List.take_succ_eq_append_getElem hlt, ← hzk]
            simp only [List.mem_append, List.mem_singleton, not_or]
            exact ⟨hno, fun e => hzc e.symm⟩
          have HN := Lib.hid hnx
          have hb : (q == y) = false := by simp; exact hqy
          clear hzc hzk hz hq hqy hno hlt hnx
          go_wp2
          exact ⟨⟨k + 1, by omega, by go_num, HN.out, trivial⟩, by simp [intOf]; omega⟩
      · obtain rfl : k = 14 := by omega
        have hf : r = (c.toNat == 96) := by rw [HE.out.1]; exact sym_not (by simpa using hno)
        have hb : (y == 96) = r := by
          rw [hf, HE.out.2.2, HE.out.2.1, Bool.eq_iff_iff]
          simp
          omega
        clear hno hf hlt
        go_wp2
        go_ret
        exact ⟨rfl, rfl⟩
  · have d0 : decide (((97 : Int)) ≤ y) = true := by simp; omega
    have d1 : decide (((65 : Int)) ≤ y) = true := by simp; omega
    have d2 : decide (((48 : Int)) ≤ y) = true := by simp; omega
    have d3 : decide (y ≤ 122) = true := by simp; omega
    have d4 : decide (y ≤ 90) = false := by simp; omega
    have d5 : decide (y ≤ 57) = false := by simp; omega
    have e : r = true := by rw [hr]; unfold tokN; simp; omega
    rw [e]
    clear e hr hy h hxl hx
    go_enter Tryd.func78, Tryd.ntmps78
    go_wp2
    go_ret
    exact ⟨rfl, rfl⟩
  · have d0 : decide (((97 : Int)) ≤ y) = true := by simp; omega
    have d1 : decide (((65 : Int)) ≤ y) = true := by simp; omega
    have d2 : decide (((48 : Int)) ≤ y) = true := by simp; omega
    have d3 : decide (y ≤ 122) = false := by simp; omega
    have d4 : decide (y ≤ 90) = false := by simp; omega
    have d5 : decide (y ≤ 57) = false := by simp; omega
    have e : r = tokSym c := by rw [hr]; unfold tokN tokSym; rw [← hx, Bool.eq_iff_iff]; simp; omega
    have HE := Lib.hid (And.intro e (And.intro hx hy))
    clear e hr h hxl hx hy
    go_enter Tryd.func78, Tryd.ntmps78
    go_wp2
    go_loopw [4] (fun v wr => ∃ k : Nat, k ≤ 14 ∧ v = .int .i64 k ∧ c ∉ (([33, 35, 36, 37, 38, 39, 42, 43, 45, 46, 94, 95, 124, 126] : List UInt8).take k) ∧ wr = w) (fun v _ => 14 - (intOf v).toNat)
    case atStart => exact ⟨0, by omega, rfl, by simp, rfl⟩
    case round =>
      obtain ⟨k, hk, rfl, hno, rfl⟩ := hrel
      by_cases hlt : k < 14
      · have hrun := fun W => run_sym k hlt W
        obtain ⟨z, hz⟩ : ∃ z, z = ([33, 35, 36, 37, 38, 39, 42, 43, 45, 46, 94, 95, 124, 126] : List UInt8).getD k 0 := ⟨_, rfl⟩
        rw [← hz] at hrun
        unfold bv at hrun
        obtain ⟨q, hq⟩ : ∃ q : Int, q = (z.toNat : Int) := ⟨_, rfl⟩
        rw [← hq] at hrun
        have hzk : z = ([33, 35, 36, 37, 38, 39, 42, 43, 45, 46, 94, 95, 124, 126] : List UInt8)[k]'hlt := by rw [hz, List.getD_eq_getElem?_getD, List.getElem?_eq_getElem hlt]; rfl
        have hki : (k : Int) < 14 := by omega
        have hk0 : (0 : Int) ≤ (k : Int) := by omega
        by_cases hqy : q = y
        · have hzc : z = c := UInt8.toNat_inj.1 (by have := HE.out.2.1; have := HE.out.2.2; omega)
          have ht : r = true := by rw [HE.out.1]; exact sym_yes (by rw [← hzc, hzk]; exact List.getElem_mem _)
          have hb : (q == y) = true := by simp; exact hqy
          clear hzc hzk hz hq hqy hno hlt
          go_wp2
          go_ret
          exact ⟨by rw [ht]; rfl, rfl⟩
        · have hzc : z ≠ c := by rintro rfl; have := HE.out.2.1; have := HE.out.2.2; exact hqy (by omega)
          have hnx : c ∉ ([33, 35, 36, 37, 38, 39, 42, 43, 45, 46, 94, 95, 124, 126] : List UInt8).take (k + 1) := by
            rw [List.take_succ_eq_append_getElem hlt, ← hzk]
            simp only [List.mem_append, List.mem_singleton, not_or]
            exact ⟨hno, fun e => hzc e.symm⟩
          have HN := Lib.hid hnx
          have hb : (q == y) = false := by simp; exact hqy
          clear hzc hzk hz hq hqy hno hlt hnx
          go_wp2
          exact ⟨⟨k + 1, by omega, by go_num, HN.out, trivial⟩, by simp [intOf]; omega⟩
      · obtain rfl : k = 14 := by omega
        have hf : r = (c.toNat == 96) := by rw [HE.out.1]; exact sym_not (by simpa using hno)
        have hb : (y == 96) = r := by
          rw [hf, HE.out.2.2, HE.out.2.1, Bool.eq_iff_iff]
          simp
          omega
        clear hno hf hlt
        go_wp2
        go_ret
        exact ⟨rfl, rfl⟩
end Go.Proofs.YtojemdggbcklkaaDoor.WireR
namespace Go.Proofs.YtojemdggbcklkaaDoor.WireR
open Go.RowKit Go.Proofs.YtojemdggbcklkaaDoor.Mem Go.Proofs.YtojemdggbcklkaaDoor.Wire Go.Proofs.YtojemdggbcklkaaDoor.Strs
set_option linter.unusedVariables false
set_option linter.unusedSimpArgs false
set_option maxRecDepth 4000

theorem all_step {p : UInt8 → Bool} {l : List UInt8} {k : Nat} (h : k < l.length) : (l.take (k + 1)).all p = ((l.take k).all p && p l[k]) := by
  rw [List.take_succ_eq_append_getElem h, List.all_append]
  simp
theorem all_not {p : UInt8 → Bool} {l : List UInt8} {k : Nat} (h : k < l.length) (hp : p l[k] = false) : l.all p = false := by
  cases h2 : l.all p with
  | false => rfl
  | true => rw [List.all_eq_true.1 h2 _ (List.getElem_mem h)] at hp; cases hp
set_option maxHeartbeats 2000000 in
theorem allOf_tok (l : List UInt8) (w : World) (hl : l.length ≤ 1073741824) :
    Calls Tryd.prog 50 #[.string ⟨l.toArray⟩, .func (.func 51) #[] #[]] w fun e w' => e = .returned (.bool (l.all tokB)) ∧ w = w' := by
  obtain ⟨n, hn⟩ : ∃ n, n = l.length := ⟨_, rfl⟩
  obtain ⟨s, hs⟩ : ∃ s, s = (⟨l.toArray⟩ : ByteArray) := ⟨_, rfl⟩
  have hsz : s.size = n := by rw [hs, hn]; simp [ByteArray.size]
  have hni : (n : Int) ≤ 1073741824 := by omega
  have HA := Lib.hid (And.intro hn hs)
  rw [← hs]
  clear hn hs hl
  go_enter Tryd.func50, Tryd.ntmps50
  go_wp2
  go_loopw [5] (fun v wr => ∃ k : Nat, k ≤ n ∧ v = .int .i64 k ∧ (l.take k).all tokB = true ∧ wr = w) (fun v _ => n - (intOf v).toNat)
  case atStart => exact ⟨0, by omega, rfl, rfl, rfl⟩
  case round =>
    obtain ⟨k, hk, rfl, hall, rfl⟩ := hrel
    by_cases hlt : k < n
    · have hka : k < l.length := by have := HA.out.1; omega
      obtain ⟨x, hx⟩ : ∃ x, x = l[k] := ⟨_, rfl⟩
      have hks : k < s.size := by omega
      have hsx : s[k] = x := by
        have : ∀ s' : ByteArray, s' = (⟨l.toArray⟩ : ByteArray) → ∀ h, s'[k]'h = l[k] := fun s' e h => by subst e; rfl
        rw [hx]; exact this s HA.out.2 hks
      have hst := all_step (p := tokB) hka
      have hno := all_not (p := tokB) hka
      rw [← hx] at hst hno
      rw [hall, Bool.true_and] at hst
      obtain ⟨b, hb⟩ : ∃ b, b = tokB x := ⟨_, rfl⟩
      have c1 := fun W => tokenByte_any x W
      rw [← hb] at c1 hst hno
      have C1 := Lib.hid c1
      have hki : (k : Int) < (n : Int) := by omega
      have hk0 : (0 : Int) ≤ (k : Int) := by omega
      have HS := Lib.hid (And.intro hst hno)
      clear hx hst hno hall c1 hb hlt hka
      cases b
      · go_wp2_with (first
          | (go_at_call 51; go_must (refine (C1.out _).mono ?_); rintro e w' ⟨rfl, rfl⟩))
        go_ret
        exact ⟨by rw [HS.out.2 trivial]; rfl, rfl⟩
      · go_wp2_with (first
          | (go_at_call 51; go_must (refine (C1.out _).mono ?_); rintro e w' ⟨rfl, rfl⟩))
        exact ⟨⟨k + 1, by omega, by go_num, HS.out.1, trivial⟩, by simp [intOf]; omega⟩
    · obtain rfl : k = n := by omega
      have hf : l.all tokB = true := by rw [List.take_of_length_le (by have := HA.out.1; omega)] at hall; exact hall
      have HF := Lib.hid hf
      clear hall hf hlt
      go_wp2
      go_ret
      exact ⟨by rw [HF.out]; rfl, rfl⟩
set_option maxHeartbeats 2000000 in
theorem allOf_val (l : List UInt8) (w : World) (hl : l.length ≤ 1073741824) :
    Calls Tryd.prog 50 #[.string ⟨l.toArray⟩, .func (.func 70) #[] #[]] w fun e w' => e = .returned (.bool (l.all valB)) ∧ w = w' := by
  obtain ⟨n, hn⟩ : ∃ n, n = l.length := ⟨_, rfl⟩
  obtain ⟨s, hs⟩ : ∃ s, s = (⟨l.toArray⟩ : ByteArray) := ⟨_, rfl⟩
  have hsz : s.size = n := by rw [hs, hn]; simp [ByteArray.size]
  have hni : (n : Int) ≤ 1073741824 := by omega
  have HA := Lib.hid (And.intro hn hs)
  rw [← hs]
  clear hn hs hl
  go_enter Tryd.func50, Tryd.ntmps50
  go_wp2
  go_loopw [5] (fun v wr => ∃ k : Nat, k ≤ n ∧ v = .int .i64 k ∧ (l.take k).all valB = true ∧ wr = w) (fun v _ => n - (intOf v).toNat)
  case atStart => exact ⟨0, by omega, rfl, rfl, rfl⟩
  case round =>
    obtain ⟨k, hk, rfl, hall, rfl⟩ := hrel
    by_cases hlt : k < n
    · have hka : k < l.length := by have := HA.out.1; omega
      obtain ⟨x, hx⟩ : ∃ x, x = l[k] := ⟨_, rfl⟩
      have hks : k < s.size := by omega
      have hsx : s[k] = x := by
        have : ∀ s' : ByteArray, s' = (⟨l.toArray⟩ : ByteArray) → ∀ h, s'[k]'h = l[k] := fun s' e h => by subst e; rfl
        rw [hx]; exact this s HA.out.2 hks
      have hst := all_step (p := valB) hka
      have hno := all_not (p := valB) hka
      rw [← hx] at hst hno
      rw [hall, Bool.true_and] at hst
      obtain ⟨b, hb⟩ : ∃ b, b = valB x := ⟨_, rfl⟩
      have c1 := fun W => valueByte_any x W
      rw [← hb] at c1 hst hno
      have C1 := Lib.hid c1
      have hki : (k : Int) < (n : Int) := by omega
      have hk0 : (0 : Int) ≤ (k : Int) := by omega
      have HS := Lib.hid (And.intro hst hno)
      clear hx hst hno hall c1 hb hlt hka
      cases b
      · go_wp2_with (first
          | (go_at_call 70; go_must (refine (C1.out _).mono ?_); rintro e w' ⟨rfl, rfl⟩))
        go_ret
        exact ⟨by rw [HS.out.2 trivial]; rfl, rfl⟩
      · go_wp2_with (first
          | (go_at_call 70; go_must (refine (C1.out _).mono ?_); rintro e w' ⟨rfl, rfl⟩))
        exact ⟨⟨k + 1, by omega, by go_num, HS.out.1, trivial⟩, by simp [intOf]; omega⟩
    · obtain rfl : k = n := by omega
      have hf : l.all valB = true := by rw [List.take_of_length_le (by have := HA.out.1; omega)] at hall; exact hall
      have HF := Lib.hid hf
      clear hall hf hlt
      go_wp2
      go_ret
      exact ⟨by rw [HF.out]; rfl, rfl⟩
set_option maxHeartbeats 2000000 in
theorem allOf_vis (l : List UInt8) (w : World) (hl : l.length ≤ 1073741824) :
    Calls Tryd.prog 50 #[.string ⟨l.toArray⟩, .func (.func 52) #[] #[]] w fun e w' => e = .returned (.bool (l.all visB)) ∧ w = w' := by
  obtain ⟨n, hn⟩ : ∃ n, n = l.length := ⟨_, rfl⟩
  obtain ⟨s, hs⟩ : ∃ s, s = (⟨l.toArray⟩ : ByteArray) := ⟨_, rfl⟩
  have hsz : s.size = n := by rw [hs, hn]; simp [ByteArray.size]
  have hni : (n : Int) ≤ 1073741824 := by omega
  have HA := Lib.hid (And.intro hn hs)
  rw [← hs]
  clear hn hs hl
  go_enter Tryd.func50, Tryd.ntmps50
  go_wp2
  go_loopw [5] (fun v wr => ∃ k : Nat, k ≤ n ∧ v = .int .i64 k ∧ (l.take k).all visB = true ∧ wr = w) (fun v _ => n - (intOf v).toNat)
  case atStart => exact ⟨0, by omega, rfl, rfl, rfl⟩
  case round =>
    obtain ⟨k, hk, rfl, hall, rfl⟩ := hrel
    by_cases hlt : k < n
    · have hka : k < l.length := by have := HA.out.1; omega
      obtain ⟨x, hx⟩ : ∃ x, x = l[k] := ⟨_, rfl⟩
      have hks : k < s.size := by omega
      have hsx : s[k] = x := by
        have : ∀ s' : ByteArray, s' = (⟨l.toArray⟩ : ByteArray) → ∀ h, s'[k]'h = l[k] := fun s' e h => by subst e; rfl
        rw [hx]; exact this s HA.out.2 hks
      have hst := all_step (p := visB) hka
      have hno := all_not (p := visB) hka
      rw [← hx] at hst hno
      rw [hall, Bool.true_and] at hst
      obtain ⟨b, hb⟩ : ∃ b, b = visB x := ⟨_, rfl⟩
      have c1 := fun W => visible_any x W
      rw [← hb] at c1 hst hno
      have C1 := Lib.hid c1
      have hki : (k : Int) < (n : Int) := by omega
      have hk0 : (0 : Int) ≤ (k : Int) := by omega
      have HS := Lib.hid (And.intro hst hno)
      clear hx hst hno hall c1 hb hlt hka
      cases b
      · go_wp2_with (first
          | (go_at_call 52; go_must (refine (C1.out _).mono ?_); rintro e w' ⟨rfl, rfl⟩))
        go_ret
        exact ⟨by rw [HS.out.2 trivial]; rfl, rfl⟩
      · go_wp2_with (first
          | (go_at_call 52; go_must (refine (C1.out _).mono ?_); rintro e w' ⟨rfl, rfl⟩))
        exact ⟨⟨k + 1, by omega, by go_num, HS.out.1, trivial⟩, by simp [intOf]; omega⟩
    · obtain rfl : k = n := by omega
      have hf : l.all visB = true := by rw [List.take_of_length_le (by have := HA.out.1; omega)] at hall; exact hall
      have HF := Lib.hid hf
      clear hall hf hlt
      go_wp2
      go_ret
      exact ⟨by rw [HF.out]; rfl, rfl⟩
set_option maxHeartbeats 2000000 in
theorem rvalue_any (l : List UInt8) (w : World) (hl : l.length ≤ 1073741824) :
    Calls Tryd.prog 79 #[.string ⟨l.toArray⟩] w fun e w' => e = .returned (.bool (l.all valB)) ∧ w = w' := by
  obtain ⟨n, hn⟩ : ∃ n, n = l.length := ⟨_, rfl⟩
  obtain ⟨s, hs⟩ : ∃ s, s = (⟨l.toArray⟩ : ByteArray) := ⟨_, rfl⟩
  have hsz : s.size = n := by rw [hs, hn]; simp [ByteArray.size]
  have hni : (n : Int) ≤ 1073741824 := by omega
  have HA := Lib.hid (And.intro hn hs)
  rw [← hs]
  clear hn hs hl
  go_enter Tryd.func79, Tryd.ntmps79
  go_wp2
  go_loopw [3] (fun v wr => ∃ k : Nat, k ≤ n ∧ v = .int .i64 k ∧ (l.take k).all valB = true ∧ wr = w) (fun v _ => n - (intOf v).toNat)
  case atStart => exact ⟨0, by omega, rfl, rfl, rfl⟩
  case round =>
    obtain ⟨k, hk, rfl, hall, rfl⟩ := hrel
    by_cases hlt : k < n
    · have hka : k < l.length := by have := HA.out.1; omega
      obtain ⟨x, hx⟩ : ∃ x, x = l[k] := ⟨_, rfl⟩
      have hks : k < s.size := by omega
      have hsx : s[k] = x := by
        have : ∀ s' : ByteArray, s' = (⟨l.toArray⟩ : ByteArray) → ∀ h, s'[k]'h = l[k] := fun s' e h => by subst e; rfl
        rw [hx]; exact this s HA.out.2 hks
      have hst := all_step (p := valB) hka
      have hno := all_not (p := valB) hka
      rw [← hx] at hst hno
      rw [hall, Bool.true_and] at hst
      obtain ⟨b, hb⟩ : ∃ b, b = valB x := ⟨_, rfl⟩
      have c1 := fun W => rvalueByte_any x W
      rw [← hb] at c1 hst hno
      have C1 := Lib.hid c1
      have hki : (k : Int) < (n : Int) := by omega
      have hk0 : (0 : Int) ≤ (k : Int) := by omega
      have HS := Lib.hid (And.intro hst hno)
      clear hx hst hno hall c1 hb hlt hka
      cases b
      · go_wp2_with (first
          | (go_at_call 96; go_must (refine (C1.out _).mono ?_); rintro e w' ⟨rfl, rfl⟩))
        go_ret
        exact ⟨by rw [HS.out.2 trivial]; rfl, rfl⟩
      · go_wp2_with (first
          | (go_at_call 96; go_must (refine (C1.out _).mono ?_); rintro e w' ⟨rfl, rfl⟩))
        exact ⟨⟨k + 1, by omega, by go_num, HS.out.1, trivial⟩, by simp [intOf]; omega⟩
    · obtain rfl : k = n := by omega
      have hf : l.all valB = true := by rw [List.take_of_length_le (by have := HA.out.1; omega)] at hall; exact hall
      have HF := Lib.hid hf
      clear hall hf hlt
      go_wp2
      go_ret
      exact ⟨by rw [HF.out]; rfl, rfl⟩
set_option maxHeartbeats 2000000 in
theorem rtoken_any (l : List UInt8) (w : World) (hl : l.length ≤ 1073741824) :
    Calls Tryd.prog 63 #[.string ⟨l.toArray⟩] w fun e w' => e = .returned (.bool ((l.all tokB && decide (l ≠ [])))) ∧ w = w' := by
  obtain ⟨n, hn⟩ : ∃ n, n = l.length := ⟨_, rfl⟩
  obtain ⟨s, hs⟩ : ∃ s, s = (⟨l.toArray⟩ : ByteArray) := ⟨_, rfl⟩
  have hsz : s.size = n := by rw [hs, hn]; simp [ByteArray.size]
  have hni : (n : Int) ≤ 1073741824 := by omega
  have HA := Lib.hid (And.intro hn hs)
  rw [← hs]
  clear hn hs hl
  go_enter Tryd.func63, Tryd.ntmps63
  go_wp2
  go_loopw [3] (fun v wr => ∃ k : Nat, k ≤ n ∧ v = .int .i64 k ∧ (l.take k).all tokB = true ∧ wr = w) (fun v _ => n - (intOf v).toNat)
  case atStart => exact ⟨0, by omega, rfl, rfl, rfl⟩
  case round =>
    obtain ⟨k, hk, rfl, hall, rfl⟩ := hrel
    by_cases hlt : k < n
    · have hka : k < l.length := by have := HA.out.1; omega
      obtain ⟨x, hx⟩ : ∃ x, x = l[k] := ⟨_, rfl⟩
      have hks : k < s.size := by omega
      have hsx : s[k] = x := by
        have : ∀ s' : ByteArray, s' = (⟨l.toArray⟩ : ByteArray) → ∀ h, s'[k]'h = l[k] := fun s' e h => by subst e; rfl
        rw [hx]; exact this s HA.out.2 hks
      have hst := all_step (p := tokB) hka
      have hno := all_not (p := tokB) hka
      rw [← hx] at hst hno
      rw [hall, Bool.true_and] at hst
      obtain ⟨b, hb⟩ : ∃ b, b = tokB x := ⟨_, rfl⟩
      have c1 := fun W => rtokenByte_any x W
      rw [← hb] at c1 hst hno
      have C1 := Lib.hid c1
      have hki : (k : Int) < (n : Int) := by omega
      have hk0 : (0 : Int) ≤ (k : Int) := by omega
      have HS := Lib.hid (And.intro hst hno)
      clear hx hst hno hall c1 hb hlt hka
      cases b
      · go_wp2_with (first
          | (go_at_call 78; go_must (refine (C1.out _).mono ?_); rintro e w' ⟨rfl, rfl⟩))
        go_ret
        exact ⟨by rw [HS.out.2 trivial]; rfl, rfl⟩
      · go_wp2_with (first
          | (go_at_call 78; go_must (refine (C1.out _).mono ?_); rintro e w' ⟨rfl, rfl⟩))
        exact ⟨⟨k + 1, by omega, by go_num, HS.out.1, trivial⟩, by simp [intOf]; omega⟩
    · obtain rfl : k = n := by omega
      have hf : l.all tokB = true := by rw [List.take_of_length_le (by have := HA.out.1; omega)] at hall; exact hall
      have HF := Lib.hid hf
      clear hall hf hlt
      obtain ⟨b, hb⟩ : ∃ b, b = decide (l ≠ []) := ⟨_, rfl⟩
      have hne : (!s.toList.isEmpty) = b := by
        rw [HA.out.2, hb, ByteArray.toList_eq]
        cases l <;> simp
      have HB := Lib.hid hb
      clear hb
      go_wp2
      go_ret
      exact ⟨by rw [HF.out, ← HB.out]; rfl, rfl⟩
end Go.Proofs.YtojemdggbcklkaaDoor.WireR
