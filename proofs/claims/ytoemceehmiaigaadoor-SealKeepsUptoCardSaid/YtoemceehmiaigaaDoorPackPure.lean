/- A claim's payload in plain words: a number in eight bytes, the first the greatest, and a text. No program. -/
import Derived.Test.YtoemceehmiaigaaDoorSealBits
namespace Go.Proofs.YtoemceehmiaigaaDoor.Seal

def bes : Nat → Nat → List UInt8
  | 0, _ => []
  | k + 1, X => bes k (X / 256) ++ [byt (X % 256)]
def num (l : List UInt8) : Nat := l.foldl (fun n c => n * 256 + c.toNat) 0
theorem bes_length (k X : Nat) : (bes k X).length = k := by
  induction k generalizing X with
  | zero => rfl
  | succ k ih => simp [bes, ih]
theorem num_snoc (l : List UInt8) (c : UInt8) : num (l ++ [c]) = num l * 256 + c.toNat := by simp [num]
theorem num_bes (k X : Nat) : num (bes k X) = X % 256 ^ k := by
  induction k generalizing X with
  | zero => simp [bes, num, Nat.mod_one]
  | succ k ih =>
    rw [bes, num_snoc, ih, byteN (Nat.mod_lt _ (by omega)), Nat.pow_succ, Nat.mul_comm (256 ^ k) 256, Nat.mod_mul]
    omega
theorem bes_num : ∀ (k : Nat) (l : List UInt8), l.length = k → bes k (num l) = l
  | 0, l, h => by
    have := List.eq_nil_of_length_eq_zero h
    subst this
    rfl
  | k + 1, l, h => by
    have hne : l ≠ [] := by intro e; subst e; simp at h
    obtain ⟨r, c, rfl⟩ : ∃ r c, l = r ++ [c] := ⟨l.dropLast, l.getLast hne, (List.dropLast_concat_getLast hne).symm⟩
    have hr : r.length = k := by simpa using h
    have hc := c.toNat_lt
    rw [num_snoc, bes, show (num r * 256 + c.toNat) / 256 = num r by omega, bes_num k r hr, ofNat_toNat' c (by omega)]
theorem num_lt (l : List UInt8) : num l < 256 ^ l.length := by
  have h := bes_num l.length l rfl
  have h2 := num_bes l.length (num l)
  rw [h] at h2
  rw [h2]
  exact Nat.mod_lt _ (Nat.pow_pos (by omega))
theorem bes_get (k X : Nat) : ∀ i, i < k → (bes k X)[i]? = some (byt (X / 256 ^ (k - 1 - i) % 256)) := by
  induction k generalizing X with
  | zero => intro i h; omega
  | succ k ih =>
    intro i h
    rw [bes]
    by_cases hi : i < k
    · rw [List.getElem?_append_left (by rw [bes_length]; exact hi), ih (X / 256) i hi, Nat.div_div_eq_div_mul, show k + 1 - 1 - i = (k - 1 - i) + 1 by omega, Nat.pow_succ, Nat.mul_comm 256]
    · obtain rfl : i = k := by omega
      rw [List.getElem?_append_right (by rw [bes_length]; exact Nat.le_refl _), bes_length]
      simp

/-- int64 <-> uint64 -/
def toU (z : Int) : Nat := (z % 18446744073709551616).toNat
def toI (n : Nat) : Int := if n < 9223372036854775808 then (n : Int) else (n : Int) - 18446744073709551616
theorem toU_lt (z : Int) : toU z < 18446744073709551616 := by unfold toU; omega
theorem toI_toU {z : Int} (h : -9223372036854775808 ≤ z ∧ z ≤ 9223372036854775807) : toI (toU z) = z := by
  unfold toI toU
  split <;> omega
theorem toU_toI {n : Nat} (h : n < 18446744073709551616) : toU (toI n) = n := by
  unfold toI toU
  split <;> omega
theorem toI_wf (n : Nat) (h : n < 18446744073709551616) : -9223372036854775808 ≤ toI n ∧ toI n ≤ 9223372036854775807 := by
  unfold toI
  split <;> omega

def pack (z : Int) (p : List UInt8) : List UInt8 := bes 8 (toU z) ++ p
def unE (b : List UInt8) : Int := if b.length < 8 then 53 else if 1032 < b.length then 1 else 0
def unZ (b : List UInt8) : Int := if b.length < 8 then 0 else if 1032 < b.length then 0 else toI (num (b.take 8))
def unP (b : List UInt8) : List UInt8 := if b.length < 8 then [] else if 1032 < b.length then [] else b.drop 8
theorem pack_length (z : Int) (p : List UInt8) : (pack z p).length = 8 + p.length := by simp [pack, bes_length]
theorem un_pack (z : Int) (p : List UInt8) (hz : -9223372036854775808 ≤ z ∧ z ≤ 9223372036854775807) (hp : p.length ≤ 1024) : unE (pack z p) = 0 ∧ unZ (pack z p) = z ∧ unP (pack z p) = p := by
  have hl := pack_length z p
  unfold unE unZ unP
  rw [if_neg (by omega), if_neg (by omega), if_neg (by omega), if_neg (by omega), if_neg (by omega), if_neg (by omega)]
  refine ⟨rfl, ?_, ?_⟩
  · unfold pack
    rw [List.take_left' (by rw [bes_length]), num_bes, Nat.mod_eq_of_lt (by have := toU_lt z; omega), toI_toU hz]
  · unfold pack
    rw [List.drop_left' (by rw [bes_length])]
theorem pack_un (b : List UInt8) (h1 : 8 ≤ b.length) (h2 : b.length ≤ 1032) : pack (unZ b) (unP b) = b := by
  unfold unZ unP
  rw [if_neg (by omega), if_neg (by omega), if_neg (by omega), if_neg (by omega)]
  unfold pack
  have hl : (b.take 8).length = 8 := by rw [List.length_take]; omega
  have hn := num_lt (b.take 8)
  rw [hl] at hn
  rw [toU_toI (by omega), bes_num 8 _ hl, List.take_append_drop]
end Go.Proofs.YtoemceehmiaigaaDoor.Seal
