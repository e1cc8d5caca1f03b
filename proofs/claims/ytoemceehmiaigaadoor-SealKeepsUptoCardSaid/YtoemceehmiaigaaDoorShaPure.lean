/- SHA-256 in plain words: the block step, the whole digest. No program. -/
import Derived.Test.YtoemceehmiaigaaDoorMem
import Derived.Laws.BitsAllLaws
namespace Go.Proofs.YtoemceehmiaigaaDoor.Sha
open Go.RowKit Go.Proofs.YtoemceehmiaigaaDoor.Mem
set_option linter.unusedVariables false

abbrev w32 (x : UInt32) : Value := .int .u32 (x.toNat : Int)

def rotr (x : UInt32) (n : Nat) : UInt32 := UInt32.ofNat ((x.toNat / 2 ^ n) ||| (x.toNat * 2 ^ (32 - n) % 4294967296))

theorem add32 (x y : UInt32) : IntKind.u32.wrap ((x.toNat : Int) + (y.toNat : Int)) = ((x + y).toNat : Int) := by
  rw [IntKind.wrap_u32', UInt32.toNat_add]; omega
theorem xor32 (x y : UInt32) : bits .xor .u32 (x.toNat : Int) (y.toNat : Int) = ((x ^^^ y).toNat : Int) := by
  rw [u32_xor_nat _ _ x.toNat_lt y.toNat_lt, UInt32.toNat_xor]
theorem and32 (x y : UInt32) : bits .and .u32 (x.toNat : Int) (y.toNat : Int) = ((x &&& y).toNat : Int) := by
  rw [u32_and_nat _ _ x.toNat_lt y.toNat_lt, UInt32.toNat_and]
theorem or32 (x y : UInt32) : bits .or .u32 (x.toNat : Int) (y.toNat : Int) = ((x ||| y).toNat : Int) := by
  rw [u32_or_nat _ _ x.toNat_lt y.toNat_lt, UInt32.toNat_or]
theorem shr3 (x : UInt32) : (x.toNat : Int) / (8 : Int) = ((x >>> 3).toNat : Int) := by
  rw [UInt32.toNat_shiftRight]; simp [Nat.shiftRight_eq_div_pow]
theorem shr10 (x : UInt32) : (x.toNat : Int) / (1024 : Int) = ((x >>> 10).toNat : Int) := by
  rw [UInt32.toNat_shiftRight]; simp [Nat.shiftRight_eq_div_pow]

def rots : List Nat := [2, 6, 7, 11, 13, 17, 18, 19, 22, 25]
theorem rotr_nat (x : UInt32) (n : Nat) (h : n < 32) : (rotr x n).toNat = (x.toNat / 2 ^ n) ||| (x.toNat * 2 ^ (32 - n) % 4294967296) := by
  unfold rotr
  rw [UInt32.toNat_ofNat']
  have h1 : x.toNat / 2 ^ n < 2 ^ 32 := Nat.lt_of_le_of_lt (Nat.div_le_self _ _) x.toNat_lt
  have h2 : x.toNat * 2 ^ (32 - n) % 4294967296 < 2 ^ 32 := Nat.mod_lt _ (by omega)
  exact Nat.mod_eq_of_lt (Nat.or_lt_two_pow h1 h2)
end Go.Proofs.YtoemceehmiaigaaDoor.Sha
