/- SHA-256's block step in plain words. No program. -/
import Derived.Test.YtoemceehmiaigaaDoorShaPure
import Derived.Test.YtoemceehmiaigaaDoorArr
namespace Go.Proofs.YtoemceehmiaigaaDoor.Sha
open Go.RowKit Go.Proofs.YtoemceehmiaigaaDoor.Mem
set_option linter.unusedVariables false

structure S8 where
  a : UInt32
  b : UInt32
  c : UInt32
  d : UInt32
  e : UInt32
  f : UInt32
  g : UInt32
  h : UInt32
deriving DecidableEq, Inhabited

def S8.at_ (s : S8) : Nat → UInt32
  | 0 => s.a | 1 => s.b | 2 => s.c | 3 => s.d | 4 => s.e | 5 => s.f | 6 => s.g | _ => s.h
def S8.cells (s : S8) : List Value := [w32 s.a, w32 s.b, w32 s.c, w32 s.d, w32 s.e, w32 s.f, w32 s.g, w32 s.h]
def S8.add (s t : S8) : S8 := ⟨s.a + t.a, s.b + t.b, s.c + t.c, s.d + t.d, s.e + t.e, s.f + t.f, s.g + t.g, s.h + t.h⟩

def sig0 (x : UInt32) : UInt32 := rotr x 7 ^^^ rotr x 18 ^^^ x >>> 3
def sig1 (x : UInt32) : UInt32 := rotr x 17 ^^^ rotr x 19 ^^^ x >>> 10
def bs0 (x : UInt32) : UInt32 := rotr x 2 ^^^ rotr x 13 ^^^ rotr x 22
def bs1 (x : UInt32) : UInt32 := rotr x 6 ^^^ rotr x 11 ^^^ rotr x 25
def ch (e f g : UInt32) : UInt32 := (e &&& f) ^^^ (~~~e &&& g)
def maj (a b c : UInt32) : UInt32 := (a &&& b) ^^^ (a &&& c) ^^^ (b &&& c)
def t1 (s : S8) (k w : UInt32) : UInt32 := s.h + bs1 s.e + ch s.e s.f s.g + k + w
def t2 (s : S8) : UInt32 := bs0 s.a + maj s.a s.b s.c
def rnd (s : S8) (k w : UInt32) : S8 := ⟨t1 s k w + t2 s, s.a, s.b, s.c, s.d + t1 s k w, s.e, s.f, s.g⟩
def runs (K W : Nat → UInt32) (s : S8) : Nat → S8
  | 0 => s
  | n + 1 => rnd (runs K W s n) (K n) (W n)
def W (m : Nat → UInt32) (i : Nat) : UInt32 :=
  if h : i < 16 then m i else W m (i - 16) + sig0 (W m (i - 15)) + W m (i - 7) + sig1 (W m (i - 2))
termination_by i
decreasing_by all_goals omega

def be4 (a b c d : UInt8) : UInt32 := (a.toUInt32 <<< 24) ||| (b.toUInt32 <<< 16) ||| (c.toUInt32 <<< 8) ||| d.toUInt32
def wordAt (b : List UInt8) (p i : Nat) : UInt32 := be4 (b.getD (p + 4 * i) 0) (b.getD (p + 4 * i + 1) 0) (b.getD (p + 4 * i + 2) 0) (b.getD (p + 4 * i + 3) 0)

theorem shl24 (x : UInt8) : (x.toNat : Int) * 16777216 % 4294967296 = ((x.toUInt32 <<< 24).toNat : Int) := by
  have h : (x.toUInt32 <<< (24 : UInt32)).toNat = x.toNat * 16777216 % 4294967296 := by simp [UInt32.toNat_shiftLeft, Nat.shiftLeft_eq]
  rw [h, Int.natCast_emod, Int.natCast_mul]
theorem shl16 (x : UInt8) : (x.toNat : Int) * 65536 % 4294967296 = ((x.toUInt32 <<< 16).toNat : Int) := by
  have h : (x.toUInt32 <<< (16 : UInt32)).toNat = x.toNat * 65536 % 4294967296 := by simp [UInt32.toNat_shiftLeft, Nat.shiftLeft_eq]
  rw [h, Int.natCast_emod, Int.natCast_mul]
theorem shl8 (x : UInt8) : (x.toNat : Int) * 256 % 4294967296 = ((x.toUInt32 <<< 8).toNat : Int) := by
  have h : (x.toUInt32 <<< (8 : UInt32)).toNat = x.toNat * 256 % 4294967296 := by simp [UInt32.toNat_shiftLeft, Nat.shiftLeft_eq]
  rw [h, Int.natCast_emod, Int.natCast_mul]
theorem wu (x : UInt8) : IntKind.u32.wrap (x.toNat : Int) = (x.toUInt32.toNat : Int) := by
  have := x.toNat_lt
  rw [IntKind.wrap_u32']; simp; omega
theorem shlw24 (x : UInt32) : IntKind.u32.wrap ((x.toNat : Int) * 16777216) = ((x <<< 24).toNat : Int) := by
  have h : (x <<< (24 : UInt32)).toNat = x.toNat * 16777216 % 4294967296 := by simp [UInt32.toNat_shiftLeft, Nat.shiftLeft_eq]
  rw [h, IntKind.wrap_u32', Int.natCast_emod, Int.natCast_mul]; rfl
theorem shlw16 (x : UInt32) : IntKind.u32.wrap ((x.toNat : Int) * 65536) = ((x <<< 16).toNat : Int) := by
  have h : (x <<< (16 : UInt32)).toNat = x.toNat * 65536 % 4294967296 := by simp [UInt32.toNat_shiftLeft, Nat.shiftLeft_eq]
  rw [h, IntKind.wrap_u32', Int.natCast_emod, Int.natCast_mul]; rfl
theorem shlw8 (x : UInt32) : IntKind.u32.wrap ((x.toNat : Int) * 256) = ((x <<< 8).toNat : Int) := by
  have h : (x <<< (8 : UInt32)).toNat = x.toNat * 256 % 4294967296 := by simp [UInt32.toNat_shiftLeft, Nat.shiftLeft_eq]
  rw [h, IntKind.wrap_u32', Int.natCast_emod, Int.natCast_mul]; rfl
theorem W_of (m : Nat → UInt32) (i : Nat) (h : 16 ≤ i) : W m i = W m (i - 16) + (rotr (W m (i - 15)) 7 ^^^ rotr (W m (i - 15)) 18 ^^^ W m (i - 15) >>> 3) + W m (i - 7) + (rotr (W m (i - 2)) 17 ^^^ rotr (W m (i - 2)) 19 ^^^ W m (i - 2) >>> 10) := by
  rw [W, dif_neg (by omega)]; rfl
theorem W_lo (m : Nat → UInt32) (i : Nat) (h : i < 16) : W m i = m i := by rw [W, dif_pos h]
theorem notw32 (x : UInt32) : bits .xor .u32 (if IntKind.u32.signed = true then -1 else IntKind.u32.max) (x.toNat : Int) = ((~~~x).toNat : Int) := by
  have e : (if IntKind.u32.signed = true then (-1 : Int) else IntKind.u32.max) = ((4294967295 : Nat) : Int) := by decide
  rw [e, u32_xor_nat _ _ (by decide) x.toNat_lt]
  have h : 4294967295 ^^^ x.toNat = (BitVec.allOnes 32 ^^^ x.toBitVec).toNat := by rw [BitVec.toNat_xor]; rfl
  rw [h, BitVec.allOnes_xor]
  rfl
theorem up32 (x : UInt8) : (x.toNat : Int) = (x.toUInt32.toNat : Int) := by simp
theorem not32 (x : UInt32) : 4294967295 - (x.toNat : Int) = ((~~~x).toNat : Int) := by
  have := x.toNat_lt
  rw [UInt32.toNat_not]; simp [UInt32.size]; omega

def Ks : List UInt32 := [
  0x428a2f98, 0x71374491, 0xb5c0fbcf, 0xe9b5dba5, 0x3956c25b, 0x59f111f1, 0x923f82a4, 0xab1c5ed5,
  0xd807aa98, 0x12835b01, 0x243185be, 0x550c7dc3, 0x72be5d74, 0x80deb1fe, 0x9bdc06a7, 0xc19bf174,
  0xe49b69c1, 0xefbe4786, 0x0fc19dc6, 0x240ca1cc, 0x2de92c6f, 0x4a7484aa, 0x5cb0a9dc, 0x76f988da,
  0x983e5152, 0xa831c66d, 0xb00327c8, 0xbf597fc7, 0xc6e00bf3, 0xd5a79147, 0x06ca6351, 0x14292967,
  0x27b70a85, 0x2e1b2138, 0x4d2c6dfc, 0x53380d13, 0x650a7354, 0x766a0abb, 0x81c2c92e, 0x92722c85,
  0xa2bfe8a1, 0xa81a664b, 0xc24b8b70, 0xc76c51a3, 0xd192e819, 0xd6990624, 0xf40e3585, 0x106aa070,
  0x19a4c116, 0x1e376c08, 0x2748774c, 0x34b0bcb5, 0x391c0cb3, 0x4ed8aa4a, 0x5b9cca4f, 0x682e6ff3,
  0x748f82ee, 0x78a5636f, 0x84c87814, 0x8cc70208, 0x90befffa, 0xa4506ceb, 0xbef9a3f7, 0xc67178f2]
def K (i : Nat) : UInt32 := Ks.getD i 0
def start : S8 := ⟨0x6a09e667, 0xbb67ae85, 0x3c6ef372, 0xa54ff53a, 0x510e527f, 0x9b05688c, 0x1f83d9ab, 0x5be0cd19⟩
def zero8 : S8 := ⟨0, 0, 0, 0, 0, 0, 0, 0⟩

def blockf (s : S8) (b : List UInt8) (p : Nat) : S8 := s.add (runs K (W (wordAt b p)) s 64)

/-- an array that is filled up to i -/
def mix (f g : Nat → UInt32) (i n : Nat) : List Value := (List.range n).map fun j => w32 (if j < i then f j else g j)
theorem mix_length (f g : Nat → UInt32) (i n : Nat) : (mix f g i n).length = n := by simp [mix]
theorem mix_get (f g : Nat → UInt32) (i n j : Nat) (h : j < n) : (mix f g i n)[j]? = some (w32 (if j < i then f j else g j)) := by
  simp [mix, h]
theorem mix_lo (f g : Nat → UInt32) (i n j : Nat) (h : j < i) (hn : j < n) : (mix f g i n)[j]? = some (w32 (f j)) := by rw [mix_get _ _ _ _ _ hn, if_pos h]
theorem mix_hi (f g : Nat → UInt32) (i n j : Nat) (h : i ≤ j) (hn : j < n) : (mix f g i n)[j]? = some (w32 (g j)) := by rw [mix_get _ _ _ _ _ hn, if_neg (by omega)]
theorem mix_set (f g : Nat → UInt32) (i n : Nat) (v : Value) (hv : v = w32 (f i)) : (mix f g i n).set i v = mix f g (i + 1) n := by
  apply List.ext_getElem?
  intro j
  by_cases hj : j < n
  · rw [mix_get _ _ _ _ _ hj, List.getElem?_set]
    by_cases e : i = j
    · subst e; simp [mix_length, hj, hv]
    · rw [if_neg e, mix_get _ _ _ _ _ hj]
      by_cases h1 : j < i
      · rw [if_pos h1, if_pos (by omega)]
      · rw [if_neg h1, if_neg (by omega)]
  · rw [List.getElem?_eq_none (by simp [mix_length]; omega), List.getElem?_eq_none (by simp [mix_length]; omega)]
def col (f : Nat → UInt32) (n : Nat) : List Value := (List.range n).map fun j => w32 (f j)
theorem mix_full (f g : Nat → UInt32) (n : Nat) : mix f g n n = col f n := by
  unfold mix col
  apply List.map_congr_left
  intro j hj
  simp at hj
  rw [if_pos hj]
theorem mix_W (m g : Nat → UInt32) (n : Nat) : mix m g 16 n = mix (W m) g 16 n := by
  unfold mix
  apply List.map_congr_left
  intro j _
  by_cases h : j < 16
  · rw [if_pos h, if_pos h, W_lo m j h]
  · rw [if_neg h, if_neg h]
theorem mix_none (f g : Nat → UInt32) (n : Nat) : mix f g 0 n = col g n := by simp [mix, col]
theorem col_length (f : Nat → UInt32) (n : Nat) : (col f n).length = n := by simp [col]
theorem col_get (f : Nat → UInt32) (n j : Nat) (h : j < n) : (col f n)[j]? = some (w32 (f j)) := by simp [col, h]
theorem col_one (f : Nat → UInt32) (n : Nat) : ∀ v ∈ col f n, v.oneCell' = true := by
  intro v hv
  obtain ⟨j, _, rfl⟩ := List.mem_map.1 hv
  rfl
theorem col8 (s : S8) : col s.at_ 8 = s.cells := rfl
theorem cells_length (s : S8) : s.cells.length = 8 := rfl
theorem cells_one (s : S8) : ∀ v ∈ s.cells, v.oneCell' = true := by rw [← col8]; exact col_one _ _
theorem add_at (s t : S8) : col (fun j => s.at_ j + t.at_ j) 8 = (s.add t).cells := rfl
theorem S8.add_comm (s t : S8) : s.add t = t.add s := by simp [S8.add, UInt32.add_comm]
end Go.Proofs.YtoemceehmiaigaaDoor.Sha
