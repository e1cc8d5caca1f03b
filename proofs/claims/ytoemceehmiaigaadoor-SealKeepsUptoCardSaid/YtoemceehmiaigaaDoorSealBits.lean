/- base64url: the bytes that the reference's Decode builds bit by bit. No program. -/
import Derived.Test.YtoemceehmiaigaaDoorMem

/- base64url in plain words: letters, texts and bytes, there and back; bit by bit. No program. -/
namespace Go.Proofs.YtoemceehmiaigaaDoor.Seal
set_option maxRecDepth 10000

def ltrN (v : Nat) : Nat := if v < 26 then 65 + v else if v < 52 then 97 + v - 26 else if v < 62 then 48 + v - 52 else if v = 62 then 45 else 95
def ltr (v : Nat) : UInt8 := UInt8.ofNat (ltrN v)
def valN (c : Nat) : Nat := if 65 ≤ c ∧ c ≤ 90 then c - 65 else if 97 ≤ c ∧ c ≤ 122 then c - 97 + 26 else if 48 ≤ c ∧ c ≤ 57 then c - 48 + 52 else if c = 45 then 62 else if c = 95 then 63 else 64
def val (c : UInt8) : Nat := valN c.toNat
theorem below {n : Nat} {f : Nat → Bool} (h : ((List.range n).all f) = true) {a : Nat} (ha : a < n) : f a = true := List.all_eq_true.1 h a (List.mem_range.2 ha)
theorem ltrN_lt (v : Nat) (h : v < 64) : ltrN v < 256 := by
  have : ((List.range 64).all fun v => decide (ltrN v < 256)) = true := by decide +kernel
  simpa using below this h
theorem ltr_toNat {v : Nat} (h : v < 64) : (ltr v).toNat = ltrN v := by unfold ltr; rw [UInt8.toNat_ofNat']; exact Nat.mod_eq_of_lt (ltrN_lt v h)
theorem val_ltr {v : Nat} (h : v < 64) : val (ltr v) = v := by
  unfold val
  rw [ltr_toNat h]
  have : ((List.range 64).all fun v => decide (valN (ltrN v) = v)) = true := by decide +kernel
  simpa using below this h
theorem valN_le (c : Nat) (h : c < 256) : valN c ≤ 64 := by
  have : ((List.range 256).all fun c => decide (valN c ≤ 64)) = true := by decide +kernel
  simpa using below this h
theorem val_le (c : UInt8) : val c ≤ 64 := valN_le _ c.toNat_lt
theorem ltr_val {c : UInt8} (h : val c < 64) : ltr (val c) = c := by
  have : ((List.range 256).all fun c => decide (64 ≤ valN c) || decide (ltrN (valN c) = c)) = true := by decide +kernel
  have key := below this c.toNat_lt
  simp only [Bool.or_eq_true, decide_eq_true_eq] at key
  have h' : valN c.toNat < 64 := h
  have key : ltrN (val c) = c.toNat := by
    rcases key with k | k
    · omega
    · exact k
  unfold ltr
  rw [key]
  simp

/-- the letters of a list, 2 * t bits of a number h still pending -/
def encGo : Nat → Nat → List UInt8 → List UInt8
  | t, h, [] => if t = 0 then [] else if t = 1 then [ltr (h * 16)] else [ltr (h * 4)]
  | t, h, c :: r => if t = 0 then ltr ((h * 256 + c.toNat) / 4) :: encGo 1 ((h * 256 + c.toNat) % 4) r
    else if t = 1 then ltr ((h * 256 + c.toNat) / 16) :: encGo 2 ((h * 256 + c.toNat) % 16) r
    else ltr ((h * 256 + c.toNat) / 64) :: ltr ((h * 256 + c.toNat) % 64) :: encGo 0 0 r
def enc (l : List UInt8) : List UInt8 := encGo 0 0 l

/-- a byte of a number -/
def byt (n : Nat) : UInt8 := UInt8.ofNat n
/-- the bytes of a text, t letters of a group read, of which h is left -/
def decGo : Nat → Nat → List UInt8 → Option (List UInt8)
  | t, h, [] => if t = 1 then none else if h = 0 then some [] else none
  | t, h, c :: r => if val c = 64 then none
    else if t = 0 then decGo 1 (h * 64 + val c) r
    else if t = 1 then (decGo 2 ((h * 64 + val c) % 16) r).map (byt ((h * 64 + val c) / 16) :: ·)
    else if t = 2 then (decGo 3 ((h * 64 + val c) % 4) r).map (byt ((h * 64 + val c) / 4) :: ·)
    else (decGo 0 0 r).map (byt (h * 64 + val c) :: ·)
def dec (s : List UInt8) : Option (List UInt8) := decGo 0 0 s

theorem dec_short : ∀ (s : List UInt8) (t h : Nat), t < 4 → (t + s.length) % 4 = 1 → decGo t h s = none
  | [], t, h, ht, hs => by
    have : t = 1 := by simp at hs; omega
    simp [decGo, this]
  | c :: r, t, h, ht, hs => by
    simp only [List.length_cons] at hs
    rw [decGo]
    by_cases hv : val c = 64
    · rw [if_pos hv]
    · rw [if_neg hv]
      have ht' : t = 0 ∨ t = 1 ∨ t = 2 ∨ t = 3 := by omega
      rcases ht' with rfl | rfl | rfl | rfl
      · simp [dec_short r 1 _ (by omega) (by omega)]
      · simp [dec_short r 2 _ (by omega) (by omega)]
      · simp [dec_short r 3 _ (by omega) (by omega)]
      · simp [dec_short r 0 _ (by omega) (by omega)]

theorem enc3 (a b c : UInt8) (r : List UInt8) : enc (a :: b :: c :: r) = ltr (a.toNat / 4) :: ltr ((a.toNat % 4 * 256 + b.toNat) / 16) :: ltr (((a.toNat % 4 * 256 + b.toNat) % 16 * 256 + c.toNat) / 64) :: ltr (((a.toNat % 4 * 256 + b.toNat) % 16 * 256 + c.toNat) % 64) :: enc r := by
  simp [enc, encGo]
theorem enc2 (a b : UInt8) : enc [a, b] = [ltr (a.toNat / 4), ltr ((a.toNat % 4 * 256 + b.toNat) / 16), ltr ((a.toNat % 4 * 256 + b.toNat) % 16 * 4)] := by simp [enc, encGo]
theorem enc1 (a : UInt8) : enc [a] = [ltr (a.toNat / 4), ltr (a.toNat % 4 * 16)] := by simp [enc, encGo]
theorem ofNat_toNat' (a : UInt8) {n : Nat} (h : n = a.toNat) : byt n = a := by subst h; simp [byt]

theorem dec_enc : ∀ l : List UInt8, dec (enc l) = some l
  | [] => by simp [enc, encGo, dec, decGo]
  | [a] => by
    have ha := a.toNat_lt
    rw [enc1]
    have v1 := val_ltr (v := a.toNat / 4) (by omega)
    have v2 := val_ltr (v := a.toNat % 4 * 16) (by omega)
    have n1 : ¬ a.toNat / 4 = 64 := by omega
    have n2 : ¬ a.toNat % 4 * 16 = 64 := by omega
    have n3 : (a.toNat / 4 * 64 + a.toNat % 4 * 16) % 16 = 0 := by omega
    have n4 := ofNat_toNat' a (n := (a.toNat / 4 * 64 + a.toNat % 4 * 16) / 16) (by omega)
    simp [dec, decGo, v1, v2, n1, n2, n3, n4]
  | [a, b] => by
    have ha := a.toNat_lt
    have hb := b.toNat_lt
    rw [enc2]
    obtain ⟨x, hx⟩ : ∃ x, x = (a.toNat % 4 * 256 + b.toNat) / 16 := ⟨_, rfl⟩
    obtain ⟨y, hy⟩ : ∃ y, y = (a.toNat % 4 * 256 + b.toNat) % 16 * 4 := ⟨_, rfl⟩
    rw [← hx, ← hy]
    have v1 := val_ltr (v := a.toNat / 4) (by omega)
    have v2 := val_ltr (v := x) (by omega)
    have v3 := val_ltr (v := y) (by omega)
    have n1 : ¬ a.toNat / 4 = 64 := by omega
    have n2 : ¬ x = 64 := by omega
    have n3 : ¬ y = 64 := by omega
    have n4 := ofNat_toNat' a (n := (a.toNat / 4 * 64 + x) / 16) (by omega)
    have n5 := ofNat_toNat' b (n := ((a.toNat / 4 * 64 + x) % 16 * 64 + y) / 4) (by omega)
    have n6 : ((a.toNat / 4 * 64 + x) % 16 * 64 + y) % 4 = 0 := by omega
    simp [dec, decGo, v1, v2, v3, n1, n2, n3, n4, n5, n6]
  | a :: b :: c :: r => by
    have ha := a.toNat_lt
    have hb := b.toNat_lt
    have hc := c.toNat_lt
    have ih := dec_enc r
    rw [enc3]
    obtain ⟨x, hx⟩ : ∃ x, x = (a.toNat % 4 * 256 + b.toNat) / 16 := ⟨_, rfl⟩
    obtain ⟨y, hy⟩ : ∃ y, y = ((a.toNat % 4 * 256 + b.toNat) % 16 * 256 + c.toNat) / 64 := ⟨_, rfl⟩
    obtain ⟨z, hz⟩ : ∃ z, z = ((a.toNat % 4 * 256 + b.toNat) % 16 * 256 + c.toNat) % 64 := ⟨_, rfl⟩
    rw [← hx, ← hy, ← hz]
    have v1 := val_ltr (v := a.toNat / 4) (by omega)
    have v2 := val_ltr (v := x) (by omega)
    have v3 := val_ltr (v := y) (by omega)
    have v4 := val_ltr (v := z) (by omega)
    have n1 : ¬ a.toNat / 4 = 64 := by omega
    have n2 : ¬ x = 64 := by omega
    have n3 : ¬ y = 64 := by omega
    have n4 : ¬ z = 64 := by omega
    have m1 := ofNat_toNat' a (n := (a.toNat / 4 * 64 + x) / 16) (by omega)
    have m2 := ofNat_toNat' b (n := ((a.toNat / 4 * 64 + x) % 16 * 64 + y) / 4) (by omega)
    have m3 := ofNat_toNat' c (n := ((a.toNat / 4 * 64 + x) % 16 * 64 + y) % 4 * 64 + z) (by omega)
    unfold dec at ih ⊢
    simp [decGo, v1, v2, v3, v4, n1, n2, n3, n4, m1, m2, m3, ih]

theorem byteN {n : Nat} (h : n < 256) : (byt n).toNat = n := by unfold byt; rw [UInt8.toNat_ofNat']; exact Nat.mod_eq_of_lt h
theorem enc_dec : ∀ (s d : List UInt8), dec s = some d → enc d = s
  | [], d, h => by
    simp [dec, decGo] at h
    subst h
    rfl
  | [x], d, h => by
    have := dec_short [x] 0 0 (by omega) rfl
    unfold dec at h
    rw [this] at h
    cases h
  | [x, y], d, h => by
    have hx := val_le x
    have hy := val_le y
    by_cases v1 : val x = 64
    · simp [dec, decGo, v1] at h
    by_cases v2 : val y = 64
    · simp [dec, decGo, v1, v2] at h
    have lx := ltr_val (c := x) (by omega)
    have ly := ltr_val (c := y) (by omega)
    by_cases hz : (val x * 64 + val y) % 16 = 0
    · simp [dec, decGo, v1, v2, hz] at h
      subst h
      rw [enc1, byteN (by omega), show (val x * 64 + val y) / 16 / 4 = val x by omega, show (val x * 64 + val y) / 16 % 4 * 16 = val y by omega, lx, ly]
    · simp [dec, decGo, v1, v2, hz] at h
  | [x, y, z], d, h => by
    have hx := val_le x
    have hy := val_le y
    have hz := val_le z
    by_cases v1 : val x = 64
    · simp [dec, decGo, v1] at h
    by_cases v2 : val y = 64
    · simp [dec, decGo, v1, v2] at h
    by_cases v3 : val z = 64
    · simp [dec, decGo, v1, v2, v3] at h
    have lx := ltr_val (c := x) (by omega)
    have ly := ltr_val (c := y) (by omega)
    have lz := ltr_val (c := z) (by omega)
    by_cases he : ((val x * 64 + val y) % 16 * 64 + val z) % 4 = 0
    · simp [dec, decGo, v1, v2, v3, he] at h
      subst h
      rw [enc2, byteN (by omega), byteN (by omega), show (val x * 64 + val y) / 16 / 4 = val x by omega,
        show ((val x * 64 + val y) / 16 % 4 * 256 + ((val x * 64 + val y) % 16 * 64 + val z) / 4) / 16 = val y by omega,
        show ((val x * 64 + val y) / 16 % 4 * 256 + ((val x * 64 + val y) % 16 * 64 + val z) / 4) % 16 * 4 = val z by omega, lx, ly, lz]
    · simp [dec, decGo, v1, v2, v3, he] at h
  | x :: y :: z :: u :: r, d, h => by
    have hx := val_le x
    have hy := val_le y
    have hz := val_le z
    have hu := val_le u
    by_cases v1 : val x = 64
    · simp [dec, decGo, v1] at h
    by_cases v2 : val y = 64
    · simp [dec, decGo, v1, v2] at h
    by_cases v3 : val z = 64
    · simp [dec, decGo, v1, v2, v3] at h
    by_cases v4 : val u = 64
    · simp [dec, decGo, v1, v2, v3, v4] at h
    have lx := ltr_val (c := x) (by omega)
    have ly := ltr_val (c := y) (by omega)
    have lz := ltr_val (c := z) (by omega)
    have lu := ltr_val (c := u) (by omega)
    simp [dec, decGo, v1, v2, v3, v4] at h
    obtain ⟨d', hd', rfl⟩ := h
    have ih := enc_dec r d' hd'
    rw [enc3, byteN (by omega), byteN (by omega), byteN (by omega), ih, show (val x * 64 + val y) / 16 / 4 = val x by omega,
      show ((val x * 64 + val y) / 16 % 4 * 256 + ((val x * 64 + val y) % 16 * 64 + val z) / 4) / 16 = val y by omega,
      show (((val x * 64 + val y) / 16 % 4 * 256 + ((val x * 64 + val y) % 16 * 64 + val z) / 4) % 16 * 256 + (((val x * 64 + val y) % 16 * 64 + val z) % 4 * 64 + val u)) / 64 = val z by omega,
      show (((val x * 64 + val y) / 16 % 4 * 256 + ((val x * 64 + val y) % 16 * 64 + val z) / 4) % 16 * 256 + (((val x * 64 + val y) % 16 * 64 + val z) % 4 * 64 + val u)) % 64 = val u by omega, lx, ly, lz, lu]

/-! ### bit by bit -/
def bitOf (l : List UInt8) (i : Nat) : Nat := (l.getD (i / 8) 0).toNat / 2 ^ (7 - i % 8) % 2
def six (f : Nat → Nat) (i : Nat) : Nat := ((((f i * 2 + f (i + 1)) * 2 + f (i + 2)) * 2 + f (i + 3)) * 2 + f (i + 4)) * 2 + f (i + 5)
def lets (f : Nat → Nat) (m : Nat) : List UInt8 := (List.range m).map fun i => ltr (six f (6 * i))
theorem six_shift (f : Nat → Nat) (k i : Nat) : six (fun j => f (j + k)) i = six f (i + k) := by
  simp only [six]
  rw [show i + 1 + k = i + k + 1 by omega, show i + 2 + k = i + k + 2 by omega, show i + 3 + k = i + k + 3 by omega, show i + 4 + k = i + k + 4 by omega, show i + 5 + k = i + k + 5 by omega]
theorem lets_succ (f : Nat → Nat) (m : Nat) : lets f (m + 1) = ltr (six f 0) :: lets (fun j => f (j + 6)) m := by
  unfold lets
  rw [List.range_succ_eq_map, List.map_cons, List.map_map]
  refine congrArg (ltr (six f (6 * 0)) :: ·) (List.map_congr_left fun i _ => ?_)
  simp only [Function.comp]
  rw [six_shift, show 6 * Nat.succ i = 6 * i + 6 by omega]
theorem bit_cons_lo (c : UInt8) (r : List UInt8) {i : Nat} (h : i < 8) : bitOf (c :: r) i = c.toNat / 2 ^ (7 - i) % 2 := by
  unfold bitOf
  rw [show i / 8 = 0 by omega, show i % 8 = i by omega]
  rfl
theorem bit_cons_hi (c : UInt8) (r : List UInt8) (i : Nat) : bitOf (c :: r) (i + 8) = bitOf r i := by
  unfold bitOf
  rw [show (i + 8) / 8 = i / 8 + 1 by omega, show (i + 8) % 8 = i % 8 by omega]
  rfl
theorem bit_nil (i : Nat) : bitOf [] i = 0 := by simp [bitOf]
theorem bit_lt (l : List UInt8) (i : Nat) : bitOf l i < 2 := Nat.mod_lt _ (by omega)

def bitP (t h : Nat) (l : List UInt8) (i : Nat) : Nat := if i < 2 * t then h / 2 ^ (2 * t - 1 - i) % 2 else bitOf l (i - 2 * t)
theorem bitP_zero (h : Nat) (l : List UInt8) : bitP 0 h l = bitOf l := by
  funext i
  simp [bitP]
theorem bitP_one (h : Nat) (c : UInt8) (r : List UInt8) : (fun j => bitP 0 h (c :: r) (j + 6)) = bitP 1 ((h * 256 + c.toNat) % 4) r := by
  funext i
  rw [bitP_zero]
  unfold bitP
  have hc := c.toNat_lt
  rcases i with _ | _ | i
  · rw [bit_cons_lo _ _ (by omega)]; simp; omega
  · rw [bit_cons_lo _ _ (by omega)]; simp; omega
  · rw [show i + 1 + 1 + 6 = i + 8 by omega, bit_cons_hi, if_neg (by omega)]
    rfl
theorem bitP_two (h : Nat) (c : UInt8) (r : List UInt8) : (fun j => bitP 1 h (c :: r) (j + 6)) = bitP 2 ((h * 256 + c.toNat) % 16) r := by
  funext i
  unfold bitP
  have hc := c.toNat_lt
  rw [if_neg (by omega), show i + 6 - 2 * 1 = i + 4 by omega]
  rcases i with _ | _ | _ | _ | i
  · rw [bit_cons_lo _ _ (by omega)]; simp; omega
  · rw [bit_cons_lo _ _ (by omega)]; simp; omega
  · rw [bit_cons_lo _ _ (by omega)]; simp; omega
  · rw [bit_cons_lo _ _ (by omega)]; simp; omega
  · rw [show i + 1 + 1 + 1 + 1 + 4 = i + 8 by omega, bit_cons_hi, if_neg (by omega)]
    rfl
theorem bitP_three (h : Nat) (c : UInt8) (r : List UInt8) : (fun j => bitP 2 h (c :: r) (j + 6 + 6)) = bitOf r := by
  funext i
  unfold bitP
  rw [if_neg (by omega), show i + 6 + 6 - 2 * 2 = i + 8 by omega, bit_cons_hi]

theorem encGo_bits : ∀ (l : List UInt8) (t h : Nat), t < 3 → h < 4 ^ t → encGo t h l = lets (bitP t h l) ((8 * l.length + 2 * t + 5) / 6)
  | [], t, h, ht, hh => by
    have : t = 0 ∨ t = 1 ∨ t = 2 := by omega
    rcases this with rfl | rfl | rfl
    · rfl
    · have h0 : h < 4 := by simpa using hh
      simp only [encGo, lets, six, bitP, bit_nil, List.length_nil]
      simp
      congr 1
      omega
    · have h0 : h < 16 := by simpa using hh
      simp only [encGo, lets, six, bitP, bit_nil, List.length_nil]
      simp
      congr 1
      omega
  | c :: r, t, h, ht, hh => by
    have hc := c.toNat_lt
    have : t = 0 ∨ t = 1 ∨ t = 2 := by omega
    rcases this with rfl | rfl | rfl
    · have h0 : h = 0 := by simpa using hh
      subst h0
      have ih := encGo_bits r 1 ((0 * 256 + c.toNat) % 4) (by omega) (by omega)
      rw [List.length_cons, show (8 * (r.length + 1) + 2 * 0 + 5) / 6 = (8 * r.length + 2 * 1 + 5) / 6 + 1 by omega, lets_succ, bitP_one, encGo, if_pos rfl, ih]
      congr 2
      rw [bitP_zero]
      simp only [six]
      rw [bit_cons_lo _ _ (by omega), bit_cons_lo _ _ (by omega), bit_cons_lo _ _ (by omega), bit_cons_lo _ _ (by omega), bit_cons_lo _ _ (by omega), bit_cons_lo _ _ (by omega)]
      simp
      omega
    · have h0 : h < 4 := by simpa using hh
      have ih := encGo_bits r 2 ((h * 256 + c.toNat) % 16) (by omega) (by omega)
      rw [List.length_cons, show (8 * (r.length + 1) + 2 * 1 + 5) / 6 = (8 * r.length + 2 * 2 + 5) / 6 + 1 by omega, lets_succ, bitP_two, encGo, if_neg (by omega), if_pos rfl, ih]
      congr 2
      simp only [six, bitP]
      simp only [Nat.zero_add, Nat.mul_one, Nat.reduceLT, Nat.reduceSub, if_true, if_false, Nat.lt_irrefl]
      rw [bit_cons_lo _ _ (by omega), bit_cons_lo _ _ (by omega), bit_cons_lo _ _ (by omega), bit_cons_lo _ _ (by omega)]
      simp
      omega
    · have h0 : h < 16 := by simpa using hh
      have ih := encGo_bits r 0 0 (by omega) (by omega)
      rw [List.length_cons, show (8 * (r.length + 1) + 2 * 2 + 5) / 6 = (8 * r.length + 2 * 0 + 5) / 6 + 1 + 1 by omega, lets_succ, lets_succ, bitP_three, encGo, if_neg (by omega), if_neg (by omega), ih, bitP_zero]
      congr 2
      · simp only [six, bitP]
        simp only [Nat.zero_add, Nat.reduceMul, Nat.reduceLT, Nat.reduceSub, if_true, if_false, Nat.lt_irrefl]
        rw [bit_cons_lo _ _ (by omega), bit_cons_lo _ _ (by omega)]
        simp
        omega
      · congr 1
        simp only [six, bitP]
        simp only [Nat.zero_add, Nat.reduceMul, Nat.reduceAdd, Nat.reduceLT, Nat.reduceSub, if_true, if_false, Nat.lt_irrefl]
        rw [bit_cons_lo _ _ (by omega), bit_cons_lo _ _ (by omega), bit_cons_lo _ _ (by omega), bit_cons_lo _ _ (by omega), bit_cons_lo _ _ (by omega), bit_cons_lo _ _ (by omega)]
        simp
        omega
theorem enc_bits (l : List UInt8) : enc l = lets (bitOf l) ((8 * l.length + 5) / 6) := by
  have := encGo_bits l 0 0 (by omega) (by omega)
  rw [bitP_zero] at this
  exact this
end Go.Proofs.YtoemceehmiaigaaDoor.Seal
namespace Go.Proofs.YtoemceehmiaigaaDoor.Seal
set_option maxRecDepth 10000

def bitS (s : List UInt8) (k : Nat) : Nat := val (s.getD (k / 6) 0) / 2 ^ (5 - k % 6) % 2
theorem bitS_lt (s : List UInt8) (k : Nat) : bitS s k < 2 := Nat.mod_lt _ (by omega)
def upTo (f : Nat → Nat) (K k : Nat) : Nat := if k < K then f k else 0
def part (f : Nat → Nat) (K j : Nat) : Nat :=
  upTo f K (8 * j + 0) * 128 + upTo f K (8 * j + 1) * 64 + upTo f K (8 * j + 2) * 32 + upTo f K (8 * j + 3) * 16 + upTo f K (8 * j + 4) * 8 + upTo f K (8 * j + 5) * 4 + upTo f K (8 * j + 6) * 2 + upTo f K (8 * j + 7)
theorem upTo_lt {f : Nat → Nat} (hf : ∀ k, f k < 2) (K k : Nat) : upTo f K k < 2 := by
  unfold upTo
  split
  · exact hf k
  · omega
theorem part_lt {f : Nat → Nat} (hf : ∀ k, f k < 2) (K j : Nat) : part f K j < 256 := by
  unfold part
  have h0 := upTo_lt hf K (8 * j + 0)
  have h1 := upTo_lt hf K (8 * j + 1)
  have h2 := upTo_lt hf K (8 * j + 2)
  have h3 := upTo_lt hf K (8 * j + 3)
  have h4 := upTo_lt hf K (8 * j + 4)
  have h5 := upTo_lt hf K (8 * j + 5)
  have h6 := upTo_lt hf K (8 * j + 6)
  have h7 := upTo_lt hf K (8 * j + 7)
  omega
theorem upTo_below {f : Nat → Nat} {K k : Nat} (h : k < K) : upTo f K k = f k := if_pos h
theorem upTo_above {f : Nat → Nat} {K k : Nat} (h : K ≤ k) : upTo f K k = 0 := if_neg (by omega)
theorem part_other {f : Nat → Nat} {K j : Nat} (h : K / 8 ≠ j) : part f (K + 1) j = part f K j := by
  have key : ∀ t, t < 8 → upTo f (K + 1) (8 * j + t) = upTo f K (8 * j + t) := fun t ht => by
    unfold upTo
    by_cases h1 : 8 * j + t < K
    · rw [if_pos h1, if_pos (by omega)]
    · rw [if_neg h1, if_neg (by omega)]
  unfold part
  rw [key 0 (by omega), key 1 (by omega), key 2 (by omega), key 3 (by omega), key 4 (by omega), key 5 (by omega), key 6 (by omega), key 7 (by omega)]
theorem part_same {f : Nat → Nat} (j t : Nat) (ht : t < 8) : part f (8 * j + t + 1) j = part f (8 * j + t) j + f (8 * j + t) * 2 ^ (7 - t) ∧ part f (8 * j + t) j % 2 ^ (8 - t) = 0 := by
  have : t = 0 ∨ t = 1 ∨ t = 2 ∨ t = 3 ∨ t = 4 ∨ t = 5 ∨ t = 6 ∨ t = 7 := by omega
  have e : ∀ a b : Nat, (8 * j + a < 8 * j + b) = (a < b) := fun a b => by simp
  have e0 : ∀ a : Nat, (8 * j < 8 * j + a) = (0 < a) := fun a => by simp
  have e1 : ∀ a : Nat, (8 * j + a < 8 * j) = False := fun a => by simp
  unfold part upTo
  rcases this with rfl | rfl | rfl | rfl | rfl | rfl | rfl | rfl
  all_goals
    rw [Nat.add_assoc (8 * j) _ 1]
    simp only [e, e0, e1, Nat.reduceAdd, Nat.reduceLT, if_true, if_false, Nat.reduceSub, Nat.reducePow, Nat.zero_mul, Nat.zero_add, Nat.add_zero, Nat.zero_mod, Nat.lt_irrefl, Nat.mod_one, and_true]
    try exact ⟨trivial, by omega⟩
    try exact ⟨by omega, by omega⟩
theorem or_pow {x t : Nat} (hx : x < 256) (ht : t < 8) (h : x % 2 ^ (8 - t) = 0) : x ||| 2 ^ (7 - t) = x + 2 ^ (7 - t) := by
  have : ((List.range 256).all fun x => (List.range 8).all fun t => !decide (x % 2 ^ (8 - t) = 0) || decide (x ||| 2 ^ (7 - t) = x + 2 ^ (7 - t))) = true := by decide +kernel
  have := below (below this hx) ht
  simpa [h] using this

def bytesUpto (f : Nat → Nat) (m K : Nat) : List UInt8 := (List.range m).map fun j => byt (part f K j)
theorem bytesUpto_length (f : Nat → Nat) (m K : Nat) : (bytesUpto f m K).length = m := by simp [bytesUpto]
theorem bytesUpto_get (f : Nat → Nat) {m K j : Nat} (h : j < m) : (bytesUpto f m K)[j]? = some (byt (part f K j)) := by
  unfold bytesUpto
  rw [List.getElem?_map, List.getElem?_range h]
  rfl
theorem bytesUpto_zero (f : Nat → Nat) (m : Nat) : bytesUpto f m 0 = List.replicate m 0 := by
  apply List.ext_getElem?
  intro j
  by_cases h : j < m
  · rw [bytesUpto_get f h, List.getElem?_replicate, if_pos h]
    simp [part, upTo, byt]
  · rw [List.getElem?_eq_none (by rw [bytesUpto_length]; omega), List.getElem?_eq_none (by simp; omega)]
theorem bytesUpto_out {f : Nat → Nat} {m K : Nat} (h : m ≤ K / 8) : bytesUpto f m (K + 1) = bytesUpto f m K := by
  unfold bytesUpto
  refine List.map_congr_left fun j hj => ?_
  rw [part_other (by have := List.mem_range.1 hj; omega)]
theorem bytesUpto_no {f : Nat → Nat} {m K : Nat} (h : f K = 0) : bytesUpto f m (K + 1) = bytesUpto f m K := by
  unfold bytesUpto
  refine List.map_congr_left fun j _ => ?_
  by_cases hj : K / 8 = j
  · have := (part_same (f := f) j (K % 8) (by omega)).1
    rw [show 8 * j + K % 8 = K by omega, h] at this
    rw [this]
    simp
  · rw [part_other hj]
theorem bytesUpto_set {f : Nat → Nat} (hf : ∀ k, f k < 2) {m K : Nat} (hm : K / 8 < m) (h : f K = 1) : (bytesUpto f m K).set (K / 8) (byt (part f K (K / 8) ||| 2 ^ (7 - K % 8))) = bytesUpto f m (K + 1) := by
  have hs := part_same (f := f) (K / 8) (K % 8) (by omega)
  rw [show 8 * (K / 8) + K % 8 = K by omega, h, Nat.one_mul] at hs
  rw [or_pow (part_lt hf _ _) (by omega) hs.2, ← hs.1]
  apply List.ext_getElem?
  intro j
  by_cases hj : j < m
  · by_cases he : K / 8 = j
    · subst he
      rw [List.getElem?_set_self (by rw [bytesUpto_length]; exact hj), bytesUpto_get f hj]
    · rw [List.getElem?_set_ne he, bytesUpto_get f hj, bytesUpto_get f hj, part_other he]
  · rw [List.getElem?_eq_none (by rw [List.length_set, bytesUpto_length]; omega), List.getElem?_eq_none (by rw [bytesUpto_length]; omega)]

theorem bit_byte (d : List UInt8) (j t : Nat) (ht : t < 8) : bitOf d (8 * j + t) = (d.getD j 0).toNat / 2 ^ (7 - t) % 2 := by
  unfold bitOf
  rw [show (8 * j + t) / 8 = j by omega, show (8 * j + t) % 8 = t by omega]
theorem byte_sum {x : Nat} (hx : x < 256) : x / 128 % 2 * 128 + x / 64 % 2 * 64 + x / 32 % 2 * 32 + x / 16 % 2 * 16 + x / 8 % 2 * 8 + x / 4 % 2 * 4 + x / 2 % 2 * 2 + x / 1 % 2 = x := by
  have : ((List.range 256).all fun x => decide (x / 128 % 2 * 128 + x / 64 % 2 * 64 + x / 32 % 2 * 32 + x / 16 % 2 * 16 + x / 8 % 2 * 8 + x / 4 % 2 * 4 + x / 2 % 2 * 2 + x / 1 % 2 = x)) = true := by decide +kernel
  simpa using below this hx
theorem bytes_are {f : Nat → Nat} {m K : Nat} {d : List UInt8} (hd : d.length = m) (hf : ∀ k, k < 8 * m → f k = bitOf d k) (hK : 8 * m ≤ K) : bytesUpto f m K = d := by
  apply List.ext_getElem?
  intro j
  by_cases hj : j < m
  · rw [bytesUpto_get f hj]
    have key : part f K j = (d.getD j 0).toNat := by
      have hb := (d.getD j 0).toNat_lt
      have k0 := bit_byte d j 0 (by omega)
      have k1 := bit_byte d j 1 (by omega)
      have k2 := bit_byte d j 2 (by omega)
      have k3 := bit_byte d j 3 (by omega)
      have k4 := bit_byte d j 4 (by omega)
      have k5 := bit_byte d j 5 (by omega)
      have k6 := bit_byte d j 6 (by omega)
      have k7 := bit_byte d j 7 (by omega)
      unfold part
      rw [upTo_below (by omega), upTo_below (by omega), upTo_below (by omega), upTo_below (by omega), upTo_below (by omega), upTo_below (by omega), upTo_below (by omega), upTo_below (by omega),
        hf _ (by omega), hf _ (by omega), hf _ (by omega), hf _ (by omega), hf _ (by omega), hf _ (by omega), hf _ (by omega), hf _ (by omega)]
      rw [k0, k1, k2, k3, k4, k5, k6, k7]
      exact byte_sum hb
    rw [key, ofNat_toNat' _ rfl, List.getD_eq_getElem?_getD, List.getElem?_eq_getElem (by omega)]
    rfl
  · rw [List.getElem?_eq_none (by rw [bytesUpto_length]; omega), List.getElem?_eq_none (by omega)]

theorem enc_length (l : List UInt8) : (enc l).length = (8 * l.length + 5) / 6 := by rw [enc_bits]; simp [lets]
theorem six_lt {f : Nat → Nat} (hf : ∀ k, f k < 2) (i : Nat) : six f i < 64 := by
  have h0 := hf i
  have h1 := hf (i + 1)
  have h2 := hf (i + 2)
  have h3 := hf (i + 3)
  have h4 := hf (i + 4)
  have h5 := hf (i + 5)
  unfold six
  omega
theorem six_bit {f : Nat → Nat} (hf : ∀ k, f k < 2) (i j : Nat) (hj : j < 6) : six f (6 * i) / 2 ^ (5 - j) % 2 = f (6 * i + j) := by
  have h0 := hf (6 * i)
  have h1 := hf (6 * i + 1)
  have h2 := hf (6 * i + 2)
  have h3 := hf (6 * i + 3)
  have h4 := hf (6 * i + 4)
  have h5 := hf (6 * i + 5)
  have : j = 0 ∨ j = 1 ∨ j = 2 ∨ j = 3 ∨ j = 4 ∨ j = 5 := by omega
  unfold six
  rcases this with rfl | rfl | rfl | rfl | rfl | rfl
  all_goals
    simp
    omega
/-- the bits of a text that tells d are d's -/
theorem bits_of_enc (d : List UInt8) (k : Nat) (hk : k < 8 * d.length) : bitS (enc d) k = bitOf d k := by
  unfold bitS
  have hi : k / 6 < (8 * d.length + 5) / 6 := by omega
  have : (enc d).getD (k / 6) 0 = ltr (six (bitOf d) (6 * (k / 6))) := by
    rw [enc_bits, lets, List.getD_eq_getElem?_getD, List.getElem?_map, List.getElem?_range hi]
    rfl
  rw [this, val_ltr (six_lt (bit_lt d) _), six_bit (bit_lt d) _ _ (by omega), show 6 * (k / 6) + k % 6 = k by omega]

/-- what the reference builds of a text whose letters are letters -/
def built (s : List UInt8) : List UInt8 := bytesUpto (bitS s) (s.length * 6 / 8) (6 * s.length)
theorem built_of_dec {s d : List UInt8} (h : dec s = some d) : built s = d := by
  have he := enc_dec s d h
  subst he
  refine bytes_are (by rw [enc_length]; omega) (fun k hk => bits_of_enc d k ?_) ?_
  · rw [enc_length] at hk; omega
  · omega
theorem dec_of_built {s : List UInt8} (h : enc (built s) = s) : dec s = some (built s) := by
  have := dec_enc (built s)
  rw [h] at this
  exact this
theorem dec_letters : ∀ (s : List UInt8) (t h : Nat) (d : List UInt8), decGo t h s = some d → ∀ c ∈ s, val c ≠ 64
  | [], _, _, _, _, c, hc => by simp at hc
  | x :: r, t, h, d, hd, c, hc => by
    rw [decGo] at hd
    by_cases hx : val x = 64
    · rw [if_pos hx] at hd; cases hd
    · rw [if_neg hx] at hd
      have hr : ∃ t' h' d', decGo t' h' r = some d' := by
        split at hd
        · exact ⟨_, _, _, hd⟩
        · split at hd
          · obtain ⟨d', hd', _⟩ := Option.map_eq_some_iff.1 hd; exact ⟨_, _, _, hd'⟩
          · split at hd
            · obtain ⟨d', hd', _⟩ := Option.map_eq_some_iff.1 hd; exact ⟨_, _, _, hd'⟩
            · obtain ⟨d', hd', _⟩ := Option.map_eq_some_iff.1 hd; exact ⟨_, _, _, hd'⟩
      obtain ⟨t', h', d', hr⟩ := hr
      rcases List.mem_cons.1 hc with rfl | hc
      · exact hx
      · exact dec_letters r t' h' d' hr c hc
end Go.Proofs.YtoemceehmiaigaaDoor.Seal
