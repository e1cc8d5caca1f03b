/- base64url: the bytes that the reference's Decode builds bit by bit. No program. -/
import Derived.Test.YtoemceehmiaigaaSealPure
namespace Go.Proofs.Ytoemceehmiaigaa.Seal
set_option maxRecDepth 10000

def bitS (s : List UInt8) (k : Nat) : Nat := val (s.getD (k / 6) 0) / 2 ^ (5 - k % 6) % 2
theorem bitS_lt (s : List UInt8) (k : Nat) : bitS s k < 2 := Nat.mod_lt _ (by omega)
def upTo (f : Nat → Nat) (K k : Nat) : Nat := if k < K then f k else 0
def part (f : Nat → Nat) (K j : Nat) : Nat :=
  upTo f K (8 * j + 0) * 128 + upTo f K (8 * j + 1) * 64 + upTo f K (8 * j + 2) * 32 + upTo f K (8 * j + 3) * 16 + upTo f K (8 * j + 4) * 8 + upTo f K (8 * j + 5) * 4 + upTo f K (8 * j + 6) * 2 + upTo f K (8 * j + 7)
theorem upTo_lt {f : Nat → Nat} (hf : ∀ k, f k < 2) (K k : Nat) : upTo f K k < 2 := by
  unfold upTo
  split
  · exact hf k
  · omega
theorem part_lt {f : Nat → Nat} (hf : ∀ k, f k < 2) (K j : Nat) : part f K j < 256 := by
  unfold part
  have h0 := upTo_lt hf K (8 * j + 0)
  have h1 := upTo_lt hf K (8 * j + 1)
  have h2 := upTo_lt hf K (8 * j + 2)
  have h3 := upTo_lt hf K (8 * j + 3)
  have h4 := upTo_lt hf K (8 * j + 4)
  have h5 := upTo_lt hf K (8 * j + 5)
  have h6 := upTo_lt hf K (8 * j + 6)
  have h7 := upTo_lt hf K (8 * j + 7)
  omega
theorem upTo_below {f : Nat → Nat} {K k : Nat} (h : k < K) : upTo f K k = f k := if_pos h
theorem upTo_above {f : Nat → Nat} {K k : Nat} (h : K ≤ k) : upTo f K k = 0 := if_neg (by omega)
theorem part_other {f : Nat → Nat} {K j : Nat} (h : K / 8 ≠ j) : part f (K + 1) j = part f K j := by
  have key : ∀ t, t < 8 → upTo f (K + 1) (8 * j + t) = upTo f K (8 * j + t) := fun t ht => by
    unfold upTo
    by_cases h1 : 8 * j + t < K
    · rw [if_pos h1, if_pos (by omega)]
    · rw [if_neg h1, if_neg (by omega)]
  unfold part
  rw [key 0 (by omega), key 1 (by omega), key 2 (by omega), key 3 (by omega), key 4 (by omega), key 5 (by omega), key 6 (by omega), key 7 (by omega)]
theorem part_same {f : Nat → Nat} (j t : Nat) (ht : t < 8) : part f (8 * j + t + 1) j = part f (8 * j + t) j + f (8 * j + t) * 2 ^ (7 - t) ∧ part f (8 * j + t) j % 2 ^ (8 - t) = 0 := by
  have : t = 0 ∨ t = 1 ∨ t = 2 ∨ t = 3 ∨ t = 4 ∨ t = 5 ∨ t = 6 ∨ t = 7 := by omega
  have e : ∀ a b : Nat, (8 * j + a < 8 * j + b) = (a < b) := fun a b => by simp
  have e0 : ∀ a : Nat, (8 * j < 8 * j + a) = (0 < a) := fun a => by simp
  have e1 : ∀ a : Nat, (8 * j + a < 8 * j) = False := fun a => by simp
  unfold part upTo
  rcases this with rfl | rfl | rfl | rfl | rfl | rfl | rfl | rfl
  all_goals
    rw [Nat.add_assoc (8 * j) _ 1]
    simp only [e, e0, e1, Nat.reduceAdd, Nat.reduceLT, if_true, if_false, Nat.reduceSub, Nat.reducePow, Nat.zero_mul, Nat.zero_add, Nat.add_zero, Nat.zero_mod, Nat.lt_irrefl, Nat.mod_one, and_true]
    try exact ⟨trivial, by omega⟩
    try exact ⟨by omega, by omega⟩
theorem or_pow {x t : Nat} (hx : x < 256) (ht : t < 8) (h : x % 2 ^ (8 - t) = 0) : x ||| 2 ^ (7 - t) = x + 2 ^ (7 - t) := by
  have : ((List.range 256).all fun x => (List.range 8).all fun t => !decide (x % 2 ^ (8 - t) = 0) || decide (x ||| 2 ^ (7 - t) = x + 2 ^ (7 - t))) = true := by decide +kernel
  have := below (below this hx) ht
  simpa [h] using this

def bytesUpto (f : Nat → Nat) (m K : Nat) : List UInt8 := (List.range m).map fun j => byt (part f K j)
theorem bytesUpto_length (f : Nat → Nat) (m K : Nat) : (bytesUpto f m K).length = m := by simp [bytesUpto]
theorem bytesUpto_get (f : Nat → Nat) {m K j : Nat} (h : j < m) : (bytesUpto f m K)[j]? = some (byt (part f K j)) := by
  unfold bytesUpto
  rw [List.getElem?_map, List.getElem?_range h]
  rfl
theorem bytesUpto_zero (f : Nat → Nat) (m : Nat) : bytesUpto f m 0 = List.replicate m 0 := by
  apply List.ext_getElem?
  intro j
  by_cases h : j < m
  · rw [bytesUpto_get f h, List.getElem?_replicate, if_pos h]
    simp [part, upTo, byt]
  · rw [List.getElem?_eq_none (by rw [bytesUpto_length]; omega), List.getElem?_eq_none (by simp; omega)]
theorem bytesUpto_out {f : Nat → Nat} {m K : Nat} (h : m ≤ K / 8) : bytesUpto f m (K + 1) = bytesUpto f m K := by
  unfold bytesUpto
  refine List.map_congr_left fun j hj => ?_
  rw [part_other (by have := List.mem_range.1 hj; omega)]
theorem bytesUpto_no {f : Nat → Nat} {m K : Nat} (h : f K = 0) : bytesUpto f m (K + 1) = bytesUpto f m K := by
  unfold bytesUpto
  refine List.map_congr_left fun j _ => ?_
  by_cases hj : K / 8 = j
  · have := (part_same (f := f) j (K % 8) (by omega)).1
    rw [show 8 * j + K % 8 = K by omega, h] at this
    rw [this]
    simp
  · rw [part_other hj]
theorem bytesUpto_set {f : Nat → Nat} (hf : ∀ k, f k < 2) {m K : Nat} (hm : K / 8 < m) (h : f K = 1) : (bytesUpto f m K).set (K / 8) (byt (part f K (K / 8) ||| 2 ^ (7 - K % 8))) = bytesUpto f m (K + 1) := by
  have hs := part_same (f := f) (K / 8) (K % 8) (by omega)
  rw [show 8 * (K / 8) + K % 8 = K by omega, h, Nat.one_mul] at hs
  rw [or_pow (part_lt hf _ _) (by omega) hs.2, ← hs.1]
  apply List.ext_getElem?
  intro j
  by_cases hj : j < m
  · by_cases he : K / 8 = j
    · subst he
      rw [List.getElem?_set_self (by rw [bytesUpto_length]; exact hj), bytesUpto_get f hj]
    · rw [List.getElem?_set_ne he, bytesUpto_get f hj, bytesUpto_get f hj, part_other he]
  · rw [List.getElem?_eq_none (by rw [List.length_set, bytesUpto_length]; omega), List.getElem?_eq_none (by rw [bytesUpto_length]; omega)]

theorem bit_byte (d : List UInt8) (j t : Nat) (ht : t < 8) : bitOf d (8 * j + t) = (d.getD j 0).toNat / 2 ^ (7 - t) % 2 := by
  unfold bitOf
  rw [show (8 * j + t) / 8 = j by omega, show (8 * j + t) % 8 = t by omega]
theorem byte_sum {x : Nat} (hx : x < 256) : x / 128 % 2 * 128 + x / 64 % 2 * 64 + x / 32 % 2 * 32 + x / 16 % 2 * 16 + x / 8 % 2 * 8 + x / 4 % 2 * 4 + x / 2 % 2 * 2 + x / 1 % 2 = x := by
  have : ((List.range 256).all fun x => decide (x / 128 % 2 * 128 + x / 64 % 2 * 64 + x / 32 % 2 * 32 + x / 16 % 2 * 16 + x / 8 % 2 * 8 + x / 4 % 2 * 4 + x / 2 % 2 * 2 + x / 1 % 2 = x)) = true := by decide +kernel
  simpa using below this hx
theorem bytes_are {f : Nat → Nat} {m K : Nat} {d : List UInt8} (hd : d.length = m) (hf : ∀ k, k < 8 * m → f k = bitOf d k) (hK : 8 * m ≤ K) : bytesUpto f m K = d := by
  apply List.ext_getElem?
  intro j
  by_cases hj : j < m
  · rw [bytesUpto_get f hj]
    have key : part f K j = (d.getD j 0).toNat := by
      have hb := (d.getD j 0).toNat_lt
      have k0 := bit_byte d j 0 (by omega)
      have k1 := bit_byte d j 1 (by omega)
      have k2 := bit_byte d j 2 (by omega)
      have k3 := bit_byte d j 3 (by omega)
      have k4 := bit_byte d j 4 (by omega)
      have k5 := bit_byte d j 5 (by omega)
      have k6 := bit_byte d j 6 (by omega)
      have k7 := bit_byte d j 7 (by omega)
      unfold part
      rw [upTo_below (by omega), upTo_below (by omega), upTo_below (by omega), upTo_below (by omega), upTo_below (by omega), upTo_below (by omega), upTo_below (by omega), upTo_below (by omega),
        hf _ (by omega), hf _ (by omega), hf _ (by omega), hf _ (by omega), hf _ (by omega), hf _ (by omega), hf _ (by omega), hf _ (by omega)]
      rw [k0, k1, k2, k3, k4, k5, k6, k7]
      exact byte_sum hb
    rw [key, ofNat_toNat' _ rfl, List.getD_eq_getElem?_getD, List.getElem?_eq_getElem (by omega)]
    rfl
  · rw [List.getElem?_eq_none (by rw [bytesUpto_length]; omega), List.getElem?_eq_none (by omega)]

theorem enc_length (l : List UInt8) : (enc l).length = (8 * l.length + 5) / 6 := by rw [enc_bits]; simp [lets]
theorem six_lt {f : Nat → Nat} (hf : ∀ k, f k < 2) (i : Nat) : six f i < 64 := by
  have h0 := hf i
  have h1 := hf (i + 1)
  have h2 := hf (i + 2)
  have h3 := hf (i + 3)
  have h4 := hf (i + 4)
  have h5 := hf (i + 5)
  unfold six
  omega
theorem six_bit {f : Nat → Nat} (hf : ∀ k, f k < 2) (i j : Nat) (hj : j < 6) : six f (6 * i) / 2 ^ (5 - j) % 2 = f (6 * i + j) := by
  have h0 := hf (6 * i)
  have h1 := hf (6 * i + 1)
  have h2 := hf (6 * i + 2)
  have h3 := hf (6 * i + 3)
  have h4 := hf (6 * i + 4)
  have h5 := hf (6 * i + 5)
  have : j = 0 ∨ j = 1 ∨ j = 2 ∨ j = 3 ∨ j = 4 ∨ j = 5 := by omega
  unfold six
  rcases this with rfl | rfl | rfl | rfl | rfl | rfl
  all_goals
    simp
    omega
/-- the bits of a text that tells d are d's -/
theorem bits_of_enc (d : List UInt8) (k : Nat) (hk : k < 8 * d.length) : bitS (enc d) k = bitOf d k := by
  unfold bitS
  have hi : k / 6 < (8 * d.length + 5) / 6 := by omega
  have : (enc d).getD (k / 6) 0 = ltr (six (bitOf d) (6 * (k / 6))) := by
    rw [enc_bits, lets, List.getD_eq_getElem?_getD, List.getElem?_map, List.getElem?_range hi]
    rfl
  rw [this, val_ltr (six_lt (bit_lt d) _), six_bit (bit_lt d) _ _ (by omega), show 6 * (k / 6) + k % 6 = k by omega]

/-- what the reference builds of a text whose letters are letters -/
def built (s : List UInt8) : List UInt8 := bytesUpto (bitS s) (s.length * 6 / 8) (6 * s.length)
theorem built_of_dec {s d : List UInt8} (h : dec s = some d) : built s = d := by
  have he := enc_dec s d h
  subst he
  refine bytes_are (by rw [enc_length]; omega) (fun k hk => bits_of_enc d k ?_) ?_
  · rw [enc_length] at hk; omega
  · omega
theorem dec_of_built {s : List UInt8} (h : enc (built s) = s) : dec s = some (built s) := by
  have := dec_enc (built s)
  rw [h] at this
  exact this
theorem dec_letters : ∀ (s : List UInt8) (t h : Nat) (d : List UInt8), decGo t h s = some d → ∀ c ∈ s, val c ≠ 64
  | [], _, _, _, _, c, hc => by simp at hc
  | x :: r, t, h, d, hd, c, hc => by
    rw [decGo] at hd
    by_cases hx : val x = 64
    · rw [if_pos hx] at hd; cases hd
    · rw [if_neg hx] at hd
      have hr : ∃ t' h' d', decGo t' h' r = some d' := by
        split at hd
        · exact ⟨_, _, _, hd⟩
        · split at hd
          · obtain ⟨d', hd', _⟩ := Option.map_eq_some_iff.1 hd; exact ⟨_, _, _, hd'⟩
          · split at hd
            · obtain ⟨d', hd', _⟩ := Option.map_eq_some_iff.1 hd; exact ⟨_, _, _, hd'⟩
            · obtain ⟨d', hd', _⟩ := Option.map_eq_some_iff.1 hd; exact ⟨_, _, _, hd'⟩
      obtain ⟨t', h', d', hr⟩ := hr
      rcases List.mem_cons.1 hc with rfl | hc
      · exact hx
      · exact dec_letters r t' h' d' hr c hc
end Go.Proofs.Ytoemceehmiaigaa.Seal
