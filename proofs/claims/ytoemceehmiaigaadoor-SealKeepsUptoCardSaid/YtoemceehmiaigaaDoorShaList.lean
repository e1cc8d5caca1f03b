/- SHA-256 over whole lists in plain words: the padded list, the digest, and a digest under way. No program. -/
import Derived.Test.YtoemceehmiaigaaDoorShaSpec
namespace Go.Proofs.YtoemceehmiaigaaDoor.Sha
open Go.RowKit Go.Proofs.YtoemceehmiaigaaDoor.Mem

theorem W_congr (m m' : Nat → UInt32) (h : ∀ j, j < 16 → m j = m' j) : ∀ i, W m i = W m' i := by
  intro i
  induction i using Nat.strongRecOn with
  | _ i ih =>
    by_cases hi : i < 16
    · rw [W_lo _ _ hi, W_lo _ _ hi, h i hi]
    · rw [W_of m i (by omega), W_of m' i (by omega), ih (i - 16) (by omega), ih (i - 15) (by omega), ih (i - 7) (by omega), ih (i - 2) (by omega)]

theorem blockf_congr (s : S8) (b b' : List UInt8) (p p' : Nat) (h : ∀ j, j < 64 → b.getD (p + j) 0 = b'.getD (p' + j) 0) : blockf s b p = blockf s b' p' := by
  have e : W (wordAt b p) = W (wordAt b' p') := by
    funext i
    refine W_congr _ _ (fun j hj => ?_) i
    unfold wordAt
    simp only [Nat.add_assoc]
    rw [h (4 * j) (by omega), h (4 * j + 1) (by omega), h (4 * j + 2) (by omega), h (4 * j + 3) (by omega)]
  unfold blockf
  rw [e]

theorem getD_drop_ (b : List UInt8) (p j : Nat) : (b.drop p).getD j 0 = b.getD (p + j) 0 := by
  simp [List.getD_eq_getElem?_getD]
theorem getD_left (b c : List UInt8) (j : Nat) (h : j < b.length) : (b ++ c).getD j 0 = b.getD j 0 := by
  rw [List.getD_eq_getElem?_getD, List.getD_eq_getElem?_getD, List.getElem?_append_left h]

def runB (b : List UInt8) : Nat → S8
  | 0 => start
  | k + 1 => blockf (runB b k) b (64 * k)

theorem runB_succ (b : List UInt8) (k : Nat) : runB b (k + 1) = blockf (runB b k) b (64 * k) := rfl
theorem runB_congr (b b' : List UInt8) : ∀ k, (∀ j, j < 64 * k → b.getD j 0 = b'.getD j 0) → runB b k = runB b' k := by
  intro k
  induction k with
  | zero => intro _; rfl
  | succ k ih =>
    intro h
    unfold runB
    rw [ih (fun j hj => h j (by omega)), blockf_congr _ b b' (64 * k) (64 * k) (fun j hj => h _ (by omega))]

theorem runB_left (b c : List UInt8) (k : Nat) (h : 64 * k ≤ b.length) : runB (b ++ c) k = runB b k :=
  runB_congr _ _ _ fun j hj => getD_left _ _ _ (by omega)

def be8 (n : Nat) : List UInt8 := (List.range 8).map fun i => UInt8.ofNat (n / 2 ^ (56 - 8 * i))
theorem be8_length (n : Nat) : (be8 n).length = 8 := by simp [be8]
def noughts (n : Nat) : Nat := (119 - n % 64) % 64
def padded (b : List UInt8) : List UInt8 := b ++ ((0x80 : UInt8) :: (List.replicate (noughts b.length) 0 ++ be8 (8 * b.length)))
theorem padded_length (b : List UInt8) : (padded b).length = b.length + 9 + noughts b.length := by
  simp [padded, be8_length]; omega
def dig (s : S8) : List UInt8 := (List.range 32).map fun i => UInt8.ofNat ((s.at_ (i / 4)).toNat / 2 ^ (24 - 8 * (i % 4)))
theorem dig_length (s : S8) : (dig s).length = 32 := by simp [dig]
def sumf (b : List UInt8) : List UInt8 := dig (runB (padded b) ((padded b).length / 64))
theorem sumf_length (b : List UInt8) : (sumf b).length = 32 := dig_length _

/-- what doesn't fill a block -/
def tailB (b : List UInt8) : List UInt8 := b.drop (64 * (b.length / 64))
theorem tailB_length (b : List UInt8) : (tailB b).length = b.length % 64 := by
  have := Nat.div_add_mod b.length 64
  simp [tailB]; omega
def restB (b : List UInt8) : List UInt8 := tailB b ++ List.replicate (64 - b.length % 64) 0
theorem restB_length (b : List UInt8) : (restB b).length = 64 := by
  have := Nat.mod_lt b.length (show 0 < 64 by omega)
  simp [restB, tailB_length]; omega
def stateB (b : List UInt8) : S8 := if b.length < 64 then zero8 else runB b (b.length / 64)

theorem blockf_drop (s : S8) (b c d : List UInt8) (p : Nat) (h : b.drop p = c ++ d) (hc : c.length = 64) : blockf s b p = blockf s c 0 := by
  refine blockf_congr _ _ _ _ _ fun j hj => ?_
  rw [Nat.zero_add, ← getD_drop_, h, getD_left _ _ _ (by omega)]

theorem padded_drop (b : List UInt8) : (padded b).drop (64 * (b.length / 64)) = tailB b ++ ((0x80 : UInt8) :: (List.replicate (noughts b.length) 0 ++ be8 (8 * b.length))) := by
  unfold padded tailB
  rw [List.drop_append_of_le_length (by omega)]

theorem sumf_lo (b : List UInt8) (h : b.length % 64 < 56) :
    sumf b = dig (blockf (runB b (b.length / 64)) (tailB b ++ ((0x80 : UInt8) :: (List.replicate (55 - b.length % 64) 0 ++ be8 (8 * b.length)))) 0) := by
  have hn : noughts b.length = 55 - b.length % 64 := by unfold noughts; omega
  have hl := padded_length b
  rw [hn] at hl
  have hN : (padded b).length / 64 = b.length / 64 + 1 := by omega
  unfold sumf
  rw [hN, runB_succ (padded b)]
  have hd := padded_drop b
  rw [hn] at hd
  rw [blockf_drop _ (padded b) _ [] _ (by rw [hd, List.append_nil]) (by simp [tailB_length, be8_length]; omega)]
  rw [show runB (padded b) (b.length / 64) = runB b (b.length / 64) from runB_left _ _ _ (by omega)]

theorem sumf_hi (b : List UInt8) (h : 56 ≤ b.length % 64) :
    sumf b = dig (blockf (blockf (runB b (b.length / 64)) (tailB b ++ ((0x80 : UInt8) :: List.replicate (63 - b.length % 64) 0)) 0) (List.replicate 56 0 ++ be8 (8 * b.length)) 0) := by
  have hm := Nat.mod_lt b.length (show 0 < 64 by omega)
  have hn : noughts b.length = (63 - b.length % 64) + 56 := by unfold noughts; omega
  have hl := padded_length b
  rw [hn] at hl
  have hN : (padded b).length / 64 = b.length / 64 + 1 + 1 := by omega
  unfold sumf
  rw [hN, runB_succ (padded b)]
  have hd := padded_drop b
  rw [hn, ← List.replicate_append_replicate] at hd
  have hd' : (padded b).drop (64 * (b.length / 64)) = (tailB b ++ ((0x80 : UInt8) :: List.replicate (63 - b.length % 64) 0)) ++ (List.replicate 56 0 ++ be8 (8 * b.length)) := by rw [hd]; simp
  have hq : (tailB b ++ ((0x80 : UInt8) :: List.replicate (63 - b.length % 64) 0)).length = 64 := by simp [tailB_length]; omega
  have hd2 : (padded b).drop (64 * (b.length / 64 + 1)) = List.replicate 56 0 ++ be8 (8 * b.length) := by
    rw [Nat.mul_add, ← List.drop_drop, hd', List.drop_left' (by rw [hq])]
  rw [blockf_drop _ (padded b) _ [] _ (by rw [hd2, List.append_nil]) (by simp [be8_length])]
  rw [runB_succ (padded b), blockf_drop _ (padded b) _ _ _ hd' hq]
  rw [show runB (padded b) (b.length / 64) = runB b (b.length / 64) from runB_left _ _ _ (by omega)]

/-- the state ahead of the block under way -/
theorem from_state (b : List UInt8) : (if b.length < 64 then start else stateB b) = runB b (b.length / 64) := by
  unfold stateB
  by_cases h : b.length < 64
  · rw [if_pos h, Nat.div_eq_of_lt h]; rfl
  · rw [if_neg h, if_neg h]

/-- bytes that don't fill the block -/
theorem more_lo (b q : List UInt8) (h : b.length % 64 + q.length < 64) :
    stateB (b ++ q) = stateB b ∧ restB (b ++ q) = (restB b).take (b.length % 64) ++ q ++ (restB b).drop (b.length % 64 + q.length) := by
  have hm := Nat.div_add_mod b.length 64
  have hd : (b ++ q).length / 64 = b.length / 64 := by rw [List.length_append]; omega
  have hmod : (b ++ q).length % 64 = b.length % 64 + q.length := by rw [List.length_append]; omega
  constructor
  · unfold stateB
    rw [hd]
    by_cases hl : b.length < 64
    · rw [if_pos hl, if_pos (by rw [List.length_append]; omega)]
    · rw [if_neg hl, if_neg (by rw [List.length_append]; omega), runB_left _ _ _ (by omega)]
  · unfold restB
    rw [hmod]
    have ht : tailB (b ++ q) = tailB b ++ q := by
      unfold tailB
      rw [hd, List.drop_append_of_le_length (by omega)]
    have hl := tailB_length b
    rw [ht, List.take_left' hl, List.drop_append, List.drop_of_length_le (by omega), List.nil_append, List.drop_replicate, hl]
    congr 2
    omega

/-- bytes that fill the block -/
theorem more_hi (b q : List UInt8) (h : b.length % 64 + q.length = 64) :
    stateB (b ++ q) = blockf (runB b (b.length / 64)) ((restB b).take (b.length % 64) ++ q) 0 ∧ restB (b ++ q) = List.replicate 64 0 := by
  have hm := Nat.div_add_mod b.length 64
  have hd : (b ++ q).length / 64 = b.length / 64 + 1 := by rw [List.length_append]; omega
  have hmod : (b ++ q).length % 64 = 0 := by rw [List.length_append]; omega
  have hl := tailB_length b
  constructor
  · unfold stateB
    rw [hd, if_neg (by rw [List.length_append]; omega)]
    show blockf (runB (b ++ q) (b.length / 64)) (b ++ q) (64 * (b.length / 64)) = _
    rw [runB_left _ _ _ (by omega)]
    refine blockf_drop _ _ _ [] _ ?_ ?_
    · unfold restB
      rw [List.take_left' hl, List.append_nil]
      unfold tailB
      rw [List.drop_append_of_le_length (by omega)]
    · unfold restB
      rw [List.take_left' hl, List.length_append]; omega
  · unfold restB
    have ht : tailB (b ++ q) = [] := by
      apply List.eq_nil_of_length_eq_zero
      rw [tailB_length, hmod]
    rw [ht, hmod]; rfl

def hashCells (b : List UInt8) : List Value := (stateB b).cells ++ ((restB b).map bv ++ [.int .i64 (b.length : Int)])
theorem hashCells_length (b : List UInt8) : (hashCells b).length = 73 := by simp [hashCells, cells_length, restB_length]
end Go.Proofs.YtoemceehmiaigaaDoor.Sha
