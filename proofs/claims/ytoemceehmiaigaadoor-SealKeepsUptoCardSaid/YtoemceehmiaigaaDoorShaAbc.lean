/- The digest of 'abc' begins with 0xBA: reckoned. No program. -/
import Derived.Test.YtoemceehmiaigaaDoorShaList
import Derived.Tactics
namespace Go.Proofs.YtoemceehmiaigaaDoor.Sha
open Go.RowKit Go.Proofs.YtoemceehmiaigaaDoor.Mem

/-- the schedule, the last word first -/
def Wl : Nat → List UInt32 → List UInt32
  | 0, l => l
  | n + 1, l => Wl n ((l.getD 15 0 + sig0 (l.getD 14 0) + l.getD 6 0 + sig1 (l.getD 1 0)) :: l)
def revW (m : Nat → UInt32) : Nat → List UInt32
  | 0 => []
  | n + 1 => W m n :: revW m n
theorem revW_get (m : Nat → UInt32) : ∀ n j, j < n → (revW m n).getD j 0 = W m (n - 1 - j) := by
  intro n
  induction n with
  | zero => intro j h; omega
  | succ n ih =>
    intro j h
    cases j with
    | zero => rfl
    | succ j =>
      rw [show n + 1 - 1 - (j + 1) = n - 1 - j by omega, ← ih j (by omega)]
      rfl
theorem Wl_rev (m : Nat → UInt32) : ∀ k n, 16 ≤ n → Wl k (revW m n) = revW m (n + k) := by
  intro k
  induction k with
  | zero => intro n _; rfl
  | succ k ih =>
    intro n h
    have e : ((revW m n).getD 15 0 + sig0 ((revW m n).getD 14 0) + (revW m n).getD 6 0 + sig1 ((revW m n).getD 1 0)) = W m n := by
      rw [revW_get _ _ _ (by omega), revW_get _ _ _ (by omega), revW_get _ _ _ (by omega), revW_get _ _ _ (by omega), W_of m n h,
        show n - 1 - 15 = n - 16 by omega, show n - 1 - 14 = n - 15 by omega, show n - 1 - 6 = n - 7 by omega, show n - 1 - 1 = n - 2 by omega]
      rfl
    show Wl k (_ :: revW m n) = _
    rw [e]
    have := ih (n + 1) (by omega)
    rw [show n + 1 + k = n + (k + 1) by omega] at this
    exact this
theorem runs_congr (Kf : Nat → UInt32) (f g : Nat → UInt32) (s : S8) : ∀ n, (∀ i, i < n → f i = g i) → runs Kf f s n = runs Kf g s n := by
  intro n
  induction n with
  | zero => intro _; rfl
  | succ n ih =>
    intro h
    unfold runs
    rw [ih (fun i hi => h i (by omega)), h n (by omega)]
def abcW : List UInt32 := Wl 48 [24, 0, 0, 0, 0, 0, 0, 0, 0, 0, 0, 0, 0, 0, 0, 0x61626380]

theorem abc_run : (start.a + (runs K (fun i => abcW.getD (63 - i) 0) start 64).a) = 0xba7816bf := by
  kernel_rfl
theorem abc_words : (fun i => wordAt (padded [97, 98, 99]) 0 i) 0 = 0x61626380 ∧ (∀ i, 1 ≤ i → i < 15 → wordAt (padded [97, 98, 99]) 0 i = 0) ∧ wordAt (padded [97, 98, 99]) 0 15 = 24 := by
  refine ⟨by kernel_rfl, fun i h1 h2 => ?_, by kernel_rfl⟩
  have : i = 1 ∨ i = 2 ∨ i = 3 ∨ i = 4 ∨ i = 5 ∨ i = 6 ∨ i = 7 ∨ i = 8 ∨ i = 9 ∨ i = 10 ∨ i = 11 ∨ i = 12 ∨ i = 13 ∨ i = 14 := by omega
  rcases this with rfl | rfl | rfl | rfl | rfl | rfl | rfl | rfl | rfl | rfl | rfl | rfl | rfl | rfl <;> (show wordAt _ _ _ = _; kernel_rfl)
theorem dig_get_ (s : S8) (i : Nat) (hi : i < 32) : (dig s)[i]? = some (UInt8.ofNat ((s.at_ (i / 4)).toNat / 2 ^ (24 - 8 * (i % 4)))) := by
  simp [dig, hi]
theorem abc_first : (sumf [97, 98, 99])[0]? = some 0xBA := by
  have hN : (padded [97, 98, 99]).length / 64 = 1 := by kernel_rfl
  have hrev : revW (wordAt (padded [97, 98, 99]) 0) 16 = [24, 0, 0, 0, 0, 0, 0, 0, 0, 0, 0, 0, 0, 0, 0, 0x61626380] := by
    obtain ⟨h0, h1, h2⟩ := abc_words
    simp only [revW]
    rw [W_lo _ 15 (by omega), W_lo _ 14 (by omega), W_lo _ 13 (by omega), W_lo _ 12 (by omega), W_lo _ 11 (by omega), W_lo _ 10 (by omega), W_lo _ 9 (by omega), W_lo _ 8 (by omega), W_lo _ 7 (by omega),
      W_lo _ 6 (by omega), W_lo _ 5 (by omega), W_lo _ 4 (by omega), W_lo _ 3 (by omega), W_lo _ 2 (by omega), W_lo _ 1 (by omega), W_lo _ 0 (by omega), h2]
    rw [show wordAt (padded [97, 98, 99]) 0 0 = 0x61626380 from h0]
    rw [h1 14 (by omega) (by omega), h1 13 (by omega) (by omega), h1 12 (by omega) (by omega), h1 11 (by omega) (by omega), h1 10 (by omega) (by omega), h1 9 (by omega) (by omega), h1 8 (by omega) (by omega), h1 7 (by omega) (by omega),
      h1 6 (by omega) (by omega), h1 5 (by omega) (by omega), h1 4 (by omega) (by omega), h1 3 (by omega) (by omega), h1 2 (by omega) (by omega), h1 1 (by omega) (by omega)]
  have hall : abcW = revW (wordAt (padded [97, 98, 99]) 0) 64 := by
    unfold abcW
    rw [← hrev, Wl_rev _ 48 16 (by omega)]
  have hruns : runs K (W (wordAt (padded [97, 98, 99]) 0)) start 64 = runs K (fun i => abcW.getD (63 - i) 0) start 64 := by
    refine runs_congr _ _ _ _ 64 fun i hi => ?_
    show _ = abcW.getD (63 - i) 0
    rw [hall, revW_get _ _ _ (by omega)]
    congr 1
    omega
  have ha : (blockf start (padded [97, 98, 99]) 0).a = 0xba7816bf := by
    unfold blockf
    rw [hruns]
    exact abc_run
  have e : sumf [97, 98, 99] = dig (blockf start (padded [97, 98, 99]) 0) := by unfold sumf; rw [hN]; rfl
  rw [e]
  obtain ⟨t, ht⟩ : ∃ t, t = blockf start (padded [97, 98, 99]) 0 := ⟨_, rfl⟩
  rw [← ht] at ha ⊢
  rw [dig_get_ _ 0 (by omega)]
  show some (UInt8.ofNat (t.a.toNat / 2 ^ 24)) = _
  rw [ha]
  rfl
end Go.Proofs.YtoemceehmiaigaaDoor.Sha
