/- weirlaw04.ShaRoots: the closed facts, by the kernel. -/
import Derived.Test.YtoemceehmiaigaaDoorRootsPure
import Derived.Test.YtoemceehmiaigaaDoorShaSpec
namespace Go.Proofs.YtoemceehmiaigaaDoor.Roots
open Go.Proofs.YtoemceehmiaigaaDoor.Sha
set_option maxRecDepth 10000

def all2 (n m : Nat) (f : Nat → Nat → Bool) : Bool := (List.range n).all fun a => (List.range m).all fun b => f a b
theorem all2_of {n m : Nat} {f : Nat → Nat → Bool} (h : all2 n m f = true) {a b : Nat} (ha : a < n) (hb : b < m) : f a b = true := by
  have h1 := List.all_eq_true.1 h a (List.mem_range.2 ha)
  exact List.all_eq_true.1 h1 b (List.mem_range.2 hb)
theorem all1_of {n : Nat} {f : Nat → Bool} (h : ((List.range n).all f) = true) {a : Nat} (ha : a < n) : f a = true := List.all_eq_true.1 h a (List.mem_range.2 ha)

theorem root_up {p d : Nat} (hp : p < 312) (hd : d < 20) (h2 : 2 ≤ d) (h : p < d * d) (hl : (d - 1) * (d - 1) ≤ p ∨ d = 2) : d = rootUp p := by
  have : all2 312 20 (fun p d => !(decide (2 ≤ d) && decide (p < d * d) && (decide ((d - 1) * (d - 1) ≤ p) || decide (d = 2))) || decide (d = rootUp p)) = true := by decide +kernel
  have := all2_of this hp hd
  simp only [Bool.or_eq_true, Bool.not_eq_true', Bool.and_eq_false_iff, decide_eq_true_eq, decide_eq_false_iff_not, Bool.or_eq_false_iff] at this
  rcases this with ((h' | h') | h') | h'
  · omega
  · omega
  · rcases hl with hl | hl
    · exact absurd hl h'.1
    · exact absurd hl h'.2
  · exact h'
theorem go_lt {p deg n : Nat} (hp : p < 312) (hn : n < 20) (h : goF p deg n = true) : n < 17 := by
  have : all2 312 20 (fun p n => !decide ((n + 1) * (n + 1) ≤ p) || decide (n < 17)) = true := by decide +kernel
  have := all2_of this hp hn
  unfold goF at h
  simp only [Bool.and_eq_true] at h
  simp only [Bool.or_eq_true, h.1, Bool.not_true, Bool.false_eq_true, false_or, decide_eq_true_eq] at this
  exact this
theorem whole_is {p deg n : Nat} (hd : deg = 2 ∨ deg = 3) (hp : p < 312) (hn : n < 20) (h1 : 1 ≤ n) (ha : ∀ m, 1 ≤ m → m < n → goF p deg m = true) (h : goF p deg n = false) : n = wholeF p deg := by
  have key : (fun n => decide (1 ≤ n) && !goF p deg n) n = true := by simp [h, h1]
  unfold wholeF
  have hf : (List.range 20).find? (fun n => decide (1 ≤ n) && !goF p deg n) = some n := by
    rw [List.find?_range_eq_some]
    refine ⟨by simpa using key, by simpa using hn, fun j hj => ?_⟩
    by_cases h0 : 1 ≤ j
    · simp [ha j h0 hj]
    · simp [h0]
  rw [hf]
  rfl
theorem cnt_lt {p : Nat} (hp : p < 313) : (cnt p < 64) = (p < 312) := by
  have : ((List.range 313).all fun p => decide (cnt p < 64) == decide (p < 312)) = true := by decide +kernel
  have := all1_of this hp
  have h := of_decide_eq_true (p := decide (cnt p < 64) = decide (p < 312)) (by simpa using this)
  simpa using h

def chk (p n : Nat) : Bool :=
  atMostF (wholeF p 3 * 4294967296 + (K n).toNat) p 3 && !atMostF (wholeF p 3 * 4294967296 + (K n).toNat + 1) p 3 &&
  (decide (8 ≤ n) || (atMostF (wholeF p 2 * 4294967296 + (Sha.start.at_ n).toNat) p 2 && !atMostF (wholeF p 2 * 4294967296 + (Sha.start.at_ n).toNat + 1) p 2))
theorem checks {p : Nat} (h2 : 2 ≤ p) (hp : p < 312) (h : isP p = true) : chk p (cnt p) = true := by
  have : ((List.range 312).all fun p => decide (p < 2) || !isP p || chk p (cnt p)) = true := by decide +kernel
  have := all1_of this hp
  simp only [h, Bool.not_true, Bool.or_false, Bool.or_eq_true, decide_eq_true_eq] at this
  rcases this with h' | h'
  · omega
  · exact h'
theorem whole_lt {p deg : Nat} (hd : deg = 2 ∨ deg = 3) (hp : p < 312) : wholeF p deg < 20 := by
  have : ((List.range 312).all fun p => decide (wholeF p 2 < 20) && decide (wholeF p 3 < 20)) = true := by decide +kernel
  have := all1_of this hp
  simp only [Bool.and_eq_true, decide_eq_true_eq] at this
  rcases hd with rfl | rfl
  · exact this.1
  · exact this.2
end Go.Proofs.YtoemceehmiaigaaDoor.Roots
