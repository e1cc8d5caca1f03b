/- weirlaw04.ShaRoots in plain words: products in digits of 16 bits, the small primes, and the closed facts about the round and start words. No program. -/
import Derived.Test.YtoemceehmiaigaaDoorMem
namespace Go.Proofs.YtoemceehmiaigaaDoor.Roots
set_option maxRecDepth 10000

def dg (n : Nat) : List Nat := [n % 65536, n / 65536 % 65536, n / 4294967296 % 65536, n / 281474976710656]
def mulStep (x : Nat) (b : List Nat) (i : Nat) (s : List Nat × Nat) (j : Nat) : List Nat × Nat :=
  (s.1.set (i + j) ((s.1.getD (i + j) 0 + x * b.getD j 0 + s.2) % 65536), (s.1.getD (i + j) 0 + x * b.getD j 0 + s.2) / 65536)
def mulRow (x : Nat) (b : List Nat) (i : Nat) (c : List Nat) : Nat → List Nat × Nat
  | 0 => (c, 0)
  | j + 1 => mulStep x b i (mulRow x b i c j) j
def mulDone (x : Nat) (b : List Nat) (i : Nat) (c : List Nat) : List Nat :=
  (mulRow x b i c b.length).1.set (i + b.length) ((mulRow x b i c b.length).1.getD (i + b.length) 0 + (mulRow x b i c b.length).2)
def mulUpto (a b : List Nat) : Nat → List Nat
  | 0 => List.replicate (a.length + b.length) 0
  | i + 1 => mulDone (a.getD i 0) b i (mulUpto a b i)
def mulF (a b : List Nat) : List Nat := mulUpto a b a.length

theorem getD_bd {l : List Nat} {B : Nat} (h : ∀ e ∈ l, e ≤ B) (i : Nat) : l.getD i 0 ≤ B := by
  rw [List.getD_eq_getElem?_getD]
  cases hi : l[i]? with
  | none => simp
  | some v => exact h v (List.mem_of_getElem? hi)
theorem set_bd {l : List Nat} {B v : Nat} (h : ∀ e ∈ l, e ≤ B) (hv : v ≤ B) (i : Nat) : ∀ e ∈ l.set i v, e ≤ B := fun e he => by
  rcases List.mem_or_eq_of_mem_set he with h' | h'
  · exact h e h'
  · omega
theorem mulRow_length (x : Nat) (b : List Nat) (i : Nat) (c : List Nat) (j : Nat) : (mulRow x b i c j).1.length = c.length := by
  induction j with
  | zero => rfl
  | succ j ih => simp [mulRow, mulStep, ih]
theorem mulDone_length (x : Nat) (b : List Nat) (i : Nat) (c : List Nat) : (mulDone x b i c).length = c.length := by simp [mulDone, mulRow_length]
theorem mulUpto_length (a b : List Nat) (i : Nat) : (mulUpto a b i).length = a.length + b.length := by
  induction i with
  | zero => simp [mulUpto]
  | succ i ih => rw [mulUpto, mulDone_length, ih]
theorem mulRow_bd {x A E K : Nat} {b c : List Nat} (i : Nat) (hx : x ≤ A) (hb : ∀ y ∈ b, y ≤ 65535) (hc : ∀ e ∈ c, e ≤ E) (hE : 65535 ≤ E) (hK : E + A * 65535 + K ≤ 65536 * K) (j : Nat) :
    (∀ e ∈ (mulRow x b i c j).1, e ≤ E) ∧ (mulRow x b i c j).2 ≤ K := by
  induction j with
  | zero => exact ⟨hc, by simp [mulRow]⟩
  | succ j ih =>
    have h1 := getD_bd ih.1 (i + j)
    have h2 : x * b.getD j 0 ≤ A * 65535 := Nat.mul_le_mul hx (getD_bd hb j)
    simp only [mulRow, mulStep]
    exact ⟨set_bd ih.1 (by omega) _, by omega⟩
theorem mulUpto_bd {A K : Nat} {a b : List Nat} (ha : ∀ y ∈ a, y ≤ A) (hb : ∀ y ∈ b, y ≤ 65535) (n : Nat) (hn : n ≤ 12) (hK : 65535 + K * 13 + A * 65535 ≤ 65536 * K) : ∀ e ∈ mulUpto a b n, e ≤ 65535 + K * n := by
  induction n with
  | zero =>
    intro e he
    rw [mulUpto] at he
    have := (List.mem_replicate.1 he).2
    omega
  | succ n ih =>
    have h0 := ih (by omega)
    have hr := mulRow_bd (x := a.getD n 0) (A := A) (E := 65535 + K * n) (K := K) (b := b) (c := mulUpto a b n) n (getD_bd ha n) hb h0 (by omega) (by
      have : K * n ≤ K * 12 := Nat.mul_le_mul_left _ (by omega)
      omega) b.length
    have h1 := getD_bd hr.1 (n + b.length)
    rw [mulUpto, mulDone, Nat.mul_succ]
    exact set_bd (fun e he => by have := hr.1 e he; omega) (by omega) _
theorem dg_bd {n : Nat} (h : n ≤ 18446744073709551615) : ∀ e ∈ dg n, e ≤ 65535 := by
  intro e he
  simp only [dg, List.mem_cons, List.not_mem_nil, or_false] at he
  omega

def zF (x : Nat) : Nat → List Nat
  | 0 => dg x
  | k + 1 => mulF (zF x k) (dg x)
def cmpF (z : List Nat) (p deg : Nat) : Nat → Bool
  | 0 => true
  | i + 1 => if z.getD i 0 = (if i = 2 * deg then p else 0) then cmpF z p deg i else decide (z.getD i 0 < (if i = 2 * deg then p else 0))
def atMostF (x p deg : Nat) : Bool := cmpF (zF x (deg - 1)) p deg (4 * deg)
theorem dg_length (n : Nat) : (dg n).length = 4 := rfl
theorem zF_length (x k : Nat) : (zF x k).length = 4 * (k + 1) := by
  induction k with
  | zero => rfl
  | succ k ih => rw [zF, mulF, mulUpto_length, ih, dg_length]; omega
theorem zF_bd0 {x : Nat} (h : x ≤ 18446744073709551615) : ∀ e ∈ zF x 0, e ≤ 65535 := dg_bd h
theorem zF_succ (x k : Nat) : zF x (k + 1) = mulUpto (zF x k) (dg x) (4 * (k + 1)) := by rw [zF, mulF, zF_length]
theorem zF_bd1 {x : Nat} (h : x ≤ 18446744073709551615) : ∀ e ∈ zF x 1, e ≤ 2097152 := fun e he => by
  rw [zF_succ] at he
  have := mulUpto_bd (A := 65535) (K := 131072) (zF_bd0 h) (dg_bd h) (4 * (0 + 1)) (by omega) (by omega) e he
  omega
theorem zF_bd2 {x : Nat} (h : x ≤ 18446744073709551615) : ∀ e ∈ zF x 2, e ≤ 67108864 := fun e he => by
  rw [zF_succ] at he
  have := mulUpto_bd (A := 2097152) (K := 4194304) (zF_bd1 h) (dg_bd h) (4 * (1 + 1)) (by omega) (by omega) e he
  omega

/-! ### the small primes, the roots' whole parts -/
def isUpto (p : Nat) : Nat → Bool
  | 0 => true
  | d + 1 => isUpto p d && (decide (d < 2) || p % d != 0)
def rootUp (p : Nat) : Nat := ((List.range 20).find? fun d => decide (2 ≤ d) && decide (p < d * d)).getD 0
def isP (p : Nat) : Bool := isUpto p (rootUp p)
def cnt : Nat → Nat
  | 0 => 0
  | p + 1 => cnt p + if 2 ≤ p ∧ isP p = true then 1 else 0
def goF (p deg n : Nat) : Bool := decide ((n + 1) * (n + 1) ≤ p) && (decide (deg = 2) || decide ((n + 1) * (n + 1) * (n + 1) ≤ p))
def wholeF (p deg : Nat) : Nat := ((List.range 20).find? fun n => decide (1 ≤ n) && !goF p deg n).getD 0
end Go.Proofs.YtoemceehmiaigaaDoor.Roots
