/- Targets, queries and forms in plain words. No program. -/
import Derived.Test.YtompcngeikjfiaaDoorMem
import Derived.Laws.BitsAllLaws
namespace Go.Proofs.YtompcngeikjfiaaDoor.Uri
open Go.RowKit Go.Proofs.YtompcngeikjfiaaDoor.Mem

theorem below {n : Nat} {f : Nat → Bool} (h : ((List.range n).all f) = true) {a : Nat} (ha : a < n) : f a = true := List.all_eq_true.1 h a (List.mem_range.2 ha)
def byt (n : Nat) : UInt8 := UInt8.ofNat n
theorem bytN {n : Nat} (h : n < 256) : (byt n).toNat = n := by unfold byt; rw [UInt8.toNat_ofNat']; exact Nat.mod_eq_of_lt h

/-- a hexadecimal digit's value; 16: it is none -/
def hexN (c : Nat) : Nat := if 48 ≤ c ∧ c ≤ 57 then c - 48 else if 97 ≤ c ∧ c ≤ 102 then c - 97 + 10 else if 65 ≤ c ∧ c ≤ 70 then c - 65 + 10 else 16
def hexZ (c : Nat) : Int := if hexN c = 16 then -1 else (hexN c : Int)
theorem hexN_le (c : Nat) : hexN c ≤ 16 := by unfold hexN; split; omega; split; omega; split <;> omega
theorem hexN_a {x : Nat} (h1 : 48 ≤ x) (h2 : x ≤ 57) : hexN x = x - 48 := by unfold hexN; rw [if_pos ⟨h1, h2⟩]
theorem hexN_b {x : Nat} (h1 : 97 ≤ x) (h2 : x ≤ 102) : hexN x = x - 97 + 10 := by unfold hexN; rw [if_neg (by omega), if_pos ⟨h1, h2⟩]
theorem hexN_c {x : Nat} (h1 : 65 ≤ x) (h2 : x ≤ 70) : hexN x = x - 65 + 10 := by unfold hexN; rw [if_neg (by omega), if_neg (by omega), if_pos ⟨h1, h2⟩]
theorem hexN_d {x : Nat} (h1 : ¬ (48 ≤ x ∧ x ≤ 57)) (h2 : ¬ (97 ≤ x ∧ x ≤ 102)) (h3 : ¬ (65 ≤ x ∧ x ≤ 70)) : hexN x = 16 := by unfold hexN; rw [if_neg h1, if_neg h2, if_neg h3]
def plainB (c : Nat) : Bool := (97 ≤ c && c ≤ 122) || (65 ≤ c && c ≤ 90) || (48 ≤ c && c ≤ 57) || c == 45 || c == 46 || c == 95 || c == 126
/-- a byte that is no percent sign, as it is read -/
def conv (plus : Bool) (c : UInt8) : UInt8 := if c = 43 ∧ plus = true then 32 else c
def hexs (d e : UInt8) : UInt8 := byt (16 * hexN d.toNat + hexN e.toNat)
def unescF (plus : Bool) : Nat → List UInt8 → Option (List UInt8)
  | 0, _ => some []
  | _ + 1, [] => some []
  | f + 1, c :: r =>
    if c = 37 then
      match r with
      | d :: e :: r' => if hexN d.toNat = 16 ∨ hexN e.toNat = 16 then none else (unescF plus f r').map (hexs d e :: ·)
      | _ => none
    else (unescF plus f r).map (conv plus c :: ·)
theorem unescF_more (plus : Bool) : ∀ (f g : Nat) (l : List UInt8), l.length ≤ f → f ≤ g → unescF plus g l = unescF plus f l
  | 0, 0, l, _, _ => rfl
  | 0, g + 1, l, h, _ => by
    have : l = [] := List.eq_nil_of_length_eq_zero (by omega)
    subst this; rfl
  | f + 1, 0, l, _, h => absurd h (by omega)
  | f + 1, g + 1, [], _, _ => rfl
  | f + 1, g + 1, c :: r, h, hg => by
    have h' : r.length ≤ f := by simpa using h
    unfold unescF
    by_cases hc : c = 37
    · rw [if_pos hc, if_pos hc]
      rcases r with _ | ⟨d, _ | ⟨e, r'⟩⟩
      · rfl
      · rfl
      · simp only
        rw [unescF_more plus f g r' (by simp at h'; omega) (by omega)]
    · rw [if_neg hc, if_neg hc, unescF_more plus f g r h' (by omega)]
def unesc (plus : Bool) (l : List UInt8) : Option (List UInt8) := unescF plus l.length l
theorem unesc_nil (plus : Bool) : unesc plus [] = some [] := rfl
theorem unesc_plain {plus : Bool} {c : UInt8} {r : List UInt8} (h : c ≠ 37) : unesc plus (c :: r) = (unesc plus r).map (conv plus c :: ·) := by
  unfold unesc
  rw [List.length_cons]
  conv => lhs; unfold unescF
  rw [if_neg h]
theorem unesc_short {plus : Bool} {r : List UInt8} (h : r.length < 2) : unesc plus (37 :: r) = none := by
  unfold unesc
  rw [List.length_cons]
  conv => lhs; unfold unescF
  rw [if_pos rfl]
  rcases r with _ | ⟨d, _ | ⟨e, r'⟩⟩
  · rfl
  · rfl
  · simp at h; omega
theorem unesc_hex {plus : Bool} {d e : UInt8} {r : List UInt8} : unesc plus (37 :: d :: e :: r) = if hexN d.toNat = 16 ∨ hexN e.toNat = 16 then none else (unesc plus r).map (hexs d e :: ·) := by
  unfold unesc
  rw [List.length_cons]
  conv => lhs; unfold unescF
  rw [if_pos rfl]
  simp only
  rw [unescF_more plus r.length (d :: e :: r).length r (Nat.le_refl _) (by simp; omega)]
def dig (v : Nat) : UInt8 := byt (if v < 10 then 48 + v else 55 + v)
def escOne (c : UInt8) : List UInt8 := if plainB c.toNat = true then [c] else [37, dig (c.toNat / 16), dig (c.toNat % 16)]
def esc (l : List UInt8) : List UInt8 := l.flatMap escOne
theorem esc_take {l : List UInt8} {k : Nat} (h : k < l.length) : esc (l.take (k + 1)) = esc (l.take k) ++ escOne l[k] := by
  unfold esc
  rw [take_succ_ h, List.flatMap_append]
  simp
end Go.Proofs.YtompcngeikjfiaaDoor.Uri
