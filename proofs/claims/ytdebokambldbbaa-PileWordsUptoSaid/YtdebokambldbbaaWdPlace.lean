/- weirlaw07.place: what it answers. -/
import Derived.Test.YtdebokambldbbaaPlSS
namespace Go.Proofs.Ytdebokambldbbaa.LawP
open Go.RowKit Go.Shelf Go.Proofs.Ytdebokambldbbaa.Mem Go.Proofs.Ytdebokambldbbaa.Heap Go.Proofs.Ytdebokambldbbaa.Pile Go.Proofs.Ytdebokambldbbaa.PileS
set_option linter.unusedVariables false
set_option maxRecDepth 4000

/-- a number from 0 to n - 1 -/
def plN (i : Int) (n : Nat) : Nat := (if i < 0 then (-(i + 1)).toNat else i.toNat) % n
theorem plN_lt (i : Int) {n : Nat} (h : 0 < n) : plN i n < n := Nat.mod_lt _ h
theorem place_any (i : Int) (n : Nat) (h0 : 0 < n) (hi : -9223372036854775808 ≤ i ∧ i ≤ 9223372036854775807) (W : World) :
    Calls Try.prog 12 #[.int .i64 i, .int .i64 n] W fun e W' => e = .returned (.int .i64 (plN i n)) ∧ Below W.heap.size W W' := by
  have hn0 : ¬ ((n : Int) = 0) := by omega
  unfold plN
  by_cases h : i < 0
  · obtain ⟨a, ha⟩ : ∃ a : Nat, -(i + 1) = (a : Int) := ⟨(-(i + 1)).toNat, by omega⟩
    have hb : -(a : Int) = i + 1 := by omega
    have w1 : wrap64 (i + 1) = i + 1 := by unfold wrap64; omega
    have w3 : wrap64 (a : Int) = (a : Int) := by clear w1; unfold wrap64; omega
    have w2 : wrap64 (-(i + 1)) = (a : Int) := by rw [ha]; exact w3
    have t1 : ((a : Int)).tmod (n : Int) = ((a % n : Nat) : Int) := by rw [Int.tmod_eq_emod_of_nonneg (Int.natCast_nonneg a)]; exact (Int.natCast_emod a n).symm
    rw [if_pos h, ha]
    simp only [Int.toNat_natCast]
    clear hi hb h0
    go_enter Try.func12, Try.ntmps12
    go_wp2
    go_ret
    exact ⟨rfl, gr W⟩
  · obtain ⟨a, rfl⟩ : ∃ a : Nat, i = (a : Int) := ⟨i.toNat, by omega⟩
    have t1 : ((a : Int)).tmod (n : Int) = ((a % n : Nat) : Int) := by rw [Int.tmod_eq_emod_of_nonneg (Int.natCast_nonneg a)]; exact (Int.natCast_emod a n).symm
    rw [if_neg h]
    simp only [Int.toNat_natCast]
    clear hi h0
    go_enter Try.func12, Try.ntmps12
    go_wp2
    go_ret
    exact ⟨rfl, gr W⟩
end Go.Proofs.Ytdebokambldbbaa.LawP
