import Derived.Test.YtoemceehmiaigaaDoorMem
import Derived.Test.YtoemceehmiaigaaDoorProg
import Derived.Laws.BitsAllLaws
namespace Go.Proofs.YtoemceehmiaigaaDoor.Equal
open Go.RowKit Go.Proofs.YtoemceehmiaigaaDoor.Mem

/-- What the loop keeps: 'off' is nought just where all the bytes so far are alike. -/
theorem step (n : Nat) (a b : UInt8) (h1 : n < 256) : ∃ m : Nat, m < 256 ∧
    bits .or .u8 (n : Int) (bits .xor .u8 (a.toNat : Int) (b.toNat : Int)) = (m : Int) ∧ (m = 0 ↔ n = 0 ∧ a = b) := by
  have hx : a.toNat ^^^ b.toNat < 2 ^ 8 := Nat.xor_lt_two_pow a.toNat_lt b.toNat_lt
  refine ⟨n ||| (a.toNat ^^^ b.toNat), Nat.or_lt_two_pow (n := 8) h1 hx, ?_, ?_⟩
  · rw [u8_xor_nat _ _ a.toNat_lt b.toNat_lt, u8_or_nat _ _ h1 hx]
  · rw [Nat.or_eq_zero_iff]
    refine and_congr_right fun _ => ⟨fun h => UInt8.toNat_inj.1 (Nat.eq_of_testBit_eq fun i => ?_), fun h => by rw [h, Nat.xor_self]⟩
    have := congrArg (Nat.testBit · i) h
    simpa using this

theorem take_iff {la lb : List UInt8} {k : Nat} (ha : k < la.length) (hb : k < lb.length) :
    la.take (k + 1) = lb.take (k + 1) ↔ la.take k = lb.take k ∧ la[k] = lb[k] := by
  rw [take_succ_ ha, take_succ_ hb]
  constructor
  · intro h
    have := List.append_inj' h rfl
    simpa using this
  · rintro ⟨h1, h2⟩
    rw [h1, h2]

set_option maxHeartbeats 400000 in
theorem any (A B : Option Addr) (ca cb : Nat) (la lb : List UInt8) (w : World) (ha : RB w A la) (hb : RB w B lb) (hca : la.length ≤ maxLen) (hcb : lb.length ≤ maxLen) :
    Calls Tryd.prog 61 #[.slice A la.length ca, .slice B lb.length cb] w fun e w' => e = .returned (.bool (decide (la = lb))) ∧ ∃ n, w' = w.drewN n := by
  unfold maxLen at hca hcb
  by_cases hl : la.length = lb.length
  · have hne : ((la.length : Int) != (lb.length : Int)) = false := by simp [hl]
    have Hl := Lib.hid hl
    have HA := Lib.hid ha
    have HB := Lib.hid hb
    clear hl ha hb
    go_enter Tryd.func61, Tryd.ntmps61
    go_wp2
    go_loopw [5, 14] (fun off i wr => ∃ k n : Nat, k ≤ la.length ∧ i = .int .i64 k ∧ off = .int .u8 n ∧ n < 256 ∧ (n = 0 ↔ la.take k = lb.take k) ∧ ∃ d, wr = w.drewN d)
      (fun _ i _ => la.length - (intOf i).toNat)
    case atStart => exact ⟨0, 0, Nat.zero_le _, rfl, rfl, by omega, by simp, 0, rfl⟩
    case round =>
      obtain ⟨k, n, hk, rfl, rfl, hn, hz, d, rfl⟩ := hrel
      have Hz := Lib.hid hz
      clear hz
      by_cases hlt : k < la.length
      · have hlt' : k < lb.length := by have := Hl.out; omega
        obtain ⟨ad, rfl, hc⟩ := HA.out k hlt
        obtain ⟨bd, rfl, hd⟩ := HB.out k hlt'
        have hlt'' : (k : Int) < (la.length : Int) := by omega
        have hltb : (k : Int) < (lb.length : Int) := by omega
        go_wp2_with fail
        go_quiet (fail)
        go_wp2
        obtain ⟨m, hm, e, hm0⟩ := step n la[k] lb[k] hn
        go_roundw
        case rel => exact ⟨k + 1, m, by omega, by go_num, by rw [e], hm, by rw [hm0, take_iff hlt hlt', Hz.out], _, rfl⟩
        case measure => simp [intOf]; omega
      · have : k = la.length := by omega
        subst this
        go_wp2
        go_ret
        refine ⟨ret_bool ?_, d, rfl⟩
        have := Hz.out
        rw [List.take_of_length_le (Nat.le_refl _), List.take_of_length_le (by have := Hl.out; omega)] at this
        rw [Bool.eq_iff_iff]
        simp only [decide_eq_true_eq]
        rw [← this]
        simp
  · have hne : ((la.length : Int) != (lb.length : Int)) = true := by simp; omega
    go_enter Tryd.func61, Tryd.ntmps61
    go_wp2
    go_ret
    exact ⟨ret_bool (by rw [show decide (la = lb) = false from decide_eq_false (fun h => hl (by rw [h]))]), 0, rfl⟩
end Go.Proofs.YtoemceehmiaigaaDoor.Equal
