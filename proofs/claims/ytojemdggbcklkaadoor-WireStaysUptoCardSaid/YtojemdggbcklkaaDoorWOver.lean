/- over: a cursor over a request's bytes. -/
import Derived.Test.YtojemdggbcklkaaDoorWFields
namespace Go.Proofs.YtojemdggbcklkaaDoor.WireR
open Go.RowKit Go.Proofs.YtojemdggbcklkaaDoor.Mem Go.Proofs.YtojemdggbcklkaaDoor.Wire Go.Proofs.YtojemdggbcklkaaDoor.Strs
set_option linter.unusedVariables false
set_option linter.unusedSimpArgs false
set_option maxRecDepth 4000

set_option maxHeartbeats 2000000 in
theorem over_any (A : Option Addr) (n c : Nat) (s : List UInt8) (w : World) (hA : RB w A s) (hn : n = s.length) (hc : n ≤ c) (hl : n ≤ 1152921504606846976) :
    Calls Tryd.prog 31 #[.slice A n c] w fun e w' => e = .returned (.pointer (some ⟨w.heap.size, 0, none⟩)) ∧ Cur w' w.heap.size A c (s.take 65536) 0 (decide (65536 < n)) ∧ Below w.heap.size w w' := by
  have HA := Lib.hid (And.intro hA (And.intro hn hc))
  clear hA hn hl
  have hci : (n : Int) ≤ (c : Int) := by omega
  by_cases h : 65536 < n
  · have b1 : decide ((65536 : Int) < (n : Int)) = true := by rw [decide_eq_true_iff]; omega
    have hcc : (65536 : Int) ≤ (c : Int) := by omega
    have hdec : decide (65536 < n) = true := decide_eq_true h
    rw [hdec]
    have HC := Lib.hid (And.intro h hc)
    clear hdec h hc
    go_enter Tryd.func31, Tryd.ntmps31
    go_wp2_with (first
      | ((with_reducible show wpList _ _ _ (⟨some 6, _, _, _, _, _⟩ :: _) _ _); go_must (refine wpList_boxB rfl (.tmp 5) rfl [.slice A n c, .int .i64 0, .bool false] rfl w.heap.size rfl ?_); intro w1 hB1 hb1 hz1
         have k0 := hB1.cell 0
         have k2 := hB1.cell 2
         have f0 := hB1.frozen 0
         have f2 := hB1.frozen 2
         simp only [List.getElem?_cons_succ, List.getElem?_cons_zero] at k0 k2
         have H1 := Lib.hid (And.intro hB1 hb1); clear hB1 hb1 hz1))
    go_ret
    have hb : Below w.heap.size w ((w1.setCell ⟨w.heap.size, 0, none⟩ (.slice A 65536 c)).setCell ⟨w.heap.size, 2, none⟩ (.bool true)) :=
      H1.out.2.grown ((grownBy_set w1 w.heap.size 0 _).trans (grownBy_set _ w.heap.size 2 _)) H1.out.2.size (fun k hk => by injection hk with hk; omega)
    have hlen : (s.take 65536).length = 65536 := by rw [List.length_take]; have := HC.out.1; have := HA.out.2.1; omega
    refine ⟨rfl, ⟨?_, (HA.out.1.take 65536).below hb, fun hs ad e => ?_, Nat.zero_le _, by omega, by have := HC.out; omega⟩, hb⟩
    · have := (H1.out.1.set_ 0 (.slice A 65536 c)).set_ 2 (.bool true)
      rw [hlen]
      exact this
    · have := rb_lt (HA.out.1.take 65536) hs ad e
      omega
  · have b1 : decide ((65536 : Int) < (n : Int)) = false := by rw [decide_eq_false_iff_not]; omega
    have hdec : decide (65536 < n) = false := decide_eq_false h
    rw [hdec]
    have HC := Lib.hid (And.intro h hc)
    clear hdec h hc
    go_enter Tryd.func31, Tryd.ntmps31
    go_wp2_with (first
      | ((with_reducible show wpList _ _ _ (⟨some 6, _, _, _, _, _⟩ :: _) _ _); go_must (refine wpList_boxB rfl (.tmp 5) rfl [.slice A n c, .int .i64 0, .bool false] rfl w.heap.size rfl ?_); intro w1 hB1 hb1 hz1
         have k0 := hB1.cell 0
         have k2 := hB1.cell 2
         have f0 := hB1.frozen 0
         have f2 := hB1.frozen 2
         simp only [List.getElem?_cons_succ, List.getElem?_cons_zero] at k0 k2
         have H1 := Lib.hid (And.intro hB1 hb1); clear hB1 hb1 hz1))
    go_ret
    have ht : s.take 65536 = s := List.take_of_length_le (by have := HC.out.1; have := HA.out.2.1; omega)
    rw [ht]
    refine ⟨rfl, ⟨?_, HA.out.1.below H1.out.2, fun hs ad e => ?_, Nat.zero_le _, by have := HC.out.1; have := HA.out.2.1; omega, by have := HA.out.2; omega⟩, H1.out.2⟩
    · rw [← HA.out.2.1]
      exact H1.out.1
    · have := rb_lt HA.out.1 hs ad e
      omega
end Go.Proofs.YtojemdggbcklkaaDoor.WireR
