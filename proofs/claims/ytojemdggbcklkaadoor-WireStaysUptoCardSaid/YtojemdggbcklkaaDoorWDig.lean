/- digits: judge's test of a length. -/
import Derived.Test.YtojemdggbcklkaaDoorWAll
namespace Go.Proofs.YtojemdggbcklkaaDoor.WireR
open Go.RowKit Go.Proofs.YtojemdggbcklkaaDoor.Mem Go.Proofs.YtojemdggbcklkaaDoor.Wire Go.Proofs.YtojemdggbcklkaaDoor.Strs
set_option linter.unusedVariables false
set_option linter.unusedSimpArgs false
set_option maxRecDepth 4000

set_option maxHeartbeats 1000000 in
theorem digit_any (c : UInt8) (w : World) :
    Calls Tryd.prog 55 #[.int .u8 (c.toNat : Int)] w fun e w' => e = .returned (.bool (digB c)) ∧ w = w' := by
  unfold digB
  obtain ⟨x, hx⟩ : ∃ x, x = c.toNat := ⟨_, rfl⟩
  have hxl : x < 256 := hx ▸ c.toNat_lt
  rw [← hx]
  clear hx
  obtain ⟨y, hy⟩ : ∃ y : Int, y = (x : Int) := ⟨_, rfl⟩
  rw [← hy]
  obtain ⟨r, hr⟩ : ∃ r, r = digN x := ⟨_, rfl⟩
  rw [← hr]
  obtain ⟨b2, h2⟩ : ∃ b, decide ((48 : Int) ≤ y) = b := ⟨_, rfl⟩
  obtain ⟨b3, h3⟩ : ∃ b, decide (y ≤ 57) = b := ⟨_, rfl⟩
  have hb : r = (b2 && b3) := by
    rw [hr, ← h2, ← h3, hy]
    unfold digN
    rw [Bool.eq_iff_iff]
    simp
    omega
  rw [hb]
  clear hb hr hy hxl
  cases b2 <;> cases b3 <;>
  · go_enter Tryd.func55, Tryd.ntmps55
    go_wp2
    go_ret
    exact ⟨rfl, rfl⟩
set_option maxHeartbeats 2000000 in
theorem allOf_dig (l : List UInt8) (w : World) (hl : l.length ≤ 1073741824) :
    Calls Tryd.prog 50 #[.string ⟨l.toArray⟩, .func (.func 55) #[] #[]] w fun e w' => e = .returned (.bool (l.all digB)) ∧ w = w' := by
  obtain ⟨n, hn⟩ : ∃ n, n = l.length := ⟨_, rfl⟩
  obtain ⟨s, hs⟩ : ∃ s, s = (⟨l.toArray⟩ : ByteArray) := ⟨_, rfl⟩
  have hsz : s.size = n := by rw [hs, hn]; simp [ByteArray.size]
  have hni : (n : Int) ≤ 1073741824 := by omega
  have HA := Lib.hid (And.intro hn hs)
  rw [← hs]
  clear hn hs hl
  go_enter Tryd.func50, Tryd.ntmps50
  go_wp2
  go_loopw [5] (fun v wr => ∃ k : Nat, k ≤ n ∧ v = .int .i64 k ∧ (l.take k).all digB = true ∧ wr = w) (fun v _ => n - (intOf v).toNat)
  case atStart => exact ⟨0, by omega, rfl, rfl, rfl⟩
  case round =>
    obtain ⟨k, hk, rfl, hall, rfl⟩ := hrel
    by_cases hlt : k < n
    · have hka : k < l.length := by have := HA.out.1; omega
      obtain ⟨x, hx⟩ : ∃ x, x = l[k] := ⟨_, rfl⟩
      have hks : k < s.size := by omega
      have hsx : s[k] = x := by
        have : ∀ s' : ByteArray, s' = (⟨l.toArray⟩ : ByteArray) → ∀ h, s'[k]'h = l[k] := fun s' e h => by subst e; rfl
        rw [hx]; exact this s HA.out.2 hks
      have hst := all_step (p := digB) hka
      have hno := all_not (p := digB) hka
      rw [← hx] at hst hno
      rw [hall, Bool.true_and] at hst
      obtain ⟨b, hb⟩ : ∃ b, b = digB x := ⟨_, rfl⟩
      have c1 := fun W => digit_any x W
      rw [← hb] at c1 hst hno
      have C1 := Lib.hid c1
      have hki : (k : Int) < (n : Int) := by omega
      have hk0 : (0 : Int) ≤ (k : Int) := by omega
      have HS := Lib.hid (And.intro hst hno)
      clear hx hst hno hall c1 hb hlt hka
      cases b
      · go_wp2_with (first
          | (go_at_call 55; go_must (refine (C1.out _).mono ?_); rintro e w' ⟨rfl, rfl⟩))
        go_ret
        exact ⟨by rw [HS.out.2 trivial]; rfl, rfl⟩
      · go_wp2_with (first
          | (go_at_call 55; go_must (refine (C1.out _).mono ?_); rintro e w' ⟨rfl, rfl⟩))
        exact ⟨⟨k + 1, by omega, by go_num, HS.out.1, trivial⟩, by simp [intOf]; omega⟩
    · obtain rfl : k = n := by omega
      have hf : l.all digB = true := by rw [List.take_of_length_le (by have := HA.out.1; omega)] at hall; exact hall
      have HF := Lib.hid hf
      clear hall hf hlt
      go_wp2
      go_ret
      exact ⟨by rw [HF.out]; rfl, rfl⟩
end Go.Proofs.YtojemdggbcklkaaDoor.WireR
