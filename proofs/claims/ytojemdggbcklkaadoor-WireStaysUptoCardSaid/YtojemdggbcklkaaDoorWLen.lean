/- weirref28.length: a told length. -/
import Derived.Test.YtojemdggbcklkaaDoorWPure
import Derived.Test.YtojemdggbcklkaaDoorWChunk

/- A number's digits: the running value never falls. Plain Lean. -/
namespace Go.Proofs.YtojemdggbcklkaaDoor.Wire
set_option linter.unusedVariables false
set_option linter.unusedSimpArgs false
theorem numS_step {l : Bytes} {k : Nat} (h : k < l.length) : numS (l.take (k + 1)) = numS (l.take k) * 10 + (l[k].toNat - 48) := by
  unfold numS
  rw [List.take_succ_eq_append_getElem h, List.foldl_append]
  rfl
theorem numS_le {l : Bytes} : ∀ {j k : Nat}, j ≤ k → k ≤ l.length → numS (l.take j) ≤ numS (l.take k)
  | j, 0, h, hk => by obtain rfl : j = 0 := by omega
                      exact Nat.le_refl _
  | j, k + 1, h, hk => by
    rcases Nat.lt_or_ge k j with h1 | h1
    · obtain rfl : j = k + 1 := by omega
      exact Nat.le_refl _
    · have := numS_le (l := l) h1 (by omega)
      rw [numS_step (by omega)]
      omega
theorem numS_whole {l : Bytes} {k : Nat} (hk : k ≤ l.length) : numS (l.take k) ≤ numS l := by
  have := numS_le (l := l) hk (Nat.le_refl _)
  rwa [List.take_length] at this
end Go.Proofs.YtojemdggbcklkaaDoor.Wire
namespace Go.Proofs.YtojemdggbcklkaaDoor.WireR
open Go.RowKit Go.Proofs.YtojemdggbcklkaaDoor.Mem Go.Proofs.YtojemdggbcklkaaDoor.Wire Go.Proofs.YtojemdggbcklkaaDoor.Strs Go.Proofs.YtojemdggbcklkaaDoor.Heads
set_option linter.unusedVariables false
set_option linter.unusedSimpArgs false
set_option maxRecDepth 4000

def lenS (l : Bytes) : Int := if l ≠ [] ∧ l.all digB = true then ((min (numS l) 65537 : Nat) : Int) else -1
theorem dig_all {l : Bytes} {k : Nat} (h : k < l.length) (hx : digB l[k] = false) : lenS l = -1 := by
  unfold lenS
  rw [if_neg]
  intro h2
  rw [all_not h hx] at h2
  exact absurd h2.2 (by simp)
set_option maxHeartbeats 4000000 in
theorem length_any (l : List UInt8) (w : World) (hl : l.length ≤ 65536) :
    Calls Tryd.prog 44 #[.string ⟨l.toArray⟩] w fun e w' => e = .returned (.int .i64 (lenS l)) ∧ w = w' := by
  obtain ⟨n, hn⟩ : ∃ n, n = l.length := ⟨_, rfl⟩
  obtain ⟨s, hs⟩ : ∃ s, s = (⟨l.toArray⟩ : ByteArray) := ⟨_, rfl⟩
  have hsz : s.size = n := by rw [hs, hn]; simp [ByteArray.size]
  have hni : (n : Int) ≤ 65536 := by omega
  by_cases h0 : l = []
  · have HE := Lib.hid (show lenS l = -1 by unfold lenS; rw [if_neg (fun h => h.1 h0)])
    have k0 : s.toList.isEmpty = true := by rw [hs, h0, ByteArray.toList_eq]; rfl
    rw [← hs]
    clear hn hs hl h0
    go_enter Tryd.func44, Tryd.ntmps44
    go_wp2
    go_ret
    exact ⟨by rw [HE.out]; rfl, rfl⟩
  · have k0 : s.toList.isEmpty = false := by rw [hs, ByteArray.toList_eq]; cases l with | nil => exact absurd rfl h0 | cons a r => rfl
    have HD := Lib.hid (And.intro hn (And.intro hs (And.intro hl h0)))
    rw [← hs]
    clear hn hs hl h0
    go_enter Tryd.func44, Tryd.ntmps44
    go_wp2
    go_loopw [3, 4] (fun a v wr => ∃ k M : Nat, k ≤ n ∧ v = .int .i64 k ∧ a = .int .i64 M ∧ M = min (numS (l.take k)) 65537 ∧ (l.take k).all digB = true ∧ wr = w) (fun _ v _ => n - (intOf v).toNat)
    case atStart => exact ⟨0, 0, by omega, rfl, rfl, by simp [numS], rfl, rfl⟩
    case round =>
      obtain ⟨k, M, hk, rfl, rfl, hM, hall, rfl⟩ := hrel
      have hk0 : (0 : Int) ≤ (k : Int) := by omega
      by_cases hlt : k < n
      · have hkl : k < l.length := by have := HD.out.1; omega
        obtain ⟨x, hx⟩ : ∃ x, x = l[k] := ⟨_, rfl⟩
        have hks : k < s.size := by omega
        have hsx : s[k] = x := by
          have : ∀ s' : ByteArray, s' = (⟨l.toArray⟩ : ByteArray) → ∀ h, s'[k]'h = l[k] := fun s' e h => by subst e; rfl
          rw [hx]; exact this s HD.out.2.1 hks
        have hki : (k : Int) < (n : Int) := by omega
        have hst := all_step (p := digB) hkl
        have hsum := numS_step hkl
        rw [← hx] at hst hsum
        rw [hall, Bool.true_and] at hst
        obtain ⟨g1, hg1⟩ : ∃ b, decide ((x.toNat : Int) < 48) = b := ⟨_, rfl⟩
        obtain ⟨g2, hg2⟩ : ∃ b, decide ((57 : Int) < (x.toNat : Int)) = b := ⟨_, rfl⟩
        have hd : digB x = (!g1 && !g2) := by
          rw [← hg1, ← hg2]
          unfold digB digN
          rw [Bool.eq_iff_iff]
          simp
          omega
        have hx256 : x.toNat < 256 := x.toNat_lt
        cases g1
        · cases g2
          · obtain ⟨z, hz⟩ : ∃ z, z = x.toNat - 48 := ⟨_, rfl⟩
            have h48 : ¬ (x.toNat : Int) < 48 := of_decide_eq_false hg1
            have h57 : ¬ (57 : Int) < (x.toNat : Int) := of_decide_eq_false hg2
            have hzy : x.toNat = z + 48 := by omega
            rw [← hz] at hsum
            have hM7 : M ≤ 65537 := by omega
            have hz9 : z ≤ 9 := by omega
            obtain ⟨M10, hM10⟩ : ∃ M10, M10 = M * 10 := ⟨_, rfl⟩
            obtain ⟨M2, hM2⟩ : ∃ M2, M2 = M10 + z := ⟨_, rfl⟩
            obtain ⟨M3, hM3⟩ : ∃ M3, M3 = min M2 65537 := ⟨_, rfl⟩
            have e10 : (M : Int) * 10 = (M10 : Int) := by omega
            have b10 : (0 : Int) ≤ (M10 : Int) := by omega
            have b11 : (M10 : Int) ≤ 1152921504606846976 := by omega
            have e2 : (M10 : Int) + (z : Int) = (M2 : Int) := by omega
            have b20 : (0 : Int) ≤ (M2 : Int) := by omega
            have b21 : (M2 : Int) ≤ 1152921504606846976 := by omega
            have e3 : min (M2 : Int) 65537 = (M3 : Int) := by omega
            have HM := Lib.hid (And.intro (show M3 = min (numS (l.take (k + 1))) 65537 by rw [hsum, hM3, hM2, hM10, hM]; clear hM2 hM3 hM10; omega) (And.intro (hst.trans (by rw [hd])) hlt))
            have q1 := w64b e10 b10 b11
            have q2 := w64b e2 b20 b21
            have q3 : IntKind.u8.wrap ((x.toNat : Int) - 48) = (z : Int) := u8sub (m := 48) hzy hx256
            have q4 : ((x.toNat : Int) - 48) % 256 = (z : Int) := size_mod (m := 48) hzy hx256
            clear hz h48 h57 hzy hM7 hz9 hM10 hM2 hM3 e10 b10 b11 e2 b20 b21 hsum hst hd hx256 hM hall hlt hkl hx
            go_wp2
            exact ⟨⟨k + 1, M3, by have := HM.out.2.2; omega, by go_num, rfl, HM.out.1, HM.out.2.1, trivial⟩, by simp [intOf]; try omega⟩
          · have HE := Lib.hid (dig_all hkl (by rw [← hx, hd]; rfl))
            clear hd hst hsum hall hM hx hx256 hkl
            go_wp2
            go_ret
            exact ⟨by rw [HE.out]; rfl, rfl⟩
        · have HE := Lib.hid (dig_all hkl (by rw [← hx, hd]; rfl))
          clear hd hst hsum hall hM hx hx256 hkl
          go_wp2
          go_ret
          exact ⟨by rw [HE.out]; rfl, rfl⟩
      · obtain rfl : k = n := by omega
        have ht : l.take k = l := List.take_of_length_le (by have := HD.out.1; omega)
        rw [ht] at hall hM
        have HE := Lib.hid (show lenS l = (M : Int) by unfold lenS; rw [if_pos ⟨HD.out.2.2.2, hall⟩, hM])
        clear hlt ht hall hM
        go_wp2
        go_ret
        exact ⟨by rw [HE.out]; rfl, rfl⟩
end Go.Proofs.YtojemdggbcklkaaDoor.WireR
