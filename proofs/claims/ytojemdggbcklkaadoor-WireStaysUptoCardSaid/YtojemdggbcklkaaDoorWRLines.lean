/- ref.line, ref.lines: the reference's lines. -/
import Derived.Test.YtojemdggbcklkaaDoorWFields
namespace Go.Proofs.YtojemdggbcklkaaDoor.WireR
open Go.RowKit Go.Proofs.YtojemdggbcklkaaDoor.Mem Go.Proofs.YtojemdggbcklkaaDoor.Wire Go.Proofs.YtojemdggbcklkaaDoor.Strs Go.Proofs.YtojemdggbcklkaaDoor.Heads
set_option linter.unusedVariables false
set_option linter.unusedSimpArgs false
set_option maxRecDepth 4000

def RLinePost (s : List UInt8) (r : Res Bytes) (e : Ending) : Prop :=
  match r with
  | .ok x b => e = .returned (.tuple #[.string ⟨x.toArray⟩, .int .i64 ((s.length - b.length : Nat) : Int), .bool true])
  | .err er => if er = 283 then e = .returned (.tuple #[.string ⟨#[]⟩, .int .i64 0, .bool false]) else ∃ k : Nat, 0 < k ∧ e = .returned (.tuple #[.string ⟨#[]⟩, .int .i64 (k : Int), .bool false])
theorem ext_drop (s : List UInt8) (p : Nat) : (⟨s.toArray⟩ : ByteArray).extract p s.length = ⟨(s.drop p).toArray⟩ := by
  rw [Lib.extract_eq]
  show (⟨((s.drop p).take _).toArray⟩ : ByteArray) = _
  rw [List.take_of_length_le (by rw [List.length_drop]; omega)]

theorem w64 {x y : Int} (e : x = y) (h0 : 0 ≤ y) (h1 : y ≤ 2147483648) : wrap64 x = y := by
  subst e
  unfold wrap64
  omega
set_option maxHeartbeats 4000000 in
theorem rline_any (s : List UInt8) (p : Nat) (w : World) (hp : p ≤ s.length) (hl : s.length ≤ 1073741824) (bad : Nat) (hbad : 280 ≤ bad ∧ bad ≤ 282) :
    Calls Tryd.prog 39 #[.string ⟨s.toArray⟩, .int .i64 (p : Int)] w fun e w' => RLinePost s (lineS bad (s.drop p)) e ∧ w = w' := by
  obtain ⟨n, hn⟩ : ∃ n, n = s.length := ⟨_, rfl⟩
  obtain ⟨S, hS⟩ : ∃ S, S = (⟨s.toArray⟩ : ByteArray) := ⟨_, rfl⟩
  have hsz : S.size = n := by rw [hS, hn]; simp [ByteArray.size]
  have hni : (n : Int) ≤ 1073741824 := by omega
  have hpi : (p : Int) ≤ (n : Int) := by omega
  have hpn : ¬ n < p := by omega
  have hext := ext_drop s p
  obtain ⟨T, hT⟩ : ∃ T, T = (⟨(s.drop p).toArray⟩ : ByteArray) := ⟨_, rfl⟩
  rw [← hS, ← hT, ← hn] at hext
  have c1 := fun w => find_any (s.drop p) 10 w (by rw [List.length_drop]; omega)
  rw [← hT] at c1
  have HS := Lib.hid (And.intro hn (And.intro hS hbad))
  rw [← hS]
  clear hT hbad
  cases hcut : cutL 10 (s.drop p) with
  | none =>
    have hi : Lib.indexByte (s.drop p) 10 = -1 := by rw [indexByte_cut, hcut]
    rw [hi] at c1
    have C1 := Lib.hid c1
    have HL := Lib.hid (lineS_end (cutL_none hcut) bad)
    clear c1 hi hcut hS hn hp hl
    go_enter Tryd.func39, Tryd.ntmps39
    go_wp2_with (first
      | (go_at_call 62; go_must (refine (C1.out _).mono ?_); rintro e w' ⟨rfl, rfl⟩))
    go_ret3
    exact ⟨by rw [HL.out]; rfl, rfl⟩
  | some ab =>
    obtain ⟨a, b⟩ := ab
    have hi : Lib.indexByte (s.drop p) 10 = (a.length : Int) := by rw [indexByte_cut, hcut]
    have hlen := cutL_len hcut
    rw [List.length_drop] at hlen
    obtain ⟨m, hm⟩ : ∃ m, m = a.length := ⟨_, rfl⟩
    rw [hi, ← hm] at c1
    obtain ⟨i, hi2⟩ : ∃ i, i = p + m := ⟨_, rfl⟩
    have his : i < s.length := by omega
    obtain ⟨hdec, hno⟩ := cutL_some hcut
    have htk : (s.drop p).take (i - p) = a := by rw [hdec, show i - p = a.length by omega]; simp
    have h10 : s[i] = 10 := by
      have h1 : (s.drop p)[m]? = some 10 := by rw [hdec, hm]; simp
      rw [List.getElem?_drop, ← hi2, List.getElem?_eq_getElem his] at h1
      injection h1
    have hhit := lineS_hit (s := s) (p := p) (i := i) (show p ≤ i by omega) his h10 (by rw [htk]; exact hno) bad
    have hbl : s.length - b.length = i + 1 := by omega
    have hsum : (p : Int) + (m : Int) = (i : Int) := by omega
    have hin : (i : Int) + 1 ≤ (n : Int) := by omega
    have hm0 : (0 : Int) ≤ (m : Int) := by omega
    have hi0 : (0 : Int) ≤ (i : Int) := by omega
    have hi1 : (i : Int) ≤ 2147483648 := by omega
    have hi2' : (0 : Int) ≤ (i : Int) + 1 := by omega
    have hi3 : (i : Int) + 1 ≤ 2147483648 := by omega
    have C1 := Lib.hid c1
    by_cases h0 : m = 0
    · have hl2 : lineS bad (s.drop p) = .err bad := by rw [hhit, dif_neg (by omega)]
      have HL := Lib.hid hl2
      have b0 : ((m : Int) == 0) = true := by simp; omega
      have hsw := w64 hsum hi0 hi1
      have hiw := w64 rfl hi2' hi3
      clear c1 hi hcut hS hn hp hl hlen hi2 hdec hno htk h10 hhit hbl hl2 h0 hm his hsum hi1 hi2' hi3
      go_enter Tryd.func39, Tryd.ntmps39
      go_wp2_with (first
        | (go_at_call 62; go_must (refine (C1.out _).mono ?_); rintro e w' ⟨rfl, rfl⟩))
      go_ret3
      refine ⟨?_, rfl⟩
      rw [HL.out]
      unfold RLinePost
      simp only
      rw [if_neg (by have := HS.out.2.2; omega)]
      exact ⟨i + 1, by omega, rfl⟩
    · have b0 : ((m : Int) == 0) = false := by simp; omega
      obtain ⟨j, hj⟩ : ∃ j, j = i - 1 := ⟨_, rfl⟩
      have hji : (i : Int) - 1 = (j : Int) := by omega
      have hj1 : (j : Int) ≤ 2147483648 := by omega
      have hj0 : (0 : Int) ≤ (j : Int) := by omega
      have hjn : (j : Int) < (n : Int) := by omega
      have hpj : (p : Int) ≤ (j : Int) := by omega
      have hjs : j < S.size := by omega
      obtain ⟨y, hy⟩ : ∃ y, y = s[i - 1] := ⟨_, rfl⟩
      have hyj : S[j] = y := by
        have : ∀ s' : ByteArray, s' = (⟨s.toArray⟩ : ByteArray) → ∀ h, s'[j]'h = s[i - 1] := fun s' e h => by
          subst e
          show s.toArray[j]'_ = _
          simp [hj]
        rw [hy]; exact this S hS hjs
      rw [dif_pos (by omega)] at hhit
      by_cases h13 : y = 13
      · have hl2 : lineS bad (s.drop p) = .ok ((s.drop p).take (j - p)) (s.drop (i + 1)) := by rw [hhit, if_pos (by rw [← hy]; exact h13), hj]
        have b1 : ((y.toNat : Int) == 13) = true := by rw [h13]; rfl
        have hex2 : S.extract p j = (⟨((s.drop p).take (j - p)).toArray⟩ : ByteArray) := by rw [hS, Lib.extract_eq]
        have hq : s.length - (s.drop (i + 1)).length = i + 1 := by rw [List.length_drop]; omega
        have hpj2 : ¬ j < p := by omega
        have hjn2 : ¬ n < j := by omega
        obtain ⟨X, hX⟩ : ∃ X, X = (⟨((s.drop p).take (j - p)).toArray⟩ : ByteArray) := ⟨_, rfl⟩
        rw [← hX] at hex2
        have HL := Lib.hid (And.intro hl2 (And.intro hq hX))
        have hsw := w64 hsum hi0 hi1
        have hiw := w64 rfl hi2' hi3
        have hjw := w64 hji hj0 hj1
        clear c1 hi hcut hS hn hp hl hlen hi2 hdec hno htk h10 hhit hbl hl2 h0 hm his hj hy h13 hq hX hsum hi1 hi2' hi3 hj1
        go_enter Tryd.func39, Tryd.ntmps39
        go_wp2_with (first
          | (go_at_call 62; go_must (refine (C1.out _).mono ?_); rintro e w' ⟨rfl, rfl⟩))
        go_ret3
        refine ⟨?_, rfl⟩
        rw [HL.out.1]
        unfold RLinePost
        simp only
        rw [HL.out.2.1, ← HL.out.2.2]
        rfl
      · have hl2 : lineS bad (s.drop p) = .err bad := by rw [hhit, if_neg (by rw [← hy]; exact h13)]
        have HL := Lib.hid hl2
        have b1 : ((y.toNat : Int) == 13) = false := by
          rw [beq_eq_false_iff_ne]; intro h
          exact h13 (UInt8.toNat_inj.1 (by simpa using (by omega : y.toNat = 13)))
        have hsw := w64 hsum hi0 hi1
        have hiw := w64 rfl hi2' hi3
        have hjw := w64 hji hj0 hj1
        clear c1 hi hcut hS hn hp hl hlen hi2 hdec hno htk h10 hhit hbl hl2 h0 hm his hj hy h13 hsum hi1 hi2' hi3 hj1
        go_enter Tryd.func39, Tryd.ntmps39
        go_wp2_with (first
          | (go_at_call 62; go_must (refine (C1.out _).mono ?_); rintro e w' ⟨rfl, rfl⟩))
        go_ret3
        refine ⟨?_, rfl⟩
        rw [HL.out]
        unfold RLinePost
        simp only
        rw [if_neg (by have := HS.out.2.2; omega)]
        exact ⟨i + 1, by omega, rfl⟩
end Go.Proofs.YtojemdggbcklkaaDoor.WireR
