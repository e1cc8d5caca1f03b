/- weirlaw04.ShaRoots: the walk. -/
import Derived.Test.YtoemceehmiaigaaDoorRootsWalk
namespace Go.Proofs.YtoemceehmiaigaaDoor.Roots
open Go.RowKit Go.Proofs.YtoemceehmiaigaaDoor.Mem Go.Proofs.YtoemceehmiaigaaDoor.Sha
set_option linter.unusedVariables false

theorem isUpto_succ {p d : Nat} (h : 2 ≤ d) : isUpto p (d + 1) = (isUpto p d && (p % d != 0)) := by
  rw [isUpto]
  have : ¬ d < 2 := by omega
  simp [this]

theorem whole3_any (p : Nat) (hp : p < 312) (w : World) : Calls Tryd.prog 15 #[uv p, .int .i64 3] w fun e w' => e = .returned (uv (wholeF p 3)) ∧ w = w' := whole_any p 3 hp (.inr rfl) w
theorem whole2_any (p : Nat) (hp : p < 312) (w : World) : Calls Tryd.prog 15 #[uv p, .int .i64 2] w fun e w' => e = .returned (uv (wholeF p 2)) ∧ w = w' := whole_any p 2 hp (.inl rfl) w

set_option maxHeartbeats 1600000 in
set_option maxRecDepth 40000 in
theorem law_any (first : Int) (w : World) (hG : GB w) :
    Calls Tryd.prog 3 #[.int .i64 first] w fun e w' => e = .returned (.bool true) ∧ Below w.heap.size w w' := by
  have HG := Lib.hid hG
  clear hG
  go_enter Tryd.func3, Tryd.ntmps3
  go_wp2_with fail
  go_loopw [3, 4] (fun u v wr => ∃ p : Nat, 2 ≤ p ∧ p ≤ 312 ∧ v = uv p ∧ u = .int .i64 (cnt p : Int) ∧ Below w.heap.size w wr) (fun _ v _ => 312 - (intOf v).toNat)
  case atStart => exact ⟨2, by omega, by omega, rfl, rfl, gr w⟩
  case round =>
    obtain ⟨p, hp2, hp, rfl, rfl, hb⟩ := hrel
    obtain ⟨n, hn⟩ : ∃ n, n = cnt p := ⟨_, rfl⟩
    rw [← hn]
    have hcl := cnt_lt (p := p) (by omega)
    rw [← hn] at hcl
    have HX := Lib.hid hb
    clear hb
    by_cases hlt : p < 312
    · have hn64 : n < 64 := by rw [hcl]; exact hlt
      have hni : (n : Int) < 64 := by omega
      have hn0 : (0 : Int) ≤ (n : Int) := by omega
      have hpi : (p : Int) ≤ 311 := by omega
      have hp0 : (2 : Int) ≤ (p : Int) := by omega
      have HN := Lib.hid (And.intro hn hcl)
      clear hn hcl
      go_wp2_with fail
      go_loop [5, 6] (fun u v => ∃ d : Nat, 2 ≤ d ∧ d ≤ 19 ∧ v = uv d ∧ u = .bool (isUpto p d) ∧ ((d - 1) * (d - 1) ≤ p ∨ d = 2)) (fun _ v => 20 - (intOf v).toNat)
      case atStart => exact ⟨2, by omega, by omega, rfl, by simp [isUpto], .inr rfl⟩
      case round =>
        obtain ⟨d, hd2, hd19, rfl, rfl, hdd⟩ := hrel
        obtain ⟨s, hs⟩ : ∃ s, s = d * d := ⟨_, rfl⟩
        have hs1 : s ≤ 361 := by
          have : d * d ≤ 19 * 19 := Nat.mul_le_mul (by omega) (by omega)
          omega
        have hsi : (d : Int) * (d : Int) = (s : Int) := by rw [hs]; push_cast; rfl
        have hd0 : (2 : Int) ≤ (d : Int) := by omega
        have hd1 : (d : Int) ≤ 19 := by omega
        obtain ⟨b, hb⟩ : ∃ b, b = isUpto p d := ⟨_, rfl⟩
        rw [← hb]
        have HB := Lib.hid (And.intro hb hdd)
        have HS := Lib.hid hs
        clear hb hdd hs
        by_cases hsp : (s : Int) ≤ (p : Int)
        · have hd18 : d < 18 := by
            have : d * d ≤ p := by rw [← HS.out]; omega
            rcases Nat.lt_or_ge d 18 with h | h
            · exact h
            · have := Nat.mul_le_mul h h
              omega
          have hnext : (d + 1 - 1) * (d + 1 - 1) ≤ p ∨ d + 1 = 2 := .inl (by rw [Nat.add_sub_cancel, ← HS.out]; omega)
          have HT := Lib.hid hnext
          clear hnext
          cases b
          · go_wp2
            refine ⟨⟨d + 1, by omega, by omega, by go_num, ?_, HT.out⟩, by simp [intOf]; omega⟩
            rw [isUpto_succ hd2, ← HB.out.1]
            rfl
          · go_wp2
            refine ⟨⟨d + 1, by omega, by omega, by go_num, ?_, HT.out⟩, by simp [intOf]; omega⟩
            rw [isUpto_succ hd2, ← HB.out.1, Bool.true_and]
            have e : (p : Int) % (d : Int) = ((p % d : Nat) : Int) := rfl
            rw [e]
            by_cases h : p % d = 0
            · rw [h]; rfl
            · have h1 : (((p % d : Nat) : Int) != 0) = true := bne_iff_ne.2 (by omega)
              have h2 : (p % d != 0) = true := bne_iff_ne.2 h
              rw [h1, h2]
        · have hroot : d = rootUp p := root_up (by omega) (by omega) hd2 (by rw [← HS.out]; omega) HB.out.2
          have hisP : b = isP p := by rw [HB.out.1, hroot]; rfl
          have HP := Lib.hid hisP
          clear hroot hisP
          cases b
          · go_wp2
            refine ⟨⟨p + 1, by omega, by omega, by go_num, ?_, HX.out⟩, by simp [intOf]; omega⟩
            have : cnt (p + 1) = n := by
              rw [cnt, ← HN.out.1]
              simp [← HP.out]
            rw [this]
          · have hck := checks hp2 hlt HP.out.symm
            rw [← HN.out.1] at hck
            unfold chk at hck
            obtain ⟨q3, hq3⟩ : ∃ q, q = wholeF p 3 := ⟨_, rfl⟩
            obtain ⟨q2, hq2⟩ : ∃ q, q = wholeF p 2 := ⟨_, rfl⟩
            obtain ⟨r, hr⟩ : ∃ r, r = (K n).toNat := ⟨_, rfl⟩
            have hq3b : q3 < 20 := by rw [hq3]; exact whole_lt (.inr rfl) hlt
            have hq2b : q2 < 20 := by rw [hq2]; exact whole_lt (.inl rfl) hlt
            have hrb : r ≤ 4294967295 := by rw [hr]; have := (K n).toNat_lt; omega
            rw [← hq3, ← hq2, ← hr] at hck
            obtain ⟨x3, hx3⟩ : ∃ x, x = q3 * 4294967296 + r := ⟨_, rfl⟩
            obtain ⟨y3, hy3⟩ : ∃ y, y = x3 + 1 := ⟨_, rfl⟩
            rw [← hx3, ← hy3] at hck
            have hx3i : (q3 : Int) * 4294967296 + (r : Int) = (x3 : Int) := by omega
            have hy3i : (x3 : Int) + 1 = (y3 : Int) := by omega
            have hx3b : x3 ≤ 89999999999 := by omega
            have hq3i : (q3 : Int) ≤ 19 := by omega
            have hri : (r : Int) ≤ 4294967295 := by omega
            have hx3c : (x3 : Int) ≤ 89999999999 := by omega
            have hy3b : y3 ≤ 90000000000 := by omega
            have hcnt : cnt (p + 1) = n + 1 := by
              rw [cnt, ← HN.out.1]
              simp [← HP.out, hp2]
            have HQ := Lib.hid (And.intro hq3 (And.intro hq2 (And.intro hr hcnt)))
            simp only [Bool.and_eq_true, Bool.not_eq_true', Bool.or_eq_true, decide_eq_true_eq] at hck
            have HCK := Lib.hid hck
            clear hq3 hq2 hr hck hx3 hy3 hcnt
            by_cases hn8 : n < 8
            · obtain ⟨r2, hr2⟩ : ∃ r, r = (Sha.start.at_ n).toNat := ⟨_, rfl⟩
              have hr2b : r2 ≤ 4294967295 := by rw [hr2]; have := (Sha.start.at_ n).toNat_lt; omega
              obtain ⟨x2, hx2⟩ : ∃ x, x = q2 * 4294967296 + r2 := ⟨_, rfl⟩
              obtain ⟨y2, hy2⟩ : ∃ y, y = x2 + 1 := ⟨_, rfl⟩
              have hck2 : atMostF x2 p 2 = true ∧ atMostF y2 p 2 = false := by
                have := HCK.out.2
                rw [← hr2, ← hx2, ← hy2] at this
                rcases this with h | h
                · omega
                · exact h
              have hx2i : (q2 : Int) * 4294967296 + (r2 : Int) = (x2 : Int) := by omega
              have hy2i : (x2 : Int) + 1 = (y2 : Int) := by omega
              have hx2b : x2 ≤ 89999999999 := by omega
              have hq2i : (q2 : Int) ≤ 19 := by omega
              have hr2i : (r2 : Int) ≤ 4294967295 := by omega
              have hx2c : (x2 : Int) ≤ 89999999999 := by omega
              have hy2b : y2 ≤ 90000000000 := by omega
              have hn8i : (n : Int) < 8 := by omega
              have HK2 := Lib.hid (And.intro hr2 hck2)
              clear hr2 hck2 hx2 hy2
              go_wp2_with (first
                | (go_at_call 15; first | ((with_reducible refine (whole3_any p hlt _).mono ?_); rintro e w1 ⟨he, rfl⟩; rw [← HQ.out.1] at he; subst he) | ((with_reducible refine (whole2_any p hlt _).mono ?_); rintro e w1 ⟨he, rfl⟩; rw [← HQ.out.2.1] at he; subst he))
                | (go_at_call 16; go_must (refine (round_any n hn64 _).mono ?_); rintro e w2 ⟨he, hb2⟩; rw [← HQ.out.2.2.1] at he; subst he)
                | (go_at_call 18; go_must (refine (start_any n hn8 _ (HG.out.grow (gt (gt (gt HX.out hb2) hb3) hb4))).mono ?_); rintro e w5 ⟨he, rfl⟩; rw [← HK2.out.1] at he; subst he)
                | (go_at_call 17; first
                  | ((with_reducible refine (atMost_any x3 p 3 3 rfl (by omega) hlt (.inr rfl) _).mono ?_); rintro e w3 ⟨he, hb3⟩; rw [HCK.out.1.1] at he; subst he)
                  | ((with_reducible refine (atMost_any y3 p 3 3 rfl (by omega) hlt (.inr rfl) _).mono ?_); rintro e w4 ⟨he, hb4⟩; rw [HCK.out.1.2] at he; subst he)
                  | ((with_reducible refine (atMost_any x2 p 2 2 rfl (by omega) hlt (.inl rfl) _).mono ?_); rintro e w6 ⟨he, hb6⟩; rw [HK2.out.2.1] at he; subst he)
                  | ((with_reducible refine (atMost_any y2 p 2 2 rfl (by omega) hlt (.inl rfl) _).mono ?_); rintro e w7 ⟨he, hb7⟩; rw [HK2.out.2.2] at he; subst he)))
              refine ⟨⟨p + 1, by omega, by omega, by go_num, ?_, gt (gt (gt (gt (gt HX.out hb2) hb3) hb4) hb6) hb7⟩, by simp [intOf]; omega⟩
              rw [HQ.out.2.2.2]
              go_num
            · have hn8i : (8 : Int) ≤ (n : Int) := by omega
              go_wp2_with (first
                | (go_at_call 15; go_must (refine (whole3_any p hlt _).mono ?_); rintro e w1 ⟨he, rfl⟩; rw [← HQ.out.1] at he; subst he)
                | (go_at_call 16; go_must (refine (round_any n hn64 _).mono ?_); rintro e w2 ⟨he, hb2⟩; rw [← HQ.out.2.2.1] at he; subst he)
                | (go_at_call 17; first
                  | ((with_reducible refine (atMost_any x3 p 3 3 rfl (by omega) hlt (.inr rfl) _).mono ?_); rintro e w3 ⟨he, hb3⟩; rw [HCK.out.1.1] at he; subst he)
                  | ((with_reducible refine (atMost_any y3 p 3 3 rfl (by omega) hlt (.inr rfl) _).mono ?_); rintro e w4 ⟨he, hb4⟩; rw [HCK.out.1.2] at he; subst he)))
              refine ⟨⟨p + 1, by omega, by omega, by go_num, ?_, gt (gt (gt HX.out hb2) hb3) hb4⟩, by simp [intOf]; omega⟩
              rw [HQ.out.2.2.2]
              go_num
    · obtain rfl : p = 312 := by omega
      have hn64 : ¬ n < 64 := by rw [hcl]; omega
      have hni : ¬ ((n : Int) < 64) := by omega
      clear hcl hn
      by_cases h0 : 0 ≤ first
      · by_cases h1 : first ≤ 63
        · go_wp2
          go_ret
          exact ⟨rfl, HX.out⟩
        · go_wp2_with (first
            | (go_at_call 16; go_must (refine (round_out first (.inr (by omega)) _).mono ?_); rintro e w2 ⟨rfl, hb2⟩)
            | (go_at_call 18; go_must (refine (start_out first (.inr (by omega)) _).mono ?_); rintro e w3 ⟨rfl, rfl⟩))
          go_ret
          exact ⟨rfl, gt HX.out hb2⟩
      · go_wp2_with (first
          | (go_at_call 16; go_must (refine (round_out first (.inl (by omega)) _).mono ?_); rintro e w2 ⟨rfl, hb2⟩)
          | (go_at_call 18; go_must (refine (start_out first (.inl (by omega)) _).mono ?_); rintro e w3 ⟨rfl, rfl⟩))
        go_ret
        exact ⟨rfl, gt HX.out hb2⟩
end Go.Proofs.YtoemceehmiaigaaDoor.Roots
