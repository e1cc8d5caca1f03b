/- base64url: the reference's letter, value, bit, Encode, Decode. -/
import Derived.Test.YtoemceehmiaigaaDoorSealWalk
namespace Go.Proofs.YtoemceehmiaigaaDoor.Seal
open Go.RowKit Go.Proofs.YtoemceehmiaigaaDoor.Mem Go.Proofs.YtoemceehmiaigaaDoor.Loan
set_option linter.unusedVariables false

theorem and1 (x : Nat) (h : x < 256) : bits .and .i64 (x : Int) 1 = ((x % 2 : Nat) : Int) := by
  have : ((List.range 256).all fun x => decide (bits .and .i64 (x : Int) 1 = ((x % 2 : Nat) : Int))) = true := by decide +kernel
  simpa using below this h

set_option maxHeartbeats 400000 in
theorem rletter_any (v : Nat) (hv : v < 64) (w : World) :
    Calls Tryd.prog 75 #[.int .i64 (v : Int)] w fun e w' => e = .returned (bv (ltr v)) ∧ w = w' := by
  have h0 : (0 : Int) ≤ (v : Int) := by omega
  have h1 : (v : Int) ≤ 63 := by omega
  have hr : ∀ n : Nat, n = ltrN v → (.int .u8 (n : Int) : Value) = bv (ltr v) := fun n e => by subst e; rw [← ltr_toNat hv]
  have HR := Lib.hid hr
  clear hr
  go_enter Tryd.func75, Tryd.ntmps75
  by_cases h26 : (v : Int) < 26
  · go_wp2
    go_ret
    exact ⟨ret_val (by rw [← HR.out (65 + v) (by unfold ltrN; rw [if_pos (by omega)])]; simp), rfl⟩
  · by_cases h52 : (v : Int) < 52
    · go_wp2
      go_ret
      exact ⟨ret_val (by rw [← HR.out (97 + v - 26) (by unfold ltrN; rw [if_neg (by omega), if_pos (by omega)])]; simp; omega), rfl⟩
    · by_cases h62 : (v : Int) < 62
      · go_wp2
        go_ret
        exact ⟨ret_val (by rw [← HR.out (48 + v - 52) (by unfold ltrN; rw [if_neg (by omega), if_neg (by omega), if_pos (by omega)])]; simp; omega), rfl⟩
      · by_cases h63 : v = 62
        · subst h63
          go_wp2
          go_ret
          exact ⟨ret_val (by rw [← HR.out 45 rfl]; rfl), rfl⟩
        · obtain rfl : v = 63 := by omega
          go_wp2
          go_ret
          exact ⟨ret_val (by rw [← HR.out 95 rfl]; rfl), rfl⟩

def valZ (c : UInt8) : Int := if val c = 64 then -1 else (val c : Int)
theorem valZ_no {c : UInt8} (h : val c = 64) : valZ c = -1 := if_pos h
theorem valZ_yes {c : UInt8} (h : ¬ val c = 64) : valZ c = (val c : Int) := if_neg h
set_option maxHeartbeats 400000 in
theorem rvalue_any (c : UInt8) (w : World) :
    Calls Tryd.prog 76 #[bv c] w fun e w' => e = .returned (.int .i64 (valZ c)) ∧ w = w' := by
  go_enter Tryd.func76, Tryd.ntmps76
  go_wp2
  go_loop [3] (fun v => ∃ k : Nat, k ≤ 64 ∧ v = .int .i64 k ∧ ∀ j, j < k → ltr j ≠ c) (fun v => 64 - (intOf v).toNat)
  case atStart => exact ⟨0, by omega, rfl, fun j hj => by omega⟩
  case round =>
    obtain ⟨k, hk, rfl, ha⟩ := hrel
    have HA := Lib.hid ha
    clear ha
    by_cases hlt : k < 64
    · have hki : (k : Int) < 64 := by omega
      have hk0 : (0 : Int) ≤ (k : Int) := by omega
      by_cases he : ltr k = c
      · have hv : val c = k := by rw [← he]; exact val_ltr hlt
        have HV := Lib.hid hv
        clear hv
        have hb : ((c.toNat : Int) == (c.toNat : Int)) = true := by simp
        go_wp2_with (first
          | (go_at_call 75; go_must (refine (rletter_any k hlt _).mono ?_); rintro e w2 ⟨he', rfl⟩; rw [he] at he'; subst he'))
        go_ret
        exact ⟨ret_int (by rw [valZ_yes (by rw [HV.out]; omega), HV.out]), rfl⟩
      · obtain ⟨y, hy⟩ : ∃ y, y = ltr k := ⟨_, rfl⟩
        have hne : ¬ (y.toNat : Int) = (c.toNat : Int) := by
          intro h
          rw [hy] at h
          exact he (UInt8.toNat_inj.1 (by omega))
        have hb : ((y.toNat : Int) == (c.toNat : Int)) = false := by simp [hne]
        have HY := Lib.hid hy
        have HE := Lib.hid he
        clear hy he
        go_wp2_with (first
          | (go_at_call 75; go_must (refine (rletter_any k hlt _).mono ?_); rintro e w2 ⟨he', rfl⟩; rw [← HY.out] at he'; subst he'))
        refine ⟨⟨k + 1, by omega, by go_num, fun j hj => ?_⟩, by simp [intOf]; omega⟩
        by_cases hjk : j < k
        · exact HA.out j hjk
        · obtain rfl : j = k := by omega
          exact HE.out
    · obtain rfl : k = 64 := by omega
      have hv : val c = 64 := by
        rcases Nat.lt_or_ge (val c) 64 with h | h
        · exact absurd (ltr_val h) (HA.out _ h)
        · have := val_le c; omega
      have HV := Lib.hid hv
      clear hv hlt hk
      go_wp2
      go_ret
      exact ⟨ret_int (by rw [valZ_no HV.out]), rfl⟩

set_option maxHeartbeats 800000 in
theorem bit_any (A : Option Addr) (c n : Nat) (l : List UInt8) (i : Nat) (w : World) (ha : RB w A l) (hn : n = l.length) (hl : n ≤ 1073741824) (hi : i ≤ 8589934600) :
    Calls Tryd.prog 74 #[.slice A n c, .int .i64 (i : Int)] w fun e w' => e = .returned (.int .i64 (bitOf l i : Int)) ∧ w = w' := by
  have hi0 : (0 : Int) ≤ (i : Int) := by omega
  have hi1 : (i : Int) ≤ 8589934600 := by omega
  have hn1 : (n : Int) ≤ 1073741824 := by omega
  obtain ⟨q, hq⟩ : ∃ q, q = i / 8 := ⟨_, rfl⟩
  have hqi : (i : Int) / 8 = (q : Int) := by omega
  have hq0 : (0 : Int) ≤ (q : Int) := by omega
  have hq1 : (q : Int) ≤ 1073741825 := by omega
  go_enter Tryd.func74, Tryd.ntmps74
  by_cases hlt : q < n
  · obtain ⟨x, hx⟩ : ∃ x, x = l[q]'(by omega) := ⟨_, rfl⟩
    obtain ⟨ad, hA, hc⟩ := ha q (by omega)
    rw [← hx] at hc
    subst hA
    have hx8 : (x.toNat : Int) ≤ 255 := by have := x.toNat_lt; omega
    have hx0 : (0 : Int) ≤ (x.toNat : Int) := by omega
    have hqn : (q : Int) < (n : Int) := by omega
    obtain ⟨r, hr⟩ : ∃ r, r = i % 8 := ⟨_, rfl⟩
    have hri : (i : Int) % 8 = (r : Int) := by omega
    obtain ⟨y, hy⟩ : ∃ y, y = x.toNat / 2 ^ (7 - r) := ⟨_, rfl⟩
    have hb : bitOf l i = y % 2 := by
      unfold bitOf
      rw [← hq, ← hr, hy, List.getD_eq_getElem?_getD, List.getElem?_eq_getElem (by omega), ← hx]
      rfl
    have hyb : y < 256 := by rw [hy]; exact Nat.lt_of_le_of_lt (Nat.div_le_self _ _) x.toNat_lt
    have hand := and1 y hyb
    have hr8 : r < 8 := by omega
    have HB := Lib.hid hb
    have HY := Lib.hid hy
    obtain ⟨z, hz⟩ : ∃ z, z = y % 2 := ⟨_, rfl⟩
    rw [← hz] at hand
    have HZ := Lib.hid hz
    obtain ⟨ri, hri2⟩ : ∃ x : Int, x = (r : Int) := ⟨_, rfl⟩
    rw [← hri2] at hri
    have hyi : y ≤ 255 := by omega
    clear ha hx hr hb hy hz hq hlt hyb
    have hcase : (r = 0 ∨ r = 1 ∨ r = 2 ∨ r = 3) ∨ (r = 4 ∨ r = 5 ∨ r = 6 ∨ r = 7) := by omega
    rcases hcase with (h1 | h1 | h1 | h1) | (h1 | h1 | h1 | h1)
    · obtain rfl : ri = 0 := by omega
      have hyx : (x.toNat : Int) / 128 = (y : Int) := by
        rw [HY.out, h1]
        rfl
      clear hri2 h1 hr8
      go_wp2
      go_ret
      exact ⟨ret_int (by rw [HB.out, HZ.out]), rfl⟩
    · obtain rfl : ri = 1 := by omega
      have hyx : (x.toNat : Int) / 64 = (y : Int) := by
        rw [HY.out, h1]
        rfl
      clear hri2 h1 hr8
      go_wp2
      go_ret
      exact ⟨ret_int (by rw [HB.out, HZ.out]), rfl⟩
    · obtain rfl : ri = 2 := by omega
      have hyx : (x.toNat : Int) / 32 = (y : Int) := by
        rw [HY.out, h1]
        rfl
      clear hri2 h1 hr8
      go_wp2
      go_ret
      exact ⟨ret_int (by rw [HB.out, HZ.out]), rfl⟩
    · obtain rfl : ri = 3 := by omega
      have hyx : (x.toNat : Int) / 16 = (y : Int) := by
        rw [HY.out, h1]
        rfl
      clear hri2 h1 hr8
      go_wp2
      go_ret
      exact ⟨ret_int (by rw [HB.out, HZ.out]), rfl⟩
    · obtain rfl : ri = 4 := by omega
      have hyx : (x.toNat : Int) / 8 = (y : Int) := by
        rw [HY.out, h1]
        rfl
      clear hri2 h1 hr8
      go_wp2
      go_ret
      exact ⟨ret_int (by rw [HB.out, HZ.out]), rfl⟩
    · obtain rfl : ri = 5 := by omega
      have hyx : (x.toNat : Int) / 4 = (y : Int) := by
        rw [HY.out, h1]
        rfl
      clear hri2 h1 hr8
      go_wp2
      go_ret
      exact ⟨ret_int (by rw [HB.out, HZ.out]), rfl⟩
    · obtain rfl : ri = 6 := by omega
      have hyx : (x.toNat : Int) / 2 = (y : Int) := by
        rw [HY.out, h1]
        rfl
      clear hri2 h1 hr8
      go_wp2
      go_ret
      exact ⟨ret_int (by rw [HB.out, HZ.out]), rfl⟩
    · obtain rfl : ri = 7 := by omega
      have hyx : (x.toNat : Int) = (y : Int) := by
        rw [HY.out, h1]
        simp
      clear hri2 h1 hr8
      go_wp2
      go_ret
      exact ⟨ret_int (by rw [HB.out, HZ.out]), rfl⟩
  · have hqn : (n : Int) ≤ (q : Int) := by omega
    have hb : bitOf l i = 0 := by
      unfold bitOf
      rw [← hq, List.getD_eq_getElem?_getD, List.getElem?_eq_none (by omega)]
      simp
    rw [hb]
    clear hb hq hlt ha
    go_wp2
    go_ret
    exact ⟨rfl, rfl⟩

def pre (f : Nat → Nat) (i : Nat) : Nat → Nat
  | 0 => 0
  | j + 1 => 2 * pre f i j + f (i + j)
theorem pre_lt {f : Nat → Nat} (hf : ∀ k, f k < 2) (i j : Nat) : pre f i j < 2 ^ j := by
  induction j with
  | zero => simp [pre]
  | succ j ih => have := hf (i + j); rw [pre, Nat.pow_succ]; omega
theorem pre_six (f : Nat → Nat) (i : Nat) : pre f i 6 = six f i := by
  simp only [pre, six, Nat.add_zero]
  omega
theorem lets_more (f : Nat → Nat) (m : Nat) : lets f (m + 1) = lets f m ++ [ltr (six f (6 * m))] := by
  unfold lets
  rw [List.range_succ, List.map_append]
  rfl
theorem lets_length (f : Nat → Nat) (m : Nat) : (lets f m).length = m := by simp [lets]

set_option maxHeartbeats 1600000 in
theorem rencode_any (A : Option Addr) (c n : Nat) (l : List UInt8) (w : World) (ha : RB w A l) (hn : n = l.length) (hl : n ≤ 1073741824) :
    Calls Tryd.prog 63 #[.slice A n c] w fun e w' => e = .returned (.string ⟨(enc l).toArray⟩) ∧ Below w.heap.size w w' := by
  have hni : (n : Int) ≤ 1073741824 := by omega
  have hn0 : (0 : Int) ≤ (n : Int) := by omega
  obtain ⟨m, hm⟩ : ∃ m, m = n / 3 := ⟨_, rfl⟩
  have hmi : (n : Int) / 3 = (m : Int) := by omega
  have hmb : m ≤ 357913942 := by omega
  obtain ⟨M, hM⟩ : ∃ M, M = (8 * n + 5) / 6 := ⟨_, rfl⟩
  have HA := Lib.hid (And.intro ha (And.intro hn hM))
  have hM1 : 6 * M < 8 * n + 6 := by omega
  have hM2 : 8 * n ≤ 6 * M := by omega
  clear ha hn hm hM
  go_enter Tryd.func63, Tryd.ntmps63
  go_wp2_with (first
    | (at_make; go_must (refine wpList_make0 E8 rfl _ (.tmp 11) rfl .i64 .i64 _ (m * 4 + 4) rfl rfl (by simp) (by omega) (by unfold maxLen; omega) w.heap.size (Nat.le_refl _) ?_); intro v w1 hown hv hb1 hz1 hcap))
  have HX := Lib.hid (And.intro hown hb1)
  clear hown hv hb1 hz1 hcap
  go_loopw [3, 4] (fun v3 v4 wr => ∃ k : Nat, k ≤ M ∧ v4 = .int .i64 (6 * (k : Int)) ∧ wr.ownsRow w.heap.size 5 1 v3 k ((lets (bitOf l) k).map bv) ∧ Below w.heap.size w wr) (fun _ v _ => 8 * n + 6 - (intOf v).toNat)
  case atStart => exact ⟨0, by omega, rfl, HX.out.1, HX.out.2⟩
  case round =>
    clear HX
    obtain ⟨k, hk, rfl, hown, hb⟩ := hrel
    obtain ⟨A3, n3, c3, rfl, hn3⟩ := own_form hown
    obtain rfl := hn3
    have HX := Lib.hid (And.intro hown hb)
    clear hown hb
    by_cases hlt : n3 < M
    · have hki : 6 * (n3 : Int) < 8 * (n : Int) := by omega
      have hk0 : (0 : Int) ≤ (n3 : Int) := by omega
      have hk1 : (n3 : Int) ≤ 1431655766 := by omega
      go_wp2_with fail
      go_loop [5, 6] (fun v5 v6 => ∃ j : Nat, j ≤ 6 ∧ v6 = .int .i64 (6 * (n3 : Int) + (j : Int)) ∧ v5 = .int .i64 (pre (bitOf l) (6 * n3) j : Int)) (fun _ v => 6 * n3 + 6 - (intOf v).toNat)
      case atStart => exact ⟨0, by omega, by simp, rfl⟩
      case round =>
        obtain ⟨j, hj, rfl, rfl⟩ := hrel
        by_cases hj6 : j < 6
        · have hji : (j : Int) < 6 := by omega
          have hj0 : (0 : Int) ≤ (j : Int) := by omega
          obtain ⟨p, hp⟩ : ∃ p, p = pre (bitOf l) (6 * n3) j := ⟨_, rfl⟩
          have hpb : p < 64 := by
            have := pre_lt (bit_lt l) (6 * n3) j
            have h2 : 2 ^ j ≤ 2 ^ 6 := Nat.pow_le_pow_right (by omega) hj
            omega
          rw [← hp]
          obtain ⟨q, hq⟩ : ∃ q, q = 6 * n3 + j := ⟨_, rfl⟩
          have hqi : 6 * (n3 : Int) + (j : Int) = (q : Int) := by omega
          rw [hqi]
          have hqb : q ≤ 8589934600 := by omega
          have hq6 : (q : Int) < 6 * (n3 : Int) + 6 := by omega
          obtain ⟨b, hbb⟩ : ∃ b, b = bitOf l q := ⟨_, rfl⟩
          have hb2 : b < 2 := by rw [hbb]; exact bit_lt l q
          have hpn : pre (bitOf l) (6 * n3) (j + 1) = 2 * p + b := by rw [pre, ← hp, ← hq, ← hbb]
          have HP := Lib.hid (And.intro hpn (And.intro hbb hq))
          have hq0 : (0 : Int) ≤ (q : Int) := by omega
          have hq1 : (q : Int) ≤ 8589934600 := by omega
          clear hp hq hqi hbb hpn
          go_wp2_with (first
            | (go_at_call 74; go_must (refine (bit_any A c n l q _ (HA.out.1.below HX.out.2) HA.out.2.1 hl hqb).mono ?_); rintro e w2 ⟨he, rfl⟩; rw [← HP.out.2.1] at he; subst he))
          refine ⟨⟨j + 1, by omega, ?_, ?_⟩, ?_⟩
          · have := HP.out.2.2; congr 1; omega
          · rw [HP.out.1]; congr 1
          · have := HP.out.2.2; simp [intOf]; omega
        · obtain rfl : j = 6 := by omega
          have hs := pre_six (bitOf l) (6 * n3)
          obtain ⟨v, hv⟩ : ∃ v, v = six (bitOf l) (6 * n3) := ⟨_, rfl⟩
          have hv64 : v < 64 := by rw [hv]; exact six_lt (bit_lt l) _
          rw [hs, ← hv]
          have HV := Lib.hid hv
          have e6 : 6 * (n3 : Int) + ((6 : Nat) : Int) = 6 * (n3 : Int) + 6 := rfl
          rw [e6]
          clear hs hv hj hj6 e6
          go_wp2_with (first
            | (go_at_call 75; go_must (refine (rletter_any v hv64 _).mono ?_); rintro e w2 ⟨rfl, rfl⟩)
            | ((with_reducible show wpList _ _ _ (⟨some 36, _, _, _, _, _⟩ :: _) _ _); go_must (refine wpList_one E8 rfl (.tmp 35) rfl (by decide) [bv (ltr v)] rfl rfl wr.heap.size rfl ?_); intro w3 hB3 hb3)
            | ((with_reducible show wpList _ _ _ (⟨some 37, _, _, _, _, _⟩ :: _) _ _); go_must (refine wpList_pushB E8 rfl (.tmp 33) (.tmp 36) rfl (gt HX.out.2 hb3) (own_belowB HX.out.1 hb3) rfl wr.heap.size rfl (ltr v) hB3 (by omega) ?_); intro v4 w4 hown4 hb4))
          refine ⟨⟨n3 + 1, by omega, by congr 1, ?_, hb4⟩, by simp [intOf]; omega⟩
          rw [lets_more, ← HV.out]
          exact hown4
    · obtain rfl : n3 = M := by omega
      have hcv := own_str HX.out.1 rfl (show lets (bitOf l) n3 = enc l by rw [enc_bits, HA.out.2.2, HA.out.2.1])
      have hki : ¬ 6 * (n3 : Int) < 8 * (n : Int) := by omega
      clear hlt hk
      go_wp2_with fail
      go_ret
      exact ⟨rfl, HX.out.2⟩
end Go.Proofs.YtoemceehmiaigaaDoor.Seal
