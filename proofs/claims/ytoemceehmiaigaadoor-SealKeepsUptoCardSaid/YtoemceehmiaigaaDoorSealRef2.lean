/- base64url: the reference's Decode. -/
import Derived.Test.YtoemceehmiaigaaDoorSealRef
import Derived.Test.YtoemceehmiaigaaDoorQuiet
namespace Go.Proofs.YtoemceehmiaigaaDoor.Seal
open Go.RowKit Go.Proofs.YtoemceehmiaigaaDoor.Mem Go.Proofs.YtoemceehmiaigaaDoor.Loan
set_option linter.unusedVariables false

theorem dec_none {l : List UInt8} {c : UInt8} (hc : c ∈ l) (hv : val c = 64) : dec l = none := by
  cases h : dec l with
  | none => rfl
  | some d => exact absurd hv (dec_letters l 0 0 d h c hc)

theorem bytesUpto_cell (f : Nat → Nat) {m K j : Nat} (h : j < m) : ((bytesUpto f m K).map bv)[j]? = some (bv (byt (part f K j))) := by
  rw [List.getElem?_map, bytesUpto_get f h]; rfl
set_option maxHeartbeats 1600000 in
theorem rdecode_any (l : List UInt8) (w : World) (hl : l.length ≤ 1073741824) :
    Calls Tryd.prog 65 #[.string ⟨l.toArray⟩] w (DecPost w (dec l)) := by
  generalize hH : w.heap.size = H
  obtain ⟨n, hn⟩ : ∃ n, n = l.length := ⟨_, rfl⟩
  have hni : (n : Int) ≤ 1073741824 := by omega
  have hn0 : (0 : Int) ≤ (n : Int) := by omega
  have hnb : n ≤ 1073741824 := by omega
  obtain ⟨s, hs⟩ : ∃ s, s = (⟨l.toArray⟩ : ByteArray) := ⟨_, rfl⟩
  have hsz : s.size = n := by rw [hs, hn]; simp [ByteArray.size]
  rw [← hs]
  obtain ⟨m, hm⟩ : ∃ m, m = n * 6 / 8 := ⟨_, rfl⟩
  have hmi : (n : Int) * 6 / 8 = (m : Int) := by omega
  have hmb : m ≤ 1073741824 := by omega
  obtain ⟨f, hf⟩ : ∃ f, f = bitS l := ⟨_, rfl⟩
  have hf2 : ∀ k, f k < 2 := by rw [hf]; exact bitS_lt l
  have HA := Lib.hid (And.intro hn (And.intro hs (And.intro hm hf)))
  have HF := Lib.hid hf2
  clear hn hl hs hm hf hf2
  go_enter Tryd.func65, Tryd.ntmps65
  go_wp2_with (first
    | (at_make; go_must (refine wpList_make1 E8 rfl (.tmp 12) (.tmp 12) rfl .i64 .i64 _ _ m rfl rfl (by first | rfl | omega) (by first | rfl | omega) (by omega) (by unfold maxLen; omega) H hH ?_); intro w1 hB1 hb1 hz1))
  have hB : Blk w1 H 5 ((bytesUpto f m 0).map bv) := by
    have : (bytesUpto f m 0).map bv = List.replicate m (.int .u8 0) := by rw [bytesUpto_zero, List.map_replicate]; rfl
    rw [this]; exact hB1
  have HX := Lib.hid (And.intro hB hb1)
  clear hB hB1 hb1 hz1
  go_loopw [5] (fun v wr => ∃ i : Nat, i ≤ n ∧ v = .int .i64 i ∧ (∀ j, j < i → val (l.getD j 0) ≠ 64) ∧ Blk wr H 5 ((bytesUpto f m (6 * i)).map bv) ∧ Below H w wr) (fun v _ => n - (intOf v).toNat)
  case atStart => exact ⟨0, by omega, rfl, fun j hj => by omega, HX.out.1, HX.out.2⟩
  case round =>
    clear HX
    obtain ⟨i, hi, rfl, hall, hB, hb⟩ := hrel
    have HX := Lib.hid (And.intro hall (And.intro hB hb))
    clear hall hB hb
    by_cases hlt : i < n
    · have hil : i < l.length := by have := HA.out.1; omega
      obtain ⟨x, hx⟩ : ∃ x, x = l[i] := ⟨_, rfl⟩
      have his : i < s.size := by omega
      have hsx : s[i] = x := by
        have : ∀ s' : ByteArray, s' = (⟨l.toArray⟩ : ByteArray) → ∀ h, s'[i]'h = l[i] := fun s' e h => by subst e; rfl
        rw [hx]; exact this s HA.out.2.1 his
      have hki : (i : Int) < (n : Int) := by omega
      have hk0 : (0 : Int) ≤ (i : Int) := by omega
      have hxm : x ∈ l := by rw [hx]; exact List.getElem_mem _
      have hxd : l.getD i 0 = x := by rw [List.getD_eq_getElem?_getD, List.getElem?_eq_getElem hil, hx]; rfl
      have HXX := Lib.hid (And.intro hxm hxd)
      clear hx hxm hxd
      by_cases hv : val x = 64
      · have hr : dec l = none := dec_none HXX.out.1 hv
        have HR := Lib.hid hr
        have hz := valZ_no hv
        have HZ := Lib.hid hz
        clear hr hv hz
        go_wp2_with (first
          | (go_at_call 76; go_must (refine (rvalue_any x _).mono ?_); rintro e w2 ⟨he, rfl⟩; rw [HZ.out] at he; subst he))
        go_ret2
        rw [HR.out]
        exact ⟨rfl, hH ▸ HX.out.2.2⟩
      · obtain ⟨u, hu⟩ : ∃ u, u = val x := ⟨_, rfl⟩
        have hub : u < 64 := by have := val_le x; omega
        have hz : valZ x = (u : Int) := by rw [hu]; exact valZ_yes hv
        have HZ := Lib.hid (And.intro hz (And.intro hu hv))
        have hu0 : (0 : Int) ≤ (u : Int) := by omega
        clear hz hu hv
        go_wp2_with (first
          | (go_at_call 76; go_must (refine (rvalue_any x _).mono ?_); rintro e w2 ⟨he, rfl⟩; rw [HZ.out.1] at he; subst he))
        go_loopw [7] (fun v wr => ∃ j : Nat, j ≤ 6 ∧ v = .int .i64 j ∧ Blk wr H 5 ((bytesUpto f m (6 * i + j)).map bv) ∧ Below H w wr) (fun v _ => 6 - (intOf v).toNat)
        case atStart => exact ⟨0, by omega, rfl, HX.out.2.1, HX.out.2.2⟩
        case round =>
          obtain ⟨j, hj, rfl, hB, hb⟩ := hrel
          have HY := Lib.hid (And.intro hB hb)
          clear hB hb
          by_cases hj6 : j < 6
          · obtain ⟨q, hq⟩ : ∃ q, q = 6 * i + j := ⟨_, rfl⟩
            have hqi : 6 * (i : Int) + (j : Int) = (q : Int) := by omega
            obtain ⟨q8, hq8⟩ : ∃ k, k = q / 8 := ⟨_, rfl⟩
            have hq8i : (q : Int) / 8 = (q8 : Int) := by omega
            obtain ⟨r8, hr8⟩ : ∃ k, k = q % 8 := ⟨_, rfl⟩
            have hr8i : (q : Int) % 8 = (r8 : Int) := by omega
            obtain ⟨t, ht⟩ : ∃ t, t = 5 - j := ⟨_, rfl⟩
            have hti : 5 - (j : Int) = (t : Int) := by omega
            have hji : (j : Int) < 6 := by omega
            have hj0 : (0 : Int) ≤ (j : Int) := by omega
            have hqb : (q : Int) ≤ 6442450944 := by omega
            have hq0 : (0 : Int) ≤ (q : Int) := by omega
            have ht5 : (t : Int) ≤ 5 := by omega
            have HQ := Lib.hid (And.intro hq (And.intro hq8 (And.intro hr8 ht)))
            clear hq hq8 hr8 ht
            have hfq : u / 2 ^ t % 2 = f q := by
              rw [HA.out.2.2.2, bitS, show q / 6 = i by have := HQ.out.1; omega, HXX.out.2, ← HZ.out.2.1, show 5 - q % 6 = t by have := HQ.out.1; have := HQ.out.2.2.2; omega]
            obtain ⟨y, hy⟩ : ∃ y, y = u / 2 ^ t := ⟨_, rfl⟩
            have hyi : (u : Int) / 2 ^ t = (y : Int) := by rw [hy, Int.natCast_ediv, Int.natCast_pow]; rfl
            have hyb : y < 256 := by rw [hy]; exact Nat.lt_of_le_of_lt (Nat.div_le_self _ _) (by omega)
            obtain ⟨z, hz⟩ : ∃ z, z = y % 2 := ⟨_, rfl⟩
            have hand := and1 y hyb
            rw [← hz] at hand
            have hzf : z = f q := by rw [hz, hy]; exact hfq
            have hz2 : z < 2 := by omega
            have HZF := Lib.hid hzf
            clear hfq hy hyb hz hzf
            have hnext : ∀ e, bytesUpto f m (q + 1) = e → bytesUpto f m (6 * i + (j + 1)) = e := fun e he => by
              have := HQ.out.1
              rw [show 6 * i + (j + 1) = q + 1 by omega]; exact he
            have HNX := Lib.hid hnext
            have hcur : bytesUpto f m (6 * i + j) = bytesUpto f m q := by have := HQ.out.1; rw [show 6 * i + j = q by omega]
            rw [hcur] at HY
            clear hnext hcur
            by_cases hm : q8 < m
            · have hmi2 : (q8 : Int) < (m : Int) := by omega
              by_cases hz1 : z = 1
              · have hz1i : (z : Int) = 1 := by omega
                have hq8x : IntKind.i64.wrap ((q : Int) / 8) = (q8 : Int) := by rw [hq8i]; exact IntWalk.i64_in _ (by omega)
                have hr8x : (q : Int).tmod 8 = (r8 : Int) := by rw [Int.tmod_eq_emod_of_nonneg hq0]; exact hr8i
                obtain ⟨p7, hp7⟩ : ∃ p, p = 7 - r8 := ⟨_, rfl⟩
                have hp7i : IntKind.i64.wrap (7 - (r8 : Int)) = (p7 : Int) := by rw [show 7 - (r8 : Int) = (p7 : Int) by omega]; exact IntWalk.i64_in _ (by omega)
                obtain ⟨pw, hpw⟩ : ∃ x, x = 2 ^ p7 := ⟨_, rfl⟩
                obtain ⟨old, hold⟩ : ∃ x, x = part f q q8 := ⟨_, rfl⟩
                obtain ⟨new, hnew⟩ : ∃ x, x = old ||| pw := ⟨_, rfl⟩
                have hpb : pw < 256 := by
                  rw [hpw]
                  have : 2 ^ p7 ≤ 2 ^ 7 := Nat.pow_le_pow_right (by omega) (by omega)
                  omega
                have hob : old < 256 := by rw [hold]; exact part_lt HF.out _ _
                have hnb2 : new < 256 := by rw [hnew]; exact Nat.or_lt_two_pow (n := 8) hob hpb
                have hor := u8_or_nat old pw hob hpb
                rw [← hnew] at hor
                have HO := Lib.hid (And.intro hold (And.intro (byteN hob) (And.intro hnew (And.intro hpw hp7))))
                have hq8y : IntKind.i64.wrap (q8 : Int) = (q8 : Int) := IntWalk.i64_in _ (by omega)
                have hpx : IntKind.u8.wrap (2 ^ min p7 8) = (pw : Int) := by
                  have hc : p7 = 0 ∨ p7 = 1 ∨ p7 = 2 ∨ p7 = 3 ∨ p7 = 4 ∨ p7 = 5 ∨ p7 = 6 ∨ p7 = 7 := by omega
                  rw [hpw]
                  rcases hc with h | h | h | h | h | h | h | h <;> rw [h] <;> decide
                have hset : (bytesUpto f m q).set q8 (byt new) = bytesUpto f m (q + 1) := by
                  have h1 := HQ.out.2.1
                  have h2 := HQ.out.2.2.1
                  rw [hnew, hold, hpw, hp7, h1, h2]
                  exact bytesUpto_set HF.out (by omega) (by rw [← HZF.out]; exact hz1)
                have HS := Lib.hid (And.intro hset (byteN hnb2))
                clear hp7 hpw hold hnew hset
                go_upto_region 13 with fail
                try simp only [Act.put, List.setIfInBounds_toArray, List.set_cons_succ, List.set_cons_zero]
                refine wp_region_qbT 11 (by kernel_rfl) (by kernel_rfl) ?_
                simp only [List.take_succ_cons, List.take_zero, List.drop_succ_cons, List.drop_zero]
                go_big_quiet_step (fail)
                go_big_quiet_step (fail)
                refine wq_val (o := ⟨some 49, _, _, _, _, _⟩) (v := .int .i64 (q8 : Int)) rfl (fun w' hC => by go_simp) ?_
                simp only [Act.put, List.setIfInBounds_toArray, List.set_cons_succ, List.set_cons_zero]
                refine wq_val (o := ⟨some 50, _, _, _, _, _⟩) (v := .pointer (some ⟨H, q8, none⟩)) rfl (fun w' hC => by go_simp) ?_
                simp only [Act.put, List.setIfInBounds_toArray, List.set_cons_succ, List.set_cons_zero]
                refine wq_val (o := ⟨some 51, _, _, _, _, _⟩) (v := .int .u8 (old : Int)) rfl (fun w' hC => by have cc := (From.blk hC HY.out.1).cell q8; rw [bytesUpto_cell f hm, ← HO.out.1] at cc; simp only [bv] at cc; rw [HO.out.2.1] at cc; go_simp) ?_
                simp only [Act.put, List.setIfInBounds_toArray, List.set_cons_succ, List.set_cons_zero]
                go_big_quiet_step (fail)
                refine wq_val (o := ⟨some 53, _, _, _, _, _⟩) (v := .int .i64 (r8 : Int)) rfl (fun w' hC => by go_simp) ?_
                simp only [Act.put, List.setIfInBounds_toArray, List.set_cons_succ, List.set_cons_zero]
                refine wq_val (o := ⟨some 54, _, _, _, _, _⟩) (v := .int .i64 (p7 : Int)) rfl (fun w' hC => by go_simp) ?_
                simp only [Act.put, List.setIfInBounds_toArray, List.set_cons_succ, List.set_cons_zero]
                refine wq_val (o := ⟨some 55, _, _, _, _, _⟩) (v := .int .u8 (pw : Int)) rfl (fun w' hC => by go_simp) ?_
                simp only [Act.put, List.setIfInBounds_toArray, List.set_cons_succ, List.set_cons_zero]
                refine wq_val (o := ⟨some 56, _, _, _, _, _⟩) (v := .int .u8 (new : Int)) rfl (fun w' hC => by go_simp) ?_
                simp only [Act.put, List.setIfInBounds_toArray, List.set_cons_succ, List.set_cons_zero]
                refine wq_val (o := ⟨some 57, _, _, _, _, _⟩) (v := .pointer (some ⟨H, q8, none⟩)) rfl (fun w' hC => by go_simp) ?_
                simp only [Act.put, List.setIfInBounds_toArray, List.set_cons_succ, List.set_cons_zero]
                refine wpQuiet_nil ?_
                intro w8 h8
                have hB8 := HY.out.1.grow h8
                have cc := hB8.cell q8
                rw [bytesUpto_cell f hm, ← HO.out.1] at cc
                have ff := hB8.frozen q8
                have hBs := hB8.set_ q8 (bv (byt new))
                rw [← List.map_set, HS.out.1] at hBs
                have e1 : bv (byt new) = .int .u8 (new : Int) := by unfold bv; rw [HS.out.2]
                rw [e1] at hBs
                have HW := Lib.hid (And.intro hBs (HY.out.2.trans (h8.mono (hH ▸ HY.out.2.size))))
                clear hB8 hBs e1 h8 hor hpx hq8x hq8y hr8x hp7i hand
                go_wp2
                exact ⟨⟨j + 1, by omega, by go_num, by rw [HNX.out _ rfl]; exact HW.out.1, HW.out.2.setCell (Nat.le_refl _) _⟩, by simp [intOf]; omega⟩
              · obtain rfl : z = 0 := by omega
                have hno : bytesUpto f m (q + 1) = bytesUpto f m q := bytesUpto_no HZF.out.symm
                have HNO := Lib.hid hno
                clear hno hz1 hz2
                go_wp2
                exact ⟨⟨j + 1, by omega, by go_num, by rw [HNX.out _ rfl, HNO.out]; exact HY.out.1, HY.out.2⟩, by simp [intOf]; omega⟩
            · have hmi2 : ¬ (q8 : Int) < (m : Int) := by omega
              have hno : bytesUpto f m (q + 1) = bytesUpto f m q := bytesUpto_out (by have := HQ.out.2.1; omega)
              have HNO := Lib.hid hno
              clear hno hand
              go_wp2
              exact ⟨⟨j + 1, by omega, by go_num, by rw [HNX.out _ rfl, HNO.out]; exact HY.out.1, HY.out.2⟩, by simp [intOf]; omega⟩
          · obtain rfl : j = 6 := by omega
            have HJ := Lib.hid hj
            clear hj hj6
            go_wp2
            refine ⟨⟨i + 1, by omega, by go_num, fun j hj => ?_, by rw [show 6 * (i + 1) = 6 * i + 6 by omega]; exact HY.out.1, HY.out.2⟩, by simp [intOf]; omega⟩
            by_cases hji : j < i
            · exact HX.out.1 j hji
            · obtain rfl : j = i := by omega
              rw [HXX.out.2]
              exact HZ.out.2.2
    · obtain rfl : i = n := by omega
      have hbuilt : bytesUpto f m (6 * i) = built l := by rw [HA.out.2.2.2, HA.out.2.2.1, HA.out.1]; rfl
      have hB := HX.out.2.1
      rw [hbuilt] at hB
      have hbl : (built l).length = m := by rw [← hbuilt, bytesUpto_length]
      obtain ⟨b, hbb⟩ : ∃ b, b = built l := ⟨_, rfl⟩
      rw [← hbb] at hB hbl
      have hrb : RB wr (some ⟨H, 0, none⟩) b := by
        have := hB.rb 0 m
        rw [List.drop_zero, List.take_of_length_le (by omega)] at this
        exact this
      have HB := Lib.hid (And.intro hB (And.intro hbb (And.intro hrb hbl)))
      have hb' : m = b.length := hbl.symm
      have HBL := Lib.hid hb'
      clear hbuilt hB hbb hrb hbl hb' hlt
      by_cases he : enc b = l
      · have hd : dec l = some b := by
          rw [HB.out.2.1] at he ⊢
          exact dec_of_built he
        have hse : (⟨(enc b).toArray⟩ : ByteArray) = s := by rw [he, HA.out.2.1]
        have HD := Lib.hid hd
        have HSE := Lib.hid hse
        have HEE := Lib.hid he
        clear hd he hse
        go_wp2_with (first
          | (go_at_call 63; go_must (refine (rencode_any (some ⟨H, 0, none⟩) m m b _ HB.out.2.2.1 HBL.out hmb).mono ?_); rintro e w2 ⟨he', hb2⟩; rw [HSE.out] at he'; subst he'))
        go_ret2
        rw [HD.out]
        refine ⟨_, rfl, ?_, hH ▸ (HX.out.2.2.trans (hb2.mono (hH ▸ HX.out.2.2.size)))⟩
        have := (HB.out.1.grow hb2).own (base := w.heap.size) (by omega) (by rw [List.length_map, ← HBL.out]; unfold maxLen; omega)
        rw [List.length_map, ← HBL.out] at this
        rw [← HBL.out]
        exact this
      · have hd : dec l = none := by
          cases h : dec l with
          | none => rfl
          | some d =>
            have h1 := built_of_dec h
            have h2 := enc_dec l d h
            rw [HB.out.2.1, h1] at he
            exact absurd h2 he
        have hne : ¬ (⟨(enc b).toArray⟩ : ByteArray) = s := by
          intro h
          rw [HA.out.2.1] at h
          injection h with h
          exact he (by simpa using congrArg Array.toList h)
        obtain ⟨s2, hs2⟩ : ∃ x, x = (⟨(enc b).toArray⟩ : ByteArray) := ⟨_, rfl⟩
        rw [← hs2] at hne
        have hnl : ¬ s2.toList = s.toList := by rw [hs2, HA.out.2.1, ByteArray.toList_eq, ByteArray.toList_eq]; simpa using he
        have hnb : (!s2.toList == s.toList) = true := by simp [hnl]
        have HD := Lib.hid hd
        have HS2 := Lib.hid hs2
        clear hd he hs2 hne hnl
        go_wp2_with (first
          | (go_at_call 63; go_must (refine (rencode_any (some ⟨H, 0, none⟩) m m b _ HB.out.2.2.1 HBL.out hmb).mono ?_); rintro e w2 ⟨he', hb2⟩; rw [← HS2.out] at he'; subst he'))
        go_ret2
        rw [HD.out]
        exact ⟨rfl, hH ▸ (HX.out.2.2.trans (hb2.mono (hH ▸ HX.out.2.2.size)))⟩
end Go.Proofs.YtoemceehmiaigaaDoor.Seal
