/- weirlaw05.SealOnly: what the law leans on, in plain words; the walk. -/
import Derived.Test.YtoemceehmiaigaaDoorLawOpens
namespace Go.Proofs.YtoemceehmiaigaaDoor.Seal
open Go.RowKit Go.Proofs.YtoemceehmiaigaaDoor.Mem Go.Proofs.YtoemceehmiaigaaDoor.Loan Go.Proofs.YtoemceehmiaigaaDoor.Sha Go.Proofs.YtoemceehmiaigaaDoor.Strs
set_option linter.unusedVariables false

theorem ltr_point {v : Nat} (h : v < 64) : ltr v ≠ 46 := by
  have h1 : ((List.range 64).all fun v => decide (ltr v ≠ 46)) = true := by decide +kernel
  simpa using below h1 h
theorem enc_point (l : List UInt8) : 46 ∉ enc l := by
  rw [enc_bits]
  intro h
  obtain ⟨i, _, hi⟩ := List.mem_map.1 h
  exact ltr_point (six_lt (bit_lt l) (6 * i)) hi
theorem un_err {b : List UInt8} (h : unE b ≠ 0) : unZ b = 0 ∧ unP b = [] := by
  unfold unE at h
  unfold unZ unP
  by_cases h1 : b.length < 8
  · rw [if_pos h1, if_pos h1]; exact ⟨rfl, rfl⟩
  · rw [if_neg h1] at h
    by_cases h2 : 1032 < b.length
    · rw [if_neg h1, if_neg h1, if_pos h2, if_pos h2]; exact ⟨rfl, rfl⟩
    · rw [if_neg h2] at h; exact absurd rfl h
/-- the ways of Open -/
theorem openV_cases (k t : List UInt8) : (∃ e, e ≠ 0 ∧ openV k t = (0, [], e)) ∨ ∃ pb, unE pb = 0 ∧ openV k t = (unZ pb, unP pb, 0) ∧ t = enc pb ++ 46 :: enc (hmacf k pb) := by
  unfold openV
  by_cases hl : 4096 < t.length
  · rw [if_pos hl]; exact .inl ⟨1, by decide, rfl⟩
  · rw [if_neg hl]
    cases hc : cutL 46 t with
    | none => exact .inl ⟨51, by decide, rfl⟩
    | some p =>
      obtain ⟨a, b⟩ := p
      simp only
      cases hc2 : cutL 46 b with
      | some q => exact .inl ⟨51, by decide, rfl⟩
      | none =>
        simp only
        cases hd1 : dec a with
        | none => exact .inl ⟨50, by decide, rfl⟩
        | some pb =>
          simp only
          cases hd2 : dec b with
          | none => exact .inl ⟨50, by decide, rfl⟩
          | some g =>
            simp only
            by_cases hg : g = hmacf k pb
            · rw [if_pos hg]
              by_cases he : unE pb = 0
              · refine .inr ⟨pb, he, by rw [he], ?_⟩
                rw [(cutL_some hc).1, enc_dec a pb hd1, ← hg, enc_dec b g hd2]
              · obtain ⟨h1, h2⟩ := un_err he
                exact .inl ⟨unE pb, he, by rw [h1, h2]⟩
            · rw [if_neg hg]; exact .inl ⟨52, by decide, rfl⟩
theorem unE_zero {b : List UInt8} (h : unE b = 0) : pack (unZ b) (unP b) = b := by
  rcases unE_cases b with h1 | h1 | h1
  · omega
  · omega
  · exact h1.2
/-- what opens is what is minted of it -/
theorem openV_mint {k t : List UInt8} (h : (openV k t).2.2 = 0) : mintR k (openV k t).1 (openV k t).2.1 = t ∧ packE (openV k t).2.1 = 0 ∧ (openV k t).2.1.length ≤ 1024 ∧ (-9223372036854775808 ≤ (openV k t).1 ∧ (openV k t).1 ≤ 9223372036854775807) := by
  rcases openV_cases k t with ⟨e, he, h1⟩ | ⟨pb, he, h1, h2⟩
  · rw [h1] at h; exact absurd h he
  · rw [h1]
    have hl := unP_len pb
    refine ⟨?_, packE_un pb, hl, unZ_wf pb⟩
    unfold mintR mintB
    rw [if_neg (by simp only; omega)]
    simp only
    rw [unE_zero he]
    exact h2.symm
theorem openV_err {k t : List UInt8} (h : (openV k t).2.2 ≠ 0) : (openV k t).1 = 0 ∧ (openV k t).2.1 = [] := by
  rcases openV_cases k t with ⟨e, he, h1⟩ | ⟨pb, he, h1, h2⟩
  · rw [h1]; exact ⟨rfl, rfl⟩
  · rw [h1] at h; exact absurd rfl h
theorem mintB_len (k : List UInt8) (z : Int) (p : List UInt8) : (mintB k z p).length = (8 * (8 + p.length) + 5) / 6 + 44 := by
  unfold mintB
  rw [List.length_append, List.length_cons, enc_length, enc_length, hmacf_length, pack_length]
/-- what is minted opens as what it was minted of -/
theorem mint_openV (k : List UInt8) (z : Int) (p : List UInt8) (hz : -9223372036854775808 ≤ z ∧ z ≤ 9223372036854775807) (hp : p.length ≤ 1024) : openV k (mintR k z p) = (z, p, 0) := by
  have hl := mintB_len k z p
  have hu := un_pack z p hz hp
  unfold mintR
  rw [if_neg (by omega)]
  unfold mintB at hl ⊢
  rw [openV, if_neg (by omega), cutL_of (enc_point _)]
  simp only [cutL_not (enc_point _), dec_enc]
  rw [if_pos trivial, hu.1, hu.2.1, hu.2.2]
theorem mint_long {k p : List UInt8} {z : Int} (h : 1024 < p.length) : mintR k z p = [] ∧ packE p = 1 := by unfold mintR packE; rw [if_pos h, if_pos h]; exact ⟨rfl, rfl⟩
theorem mint_short {p : List UInt8} (h : ¬ 1024 < p.length) : packE p = 0 := by unfold packE; rw [if_neg h]

set_option maxRecDepth 4000 in
set_option maxHeartbeats 1600000 in
theorem law_only (K : Option Addr) (kc : Nat) (key : List UInt8) (B : Option Addr) (cb : Nat) (ss : List (List UInt8)) (z : Int) (p : List UInt8) (w : World) (hK : RB w K key) (hkc : key.length ≤ kc) (hkl : key.length ≤ 1048576)
    (hB : RV w B (ss.map strV)) (hss : ∀ s ∈ ss, s.length ≤ 1048576) (hs1 : ss.length ≤ 1048576) (hz : -9223372036854775808 ≤ z ∧ z ≤ 9223372036854775807) (hp : p.length ≤ 1048576) (hG : GB w) :
    Calls Tryd.prog 12 #[.slice K key.length kc, .slice B ss.length cb, .agg #[.int .i64 z, .string ⟨p.toArray⟩]] w fun e w' => e = .returned (.bool true) ∧ Below w.heap.size w w' := by
  obtain ⟨m, hm⟩ : ∃ m, m = ss.length := ⟨_, rfl⟩
  obtain ⟨kl, hkl0⟩ : ∃ m, m = key.length := ⟨_, rfl⟩
  have hmi : (m : Int) ≤ 1048576 := by omega
  rw [← hm, ← hkl0]
  have HK := Lib.hid (And.intro hkl0 (And.intro hK (And.intro hkc (And.intro hkl (And.intro hG (And.intro hz hp))))))
  have HB := Lib.hid (And.intro hB (And.intro hss hm))
  obtain ⟨sp, hsp⟩ : ∃ x, x = (⟨p.toArray⟩ : ByteArray) := ⟨_, rfl⟩
  obtain ⟨lp, hlp⟩ : ∃ x, x = p.length := ⟨_, rfl⟩
  have hsz : sp.size = lp := by rw [hsp, hlp]; simp [ByteArray.size]
  have hlpi : (lp : Int) ≤ 1048576 := by omega
  rw [← hsp]
  have HP := Lib.hid (And.intro hsp hlp)
  clear hB hss hm hs1 hkl0 hK hkc hkl hG hz hp hsp hlp
  generalize hH : w.heap.size = H at *
  go_enter Tryd.func12, Tryd.ntmps12
  go_upto_region 3 with (first
    | (go_at_call 37; go_must (refine (alive_any _).mono ?_); rintro e w1 ⟨rfl, hb1⟩))
  have hB0 : Blk w1 H 72 [.int .i64 z, .string sp] := (show Blk _ H _ _ from hH ▸ Blk.new w 72 [.int .i64 z, .string sp]).grow hb1
  have hw1 : Below H w w1 := (show Below H w _ from hH ▸ ga (gr w) _).trans (hb1.mono (by rw [← hH]; exact (ga (gr w) _).size))
  have HW1 := Lib.hid (And.intro hB0 hw1)
  clear hb1 hB0 hw1
  go_wp2_with fail
  go_loopw [7] (fun v7 wr => ∃ j : Nat, j ≤ m ∧ v7 = .int .i64 j ∧ Blk wr H 72 [.int .i64 z, .string sp] ∧ Below H w wr) (fun v _ => m - (intOf v).toNat)
  case atStart => exact ⟨0, by omega, rfl, HW1.out⟩
  case round =>
    clear HW1
    obtain ⟨j, hj, rfl, hB0, hb⟩ := hrel
    have hj0 : (0 : Int) ≤ (j : Int) := by omega
    by_cases hlt : j < m
    · have hjr : j < ss.length := by have := HB.out.2.2; omega
      obtain ⟨s, hs⟩ : ∃ s, s = ss[j] := ⟨_, rfl⟩
      have hsm : s ∈ ss := by rw [hs]; exact List.getElem_mem _
      have hsl := HB.out.2.1 s hsm
      have hlen : j < (ss.map strV).length := by rw [List.length_map]; exact hjr
      obtain ⟨ad, hB', cc0⟩ := HB.out.1 j hlen
      have cc : wr.cell? (ad.add j) = some (strV s) := (HB.out.1.below (hH ▸ hb)).cells hB' j _ (by rw [List.getElem?_map, List.getElem?_eq_getElem hjr, hs]; rfl)
      unfold strV at cc
      obtain ⟨oz, hoz⟩ : ∃ x, x = (openV key s).1 := ⟨_, rfl⟩
      obtain ⟨os, hos⟩ : ∃ x : ByteArray, x = ⟨(openV key s).2.1.toArray⟩ := ⟨_, rfl⟩
      obtain ⟨oe, hoe⟩ : ∃ x, x = (openV key s).2.2 := ⟨_, rfl⟩
      have cO := Lib.hid (fun W hW => open_m key s K kl kc w oz os oe hoz hos hoe HK.out.1 HK.out.2.1 (by rw [HK.out.1]; exact HK.out.2.2.1) (by have := HK.out.1; have := HK.out.2.2.2.1; omega) (by omega) HK.out.2.2.2.2.1 W hW)
      have hji : (j : Int) < (m : Int) := by omega
      subst hB'
      have HW := Lib.hid (And.intro hB0 hb)
      clear cc0 hlen hs hsm hsl hlt hjr hb hB0
      by_cases he : oe = 0
      · have hme := openV_mint (k := key) (t := s) (by rw [← hoe]; exact he)
        obtain ⟨q, hq⟩ : ∃ x, x = (openV key s).2.1 := ⟨_, rfl⟩
        rw [← hq, ← hoz] at hme
        rw [← hq] at hos
        have cM := Lib.hid (fun W hW => mint_m key oz q K kl kc w ⟨s.toArray⟩ 0 (by rw [hme.1]) hme.2.1.symm HK.out.1 HK.out.2.1 (by rw [HK.out.1]; exact HK.out.2.2.1) (by have := HK.out.1; have := HK.out.2.2.2.1; omega) hme.2.2.2 (by have := hme.2.2.1; omega) HK.out.2.2.2.2.1 W hW)
        rw [← hos] at cM
        subst he
        clear hoz hos hoe hq hme
        go_upto_region 7 with (first
          | (go_at_call 36; go_must (refine (cO.out _ (hH ▸ HW.out.2)).mono ?_); rintro e w4 ⟨rfl, hb4⟩))
        obtain ⟨w5, hw5⟩ : ∃ x, x = w4.alloc (.cells #[.int .i64 oz, .string os] 72) := ⟨_, rfl⟩
        rw [← hw5]
        have hb5 : Below wr.heap.size wr w5 := hw5 ▸ ga hb4 _
        have hB5 : Blk w5 w4.heap.size 72 [.int .i64 oz, .string os] := hw5 ▸ Blk.new w4 _ _
        have HW5 := Lib.hid (And.intro hB5 (And.intro (HW.out.1.grow hb5) (HW.out.2.trans (hb5.mono (hH ▸ HW.out.2.size)))))
        generalize w4.heap.size = g8 at *
        replace cc := cell_grow cc hb5
        clear HW hb4 hb5 hB5 hw5
        have d0 := HW5.out.1.cell 0
        have d1 := HW5.out.1.cell 1
        simp only [List.getElem?_cons_succ, List.getElem?_cons_zero] at d0 d1
        go_upto_region 11 with (first
          | (go_at_call 35; go_must (refine (cM.out _ (hH ▸ HW5.out.2.2)).mono ?_); rintro e w6 ⟨rfl, hb6⟩))
        replace cc := cell_grow cc hb6
        have HW6 := Lib.hid (And.intro (HW5.out.2.1.grow hb6) (HW5.out.2.2.trans (hb6.mono (hH ▸ HW5.out.2.2.size))))
        clear HW5 hb6 d0 d1
        go_wp2_with fail
        exact ⟨⟨j + 1, by omega, by go_num, HW6.out⟩, by simp [intOf]; omega⟩
      · have hme := openV_err (k := key) (t := s) (by rw [← hoe]; exact he)
        rw [hme.1] at hoz
        rw [hme.2] at hos
        have hos' : os = ⟨#[]⟩ := hos
        clear hoe hme hos
        subst hoz hos'
        go_upto_region 7 with (first
          | (go_at_call 36; go_must (refine (cO.out _ (hH ▸ HW.out.2)).mono ?_); rintro e w4 ⟨rfl, hb4⟩))
        obtain ⟨w5, hw5⟩ : ∃ x, x = w4.alloc (.cells #[.int .i64 0, .string ⟨#[]⟩] 72) := ⟨_, rfl⟩
        rw [← hw5]
        have hb5 : Below wr.heap.size wr w5 := hw5 ▸ ga hb4 _
        have hB5 : Blk w5 w4.heap.size 72 [.int .i64 0, .string ⟨#[]⟩] := hw5 ▸ Blk.new w4 _ _
        have HW5 := Lib.hid (And.intro hB5 (And.intro (HW.out.1.grow hb5) (HW.out.2.trans (hb5.mono (hH ▸ HW.out.2.size)))))
        generalize w4.heap.size = g8 at *
        clear HW hb4 hb5 hB5 hw5 cc
        have d0 := HW5.out.1.cell 0
        have d1 := HW5.out.1.cell 1
        simp only [List.getElem?_cons_succ, List.getElem?_cons_zero] at d0 d1
        go_wp2_with fail
        exact ⟨⟨j + 1, by omega, by go_num, HW5.out.2⟩, by simp [intOf]; omega⟩
    · obtain rfl : j = m := by omega
      have HW := Lib.hid (And.intro hB0 hb)
      have hjn : ¬ (j : Int) < (j : Int) := by omega
      have c0 := hB0.cell 0
      have c1 := hB0.cell 1
      simp only [List.getElem?_cons_succ, List.getElem?_cons_zero] at c0 c1
      clear hb hlt HB hB0
      by_cases hlong : 1024 < p.length
      · have hml := mint_long (k := key) (z := z) hlong
        have cM := Lib.hid (fun W hW => mint_m key z p K kl kc w ⟨#[]⟩ 1 (by rw [hml.1]) hml.2.symm HK.out.1 HK.out.2.1 (by rw [HK.out.1]; exact HK.out.2.2.1) (by have := HK.out.1; have := HK.out.2.2.2.1; omega) HK.out.2.2.2.2.2.1 HK.out.2.2.2.2.2.2 HK.out.2.2.2.2.1 W hW)
        rw [← HP.out.1] at cM
        have hlo : 1024 < (lp : Int) := by have := HP.out.2; omega
        clear hml hlong
        go_upto_region 14 with (first
          | (go_at_call 35; go_must (refine (cM.out _ (hH ▸ HW.out.2)).mono ?_); rintro e w6 ⟨rfl, hb6⟩))
        replace c1 := cell_grow c1 hb6
        go_wp2_with fail
        go_ret
        exact ⟨rfl, HW.out.2.trans (hb6.mono (hH ▸ HW.out.2.size))⟩
      · have hml := mint_short hlong
        have hov := mint_openV key z p HK.out.2.2.2.2.2.1 (by omega)
        obtain ⟨tk, htk⟩ : ∃ x, x = mintR key z p := ⟨_, rfl⟩
        have htl : tk.length ≤ 4096 := by
          rw [htk]; unfold mintR; rw [if_neg hlong, mintB_len]; omega
        rw [← htk] at hov
        have cM := Lib.hid (fun W hW => mint_m key z p K kl kc w ⟨tk.toArray⟩ 0 (by rw [htk]) hml.symm HK.out.1 HK.out.2.1 (by rw [HK.out.1]; exact HK.out.2.2.1) (by have := HK.out.1; have := HK.out.2.2.2.1; omega) HK.out.2.2.2.2.2.1 HK.out.2.2.2.2.2.2 HK.out.2.2.2.2.1 W hW)
        have cO := Lib.hid (fun W hW => open_m key tk K kl kc w z sp 0 (by rw [hov]) (by rw [hov]; exact HP.out.1) (by rw [hov]) HK.out.1 HK.out.2.1 (by rw [HK.out.1]; exact HK.out.2.2.1) (by have := HK.out.1; have := HK.out.2.2.2.1; omega) (by omega) HK.out.2.2.2.2.1 W hW)
        rw [← HP.out.1] at cM
        have hlo : (lp : Int) ≤ 1024 := by have := HP.out.2; omega
        clear hml hlong hov htk htl
        go_upto_region 14 with (first
          | (go_at_call 35; go_must (refine (cM.out _ (hH ▸ HW.out.2)).mono ?_); rintro e w6 ⟨rfl, hb6⟩))
        replace c1 := cell_grow c1 hb6
        replace c0 := cell_grow c0 hb6
        have HW6 := Lib.hid (And.intro (HW.out.1.grow hb6) (HW.out.2.trans (hb6.mono (hH ▸ HW.out.2.size))))
        clear HW hb6
        go_upto_region 17 with (first
          | (go_at_call 36; go_must (refine (cO.out _ (hH ▸ HW6.out.2)).mono ?_); rintro e w7 ⟨rfl, hb7⟩))
        obtain ⟨w8, hw8⟩ : ∃ x, x = w7.alloc (.cells #[.int .i64 z, .string sp] 72) := ⟨_, rfl⟩
        rw [← hw8]
        have hb8 : Below w6.heap.size w6 w8 := hw8 ▸ ga hb7 _
        have hB8 : Blk w8 w7.heap.size 72 [.int .i64 z, .string sp] := hw8 ▸ Blk.new w7 _ _
        have HW8 := Lib.hid (HW6.out.2.trans (hb8.mono (hH ▸ HW6.out.2.size)))
        replace c1 := cell_grow c1 hb8
        replace c0 := cell_grow c0 hb8
        generalize w7.heap.size = g14 at *
        have d0 := hB8.cell 0
        have d1 := hB8.cell 1
        simp only [List.getElem?_cons_succ, List.getElem?_cons_zero] at d0 d1
        clear HW6 hb7 hb8 hB8 hw8
        go_wp2_with fail
        go_ret
        exact ⟨rfl, HW8.out⟩
end Go.Proofs.YtoemceehmiaigaaDoor.Seal
