/- weirlaw05.SealEncodes: the walk. -/
import Derived.Test.YtoemceehmiaigaaAlive
import Derived.Test.YtoemceehmiaigaaSealRows
namespace Go.Proofs.Ytoemceehmiaigaa.Seal
open Go.RowKit Go.Proofs.Ytoemceehmiaigaa.Mem Go.Proofs.Ytoemceehmiaigaa.Loan
set_option linter.unusedVariables false

theorem encode_n (A : Option Addr) (c n : Nat) (l : List UInt8) (w : World) (ha : RB w A l) (hn : n = l.length) (hl : n ≤ 1073741824) :
    Calls Try.prog 16 #[.slice A n c] w fun e w' => e = .returned (.string ⟨(enc l).toArray⟩) ∧ Below w.heap.size w w' := by
  subst hn
  exact encode_any A c l w ha hl
theorem enc_len (l : List UInt8) : (enc l).length ≤ 2 * l.length + 2 := by rw [enc_length]; omega

set_option maxRecDepth 4000 in
set_option maxHeartbeats 1600000 in
theorem law_encodes (A : Option Addr) (c : Nat) (rs : List SRow) (B : Option Addr) (cb : Nat) (ss : List (List UInt8)) (w : World) (hA : RV w A (rs.flatMap SRow.cells)) (hok : ∀ r ∈ rs, r.ok w) (hr1 : rs.length ≤ 1048576)
    (hB : RV w B (ss.map strV)) (hss : ∀ s ∈ ss, s.length ≤ 1048576) (hs1 : ss.length ≤ 1048576) :
    Calls Try.prog 4 #[.slice A rs.length c, .slice B ss.length cb] w fun e w' => e = .returned (.bool true) ∧ Below w.heap.size w w' := by
  obtain ⟨n, hn⟩ : ∃ n, n = rs.length := ⟨_, rfl⟩
  obtain ⟨m, hm⟩ : ∃ m, m = ss.length := ⟨_, rfl⟩
  have hni : (n : Int) ≤ 1048576 := by omega
  have hmi : (m : Int) ≤ 1048576 := by omega
  rw [← hn, ← hm]
  have HA := Lib.hid (And.intro hA (And.intro hok hn))
  have HB := Lib.hid (And.intro hB (And.intro hss hm))
  clear hA hok hB hss hn hm hr1 hs1
  go_enter Try.func4, Try.ntmps4
  go_upto_region 2 with (first
    | (go_at_call 14; go_must (refine (alive_any _).mono ?_); rintro e w1 ⟨rfl, hb1⟩))
  go_wp2_with fail
  go_loopw [5] (fun v5 wr => ∃ k : Nat, k ≤ n ∧ v5 = .int .i64 k ∧ Below w.heap.size w wr) (fun v _ => n - (intOf v).toNat)
  case atStart => exact ⟨0, by omega, rfl, hb1⟩
  case round =>
    clear hb1
    obtain ⟨k, hk, rfl, hb⟩ := hrel
    have hk0 : (0 : Int) ≤ (k : Int) := by omega
    by_cases hlt : k < n
    · have hkr : k < rs.length := by have := HA.out.2.2; omega
      obtain ⟨r, hr⟩ : ∃ r, r = rs[k] := ⟨_, rfl⟩
      have hrm : r ∈ rs := by rw [hr]; exact List.getElem_mem _
      have hro := HA.out.2.1 r hrm
      have hlen : k < (rs.flatMap SRow.cells).length := by rw [srows_map, List.length_map]; exact hkr
      obtain ⟨ad, hA', cc0⟩ := HA.out.1 k hlen
      have cc : wr.cell? (ad.add k) = some (.slice r.A r.l.length r.c) := (HA.out.1.below hb).cells hA' k _ (by rw [srows_map, List.getElem?_map, List.getElem?_eq_getElem hkr, hr]; rfl)
      have HR := Lib.hid (And.intro hro hb)
      have hki : (k : Int) < (n : Int) := by omega
      clear cc0 hlen
      subst hA'
      obtain ⟨RA, rc, rl⟩ := r
      simp only [] at cc
      obtain ⟨L, hL⟩ : ∃ L, L = rl.length := ⟨_, rfl⟩
      rw [← hL] at cc
      have hL2 : L ≤ 1048576 := by have := HR.out.1.2.2; simp only [] at this; omega
      have HL := Lib.hid hL
      clear hr hrm hro hb hlt hL hkr
      go_upto_region 7 with (first
        | (go_at_call 15; go_must (refine (rencode_any RA rc L rl _ (HR.out.1.1.below HR.out.2) HL.out (by omega)).mono ?_); rintro e w2 ⟨rfl, hb2⟩))
      have cc2 := (hb2.cell (by exact block_lt_of_cell cc)).trans cc
      clear cc
      go_upto_region 8 with (first
        | (go_at_call 16; go_must (refine (encode_n RA rc L rl _ (HR.out.1.1.below (HR.out.2.trans (hb2.mono HR.out.2.size))) HL.out (by omega)).mono ?_); rintro e w3 ⟨rfl, hb3⟩))
      have cc3 := (hb3.cell (by exact block_lt_of_cell cc2)).trans cc2
      clear cc2
      obtain ⟨el, hel⟩ : ∃ x, x = enc rl := ⟨_, rfl⟩
      have hde : dec el = some rl := by rw [hel]; exact dec_enc rl
      have hel2 : el.length ≤ 1073741824 := by rw [hel]; have := enc_len rl; have := HL.out; omega
      rw [← hel]
      clear hel
      go_upto_region 9 with (first
        | (go_at_call 17; go_must (refine (decode_any el _ hel2).mono ?_); rintro e w4 h4; rw [hde] at h4; obtain ⟨v4, rfl, ho4, hb4⟩ := h4))
      have cc4 := (hb4.cell (by exact block_lt_of_cell cc3)).trans cc3
      clear cc3 hde hel2
      obtain ⟨A4, n4, c4, rfl, hn4⟩ := own_form ho4
      have hb14 := ((HR.out.2.trans (hb2.mono HR.out.2.size)).trans (hb3.mono (Nat.le_trans HR.out.2.size hb2.size))).trans (hb4.mono (Nat.le_trans (Nat.le_trans HR.out.2.size hb2.size) hb3.size))
      have ha := own_rb' ho4
      have hr := HR.out.1.1.below hb14
      have HS := Lib.hid (And.intro ha (And.intro hr (And.intro (hn4.trans HL.out.symm) hb14)))
      clear ha hr hn4 ho4 hb2 hb3 hb4 hb14
      go_upto_region 5 with (first
        | (go_at_call 18; go_must (refine (same_any A4 RA n4 L c4 rc rl rl _ HS.out.1 HS.out.2.1 (HS.out.2.2.1.trans HL.out) HL.out).mono ?_); rintro e w5 ⟨rfl, rfl⟩; rw [decide_eq_true rfl]))
      clear cc4
      go_wp2
      exact ⟨⟨k + 1, by omega, by go_num, HS.out.2.2.2⟩, by simp [intOf]; omega⟩
    · obtain rfl : k = n := by omega
      have HW := Lib.hid hb
      have hkn : ¬ (k : Int) < (k : Int) := by omega
      clear hb hlt HA
      go_wp2_with fail
      go_loopw [10] (fun v10 wr => ∃ j : Nat, j ≤ m ∧ v10 = .int .i64 j ∧ Below w.heap.size w wr) (fun v _ => m - (intOf v).toNat)
      case atStart => exact ⟨0, by omega, rfl, HW.out⟩
      case round =>
        clear HW hkn
        obtain ⟨j, hj, rfl, hb⟩ := hrel
        have hj0 : (0 : Int) ≤ (j : Int) := by omega
        by_cases hlt : j < m
        · have hjr : j < ss.length := by have := HB.out.2.2; omega
          obtain ⟨s, hs⟩ : ∃ s, s = ss[j] := ⟨_, rfl⟩
          have hsm : s ∈ ss := by rw [hs]; exact List.getElem_mem _
          have hsl := HB.out.2.1 s hsm
          have hlen : j < (ss.map strV).length := by rw [List.length_map]; exact hjr
          obtain ⟨ad, hB', cc0⟩ := HB.out.1 j hlen
          have cc : wr.cell? (ad.add j) = some (strV s) := (HB.out.1.below hb).cells hB' j _ (by rw [List.getElem?_map, List.getElem?_eq_getElem hjr, hs]; rfl)
          unfold strV at cc
          have hji : (j : Int) < (m : Int) := by omega
          clear cc0 hlen
          subst hB'
          have HX := Lib.hid (And.intro hb hsl)
          clear hs hsm hsl hb hlt hjr
          rcases hd : dec s with _ | d
          · go_upto_region 15 with (first
              | (go_at_call 17; go_must (refine (decode_any s _ (by have := HX.out.2; omega)).mono ?_); rintro e w2 h2; rw [hd] at h2; obtain ⟨rfl, hb2⟩ := h2))
            have cc2 := (hb2.cell (by exact block_lt_of_cell cc)).trans cc
            have hbb2 := HX.out.1.trans (hb2.mono HX.out.1.size)
            clear cc
            go_upto_region 16 with (first
              | (go_at_call 19; go_must (refine (rdecode_any s _ (by have := HX.out.2; omega)).mono ?_); rintro e w3 h3; rw [hd] at h3; obtain ⟨rfl, hb3⟩ := h3))
            have cc3 := (hb3.cell (by exact block_lt_of_cell cc2)).trans cc2
            have HY := Lib.hid (hbb2.trans (hb3.mono hbb2.size))
            clear cc2 hbb2 hb2 hb3 hd
            try simp only [Act.put, List.setIfInBounds_toArray, List.set_cons_succ, List.set_cons_zero]
            refine wp_region_qb (by kernel_rfl) (by kernel_rfl) ?_
            go_big_quiet_step (fail)
            go_big_quiet_step (fail)
            refine wq_val (o := ⟨some 78, _, _, _, _, _⟩) (v := .bool false) rfl (fun w' hC => by go_simp) ?_
            simp only [Act.put, List.setIfInBounds_toArray, List.set_cons_succ, List.set_cons_zero]
            go_big_quiet_step (fail)
            go_big_quiet_step (fail)
            go_big_quiet_step (fail)
            refine wq_call (f := 18) (args := #[.slice none 0 0, .slice none 0 0]) (v := .bool true) rfl (fun w' _ => by go_simp) (fun w' hC => ?_) ?_
            · exact (same_any none none 0 0 0 0 [] [] w' (RB.nil _ _) (RB.nil _ _) rfl rfl).mono fun e w'' h => ⟨h.1, h.2 ▸ gr w'⟩
            simp only [Act.put, List.setIfInBounds_toArray, List.set_cons_succ, List.set_cons_zero]
            refine wq_val (o := ⟨some 83, _, _, _, _, _⟩) (v := .bool false) rfl (fun w' hC => by go_simp) ?_
            simp only [Act.put, List.setIfInBounds_toArray, List.set_cons_succ, List.set_cons_zero]
            refine wq_val (o := ⟨some 84, _, _, _, _, _⟩) (v := .bool false) rfl (fun w' hC => by go_simp) ?_
            simp only [Act.put, List.setIfInBounds_toArray, List.set_cons_succ, List.set_cons_zero]
            go_big_quiet_step (fail)
            go_big_quiet_step (fail)
            refine wq_val (o := ⟨some 87, _, _, _, _, _⟩) (v := .bool false) rfl (fun w' hC => by go_simp) ?_
            simp only [Act.put, List.setIfInBounds_toArray, List.set_cons_succ, List.set_cons_zero]
            go_big_quiet_step (fail)
            go_big_quiet_step (fail)
            go_big_quiet_step (fail)
            go_big_quiet_step (fail)
            go_big_quiet_step (fail)
            go_big_quiet_step (fail)
            go_big_quiet_step (fail)
            go_big_quiet_step (fail)
            refine wq_val (o := ⟨some 96, _, _, _, _, _⟩) (v := .bool false) rfl (fun w' hC => by go_simp) ?_
            simp only [Act.put, List.setIfInBounds_toArray, List.set_cons_succ, List.set_cons_zero]
            refine wq_val (o := ⟨some 97, _, _, _, _, _⟩) (v := .bool false) rfl (fun w' hC => by go_simp) ?_
            simp only [Act.put, List.setIfInBounds_toArray, List.set_cons_succ, List.set_cons_zero]
            refine wpQuiet_nil ?_
            intro w4 h4
            have hb4 := HY.out.trans (h4.mono HY.out.size)
            clear cc3 h4 HY
            go_wp2
            exact ⟨⟨j + 1, by omega, by go_num, hb4⟩, by simp [intOf]; omega⟩
          · have hed := enc_dec s d hd
            have hdl : d.length ≤ 1073741824 := by have := enc_length d; rw [hed] at this; have := HX.out.2; omega
            have HD := Lib.hid hed
            go_upto_region 15 with (first
              | (go_at_call 17; go_must (refine (decode_any s _ (by have := HX.out.2; omega)).mono ?_); rintro e w2 h2; rw [hd] at h2; obtain ⟨v2, rfl, ho2, hb2⟩ := h2))
            have cc2 := (hb2.cell (by exact block_lt_of_cell cc)).trans cc
            have hbb2 := HX.out.1.trans (hb2.mono HX.out.1.size)
            obtain ⟨A2, n2, c2, rfl, hn2⟩ := own_form ho2
            subst hn2
            clear cc
            go_upto_region 16 with (first
              | (go_at_call 19; go_must (refine (rdecode_any s _ (by have := HX.out.2; omega)).mono ?_); rintro e w3 h3; rw [hd] at h3; obtain ⟨v3, rfl, ho3, hb3⟩ := h3))
            have cc3 := (hb3.cell (by exact block_lt_of_cell cc2)).trans cc2
            obtain ⟨A3, n3, c3, rfl, hn3⟩ := own_form ho3
            subst hn3
            have HY := Lib.hid (hbb2.trans (hb3.mono hbb2.size))
            have HZ := Lib.hid (And.intro ((own_rb' ho2).below hb3) (And.intro (own_rb' ho3) hdl))
            clear cc2 hbb2 hb2 hb3 hd hed ho2 ho3 hdl
            try simp only [Act.put, List.setIfInBounds_toArray, List.set_cons_succ, List.set_cons_zero]
            refine wp_region_qb (by kernel_rfl) (by kernel_rfl) ?_
            go_big_quiet_step (fail)
            go_big_quiet_step (fail)
            refine wq_val (o := ⟨some 78, _, _, _, _, _⟩) (v := .bool false) rfl (fun w' hC => by go_simp) ?_
            simp only [Act.put, List.setIfInBounds_toArray, List.set_cons_succ, List.set_cons_zero]
            go_big_quiet_step (fail)
            go_big_quiet_step (fail)
            go_big_quiet_step (fail)
            refine wq_call (f := 18) (args := #[.slice A2 d.length c2, .slice A3 d.length c3]) (v := .bool true) rfl (fun w' _ => by go_simp) (fun w' hC => ?_) ?_
            · exact (same_any A2 A3 _ _ c2 c3 d d w' (HZ.out.1.below hC) (HZ.out.2.1.below hC) rfl rfl).mono fun e w'' h => ⟨by rw [h.1, decide_eq_true rfl], h.2 ▸ gr w'⟩
            simp only [Act.put, List.setIfInBounds_toArray, List.set_cons_succ, List.set_cons_zero]
            refine wq_val (o := ⟨some 83, _, _, _, _, _⟩) (v := .bool false) rfl (fun w' hC => by go_simp) ?_
            simp only [Act.put, List.setIfInBounds_toArray, List.set_cons_succ, List.set_cons_zero]
            refine wq_val (o := ⟨some 84, _, _, _, _, _⟩) (v := .bool false) rfl (fun w' hC => by go_simp) ?_
            simp only [Act.put, List.setIfInBounds_toArray, List.set_cons_succ, List.set_cons_zero]
            go_big_quiet_step (fail)
            go_big_quiet_step (fail)
            refine wq_val (o := ⟨some 87, _, _, _, _, _⟩) (v := .bool true) rfl (fun w' hC => by go_simp) ?_
            simp only [Act.put, List.setIfInBounds_toArray, List.set_cons_succ, List.set_cons_zero]
            go_big_quiet_step (fail)
            go_big_quiet_step (fail)
            refine wq_call (f := 16) (args := #[.slice A2 d.length c2]) (v := .string ⟨s.toArray⟩) rfl (fun w' _ => by go_simp) (fun w' hC => ?_) ?_
            · have := encode_n A2 c2 _ d w' (HZ.out.1.below hC) rfl HZ.out.2.2
              rw [HD.out] at this
              exact this
            simp only [Act.put, List.setIfInBounds_toArray, List.set_cons_succ, List.set_cons_zero]
            go_big_quiet_step (fail)
            go_big_quiet_step (fail)
            refine wq_val (o := ⟨some 93, _, _, _, _, _⟩) (v := .pointer (some (ad.add j))) rfl (fun w' hC => by go_simp) ?_
            simp only [Act.put, List.setIfInBounds_toArray, List.set_cons_succ, List.set_cons_zero]
            refine wq_val (o := ⟨some 94, _, _, _, _, _⟩) (v := .string ⟨s.toArray⟩) rfl (fun w' hC => by have := cell_grow cc3 hC; go_simp) ?_
            simp only [Act.put, List.setIfInBounds_toArray, List.set_cons_succ, List.set_cons_zero]
            refine wq_val (o := ⟨some 95, _, _, _, _, _⟩) (v := .bool false) rfl (fun w' hC => by go_simp) ?_
            simp only [Act.put, List.setIfInBounds_toArray, List.set_cons_succ, List.set_cons_zero]
            refine wq_val (o := ⟨some 96, _, _, _, _, _⟩) (v := .bool false) rfl (fun w' hC => by go_simp) ?_
            simp only [Act.put, List.setIfInBounds_toArray, List.set_cons_succ, List.set_cons_zero]
            refine wq_val (o := ⟨some 97, _, _, _, _, _⟩) (v := .bool false) rfl (fun w' hC => by go_simp) ?_
            simp only [Act.put, List.setIfInBounds_toArray, List.set_cons_succ, List.set_cons_zero]
            refine wpQuiet_nil ?_
            intro w4 h4
            have hb4 := HY.out.trans (h4.mono HY.out.size)
            clear cc3 h4 HY
            go_wp2
            exact ⟨⟨j + 1, by omega, by go_num, hb4⟩, by simp [intOf]; omega⟩
        · obtain rfl : j = m := by omega
          have HW := Lib.hid hb
          have hjn : ¬ (j : Int) < (j : Int) := by omega
          clear hb hlt
          go_wp2_with fail
          go_ret
          exact ⟨rfl, HW.out⟩
end Go.Proofs.Ytoemceehmiaigaa.Seal
