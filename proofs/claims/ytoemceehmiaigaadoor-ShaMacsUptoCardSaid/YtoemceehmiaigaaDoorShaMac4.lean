/- HMAC-SHA256: the program's Sum, NewMac, Hmac. -/
import Derived.Test.YtoemceehmiaigaaDoorShaMac3
namespace Go.Proofs.YtoemceehmiaigaaDoor.Sha
open Go.RowKit Go.Proofs.YtoemceehmiaigaaDoor.Mem Go.Proofs.YtoemceehmiaigaaDoor.Loan
set_option linter.unusedVariables false

set_option maxHeartbeats 1600000 in
set_option maxRecDepth 40000 in
theorem msum_any (key b : List UInt8) (hk : key.length = 64) (w : World) (hG : GB w) (hlen : b.length < 288230376151711000) :
    Calls Tryd.prog 32 #[.agg (mcell key b).toArray] w fun e w' => e = .returned (.agg ((sumf (padK key 0x5C ++ sumf (begunB key b))).map bv).toArray) ∧ Below w.heap.size w w' := by
  generalize hH : w.heap.size = H
  have HG := Lib.hid hG
  have hH0 : 0 < H := hH ▸ hG.2
  have hl1 : (begunB key b).length < 288230376151711744 := by
    unfold begunB
    split
    · rw [padK_length, hk]; omega
    · omega
  obtain ⟨b1, hb1⟩ : ∃ x, x = begunB key b := ⟨_, rfl⟩
  rw [← hb1] at hl1
  obtain ⟨s1, hs1⟩ : ∃ x, x = sumf b1 := ⟨_, rfl⟩
  have hs1l : s1.length = 32 := by rw [hs1, sumf_length]
  obtain ⟨p, hp⟩ : ∃ x, x = padK key 0x5C := ⟨_, rfl⟩
  have hpl : p.length = 64 := by rw [hp, padK_length, hk]
  obtain ⟨m0, hm0⟩ : ∃ x, x = mcell key b := ⟨_, rfl⟩
  obtain ⟨m1, hm1⟩ : ∃ x, x = mcell key b1 := ⟨_, rfl⟩
  obtain ⟨h0, hh0⟩ : ∃ x, x = hashCells [] := ⟨_, rfl⟩
  obtain ⟨h1, hh1⟩ : ∃ x, x = hashCells b1 := ⟨_, rfl⟩
  obtain ⟨h2, hh2⟩ : ∃ x, x = hashCells p := ⟨_, rfl⟩
  obtain ⟨h3, hh3⟩ : ∃ x, x = hashCells (p ++ s1) := ⟨_, rfl⟩
  obtain ⟨d1, hd1⟩ : ∃ x, x = s1.map bv := ⟨_, rfl⟩
  obtain ⟨d2, hd2⟩ : ∃ x, x = (sumf (p ++ s1)).map bv := ⟨_, rfl⟩
  have l0 : m0.length = (mcell (List.replicate 64 0) []).length := by rw [hm0, mcell_length _ _ hk, mcell_length _ _ (by simp)]
  have k1 : d1.length = (List.replicate 32 (bv 0)).length := by rw [hd1, List.length_map, hs1l]; simp
  have k2 : d2.length = (List.replicate 32 (bv 0)).length := by rw [hd2, List.length_map, sumf_length]; simp
  have o1 : ∀ v ∈ d1, v.oneCell' = true := by rw [hd1]; exact bytes_oneCell _
  have o2 : ∀ v ∈ d2, v.oneCell' = true := by rw [hd2]; exact bytes_oneCell _
  have hfield := m_field key b1 hk
  rw [← hm1, ← hh1] at hfield
  rw [← hb1, ← hs1, ← hp, ← hd2, ← hm0]
  have cB := Lib.hid (show ∀ W, GB W → Calls Tryd.prog 57 #[.agg m0.toArray] W fun e w' => e = .returned (.agg m1.toArray) ∧ Below W.heap.size W w' from fun W hW => by
    rw [hm0, hm1, hb1]; exact begun_any key b hk W hW (by omega))
  have cS := Lib.hid (show ∀ W, GB W → Calls Tryd.prog 27 #[.agg h1.toArray] W fun e w' => e = .returned (.agg d1.toArray) ∧ Below W.heap.size W w' from fun W hW => by
    rw [hh1, hd1, hs1]; exact sum_any b1 W hW hl1)
  have cN := Lib.hid (show ∀ W, Calls Tryd.prog 25 #[] W fun e w' => e = .returned (.agg h0.toArray) ∧ Below W.heap.size W w' from fun W => by rw [hh0]; exact new_any W)
  have cP := Lib.hid (show ∀ W, Calls Tryd.prog 58 #[.agg m0.toArray, .int .u8 92] W fun e w' => ∃ g, e = .returned (.slice (some ⟨g, 0, none⟩) 64 64) ∧ W.heap.size ≤ g ∧ Blk w' g 41 (p.map bv) ∧ Below W.heap.size W w' from fun W => by
    rw [hm0, hp]; exact pad_any key b 0x5C hk W)
  have cW1 := Lib.hid (show ∀ W g, GB W → Blk W g 41 (p.map bv) → Calls Tryd.prog 26 #[.agg h0.toArray, .slice (some ⟨g, 0, none⟩) 64 64] W fun e w' => e = .returned (.agg h2.toArray) ∧ Below W.heap.size W w' from fun W g hW hB => by
    rw [hh0, hh2]; exact write_n [] p p _ 64 64 W hpl.symm (rb_blk hB) (Nat.le_refl _) hW (by simp) (List.nil_append _))
  have cW2 := Lib.hid (show ∀ W g, GB W → Blk W g 30 d1 → Calls Tryd.prog 26 #[.agg h2.toArray, .slice (some ⟨g, 0, none⟩) 32 32] W fun e w' => e = .returned (.agg h3.toArray) ∧ Below W.heap.size W w' from fun W g hW hB => by
    rw [hh2, hh3]; rw [hd1] at hB; exact write_n p s1 (p ++ s1) _ 32 32 W hs1l.symm (rb_blk hB) (Nat.le_refl _) hW (by rw [hpl]; omega) rfl)
  have cS2 := Lib.hid (show ∀ W, GB W → Calls Tryd.prog 27 #[.agg h3.toArray] W fun e w' => e = .returned (.agg d2.toArray) ∧ Below W.heap.size W w' from fun W hW => by
    rw [hh3, hd2]; exact sum_any (p ++ s1) W hW (by rw [List.length_append, hpl, hs1l]; omega))
  clear hG hb1 hs1 hp hm0 hm1 hh0 hh1 hh2 hh3 hd1 hd2 hl1 hlen hs1l hpl
  go_enter Tryd.func32, Tryd.ntmps32
  go_upto_region 2 with (first
    | (go_at_call 57; go_must (refine (cB.out _ ((HG.out.below hbw1 hH0).below hbw2 (by omega))).mono ?_); rintro e w3 ⟨rfl, hb3⟩)
    | (go_at_call 27; go_must (refine (cS.out _ (((HG.out.below hbw1 hH0).below hbw2 (by omega)).grow hb3)).mono ?_); rintro e w4 ⟨rfl, hb4⟩)
    | ((with_reducible show wpList _ _ _ (⟨some 1, _, _, _, _, _⟩ :: _) _ _); go_must (refine wpList_boxB (op := ⟨some 1, _, _, _, _, _⟩) rfl _ rfl m0 rfl H hH ?_); intro w1 hBw1 hbw1 hzw1)
    | ((with_reducible show wpList _ _ _ (⟨some 2, _, _, _, _, _⟩ :: _) _ _); go_must (refine wpList_allocB (op := ⟨some 2, _, _, _, _, _⟩) A30 rfl rfl (H + 1) hzw1 ?_); intro w2 hBw2 hbw2 hzw2)
    | ((with_reducible show wpList _ _ _ (⟨some 4, _, _, _, _, _⟩ :: _) _ _); go_must (refine wpList_loadB (op := ⟨some 4, _, _, _, _, _⟩) A57 rfl _ rfl H 0 rfl _ _ (hBw1.below hbw2 (by omega)) m0 (full l0) l0 ?_))
    | ((with_reducible show wpList _ _ _ (⟨some 3, _, _, _, _, _⟩ :: _) _ _); go_must (refine wpList_allocB (op := ⟨some 3, _, _, _, _, _⟩) A30 rfl rfl w4.heap.size rfl ?_); intro w5 hBw5 hbw5 hzw5)
    | ((with_reducible show wpList _ _ _ (⟨none, .store 30 (.tmp 3) _, _, _, _, _⟩ :: _) _ _); go_must (refine wpList_storeB (op := ⟨none, _, _, _, _, _⟩) A30 rfl _ _ rfl w4.heap.size 0 rfl d1 rfl k1 _ _ hBw5 (Nat.le_of_eq ((Nat.zero_add _).trans k1)) o1 ?_); intro w6 hBw6 hgw6 hzw6; rw [splice_all _ _ k1] at hBw6))
  have z3 := hb3.size
  have z4 := hb4.size
  have hgrow : Below w2.heap.size w2 w6 := gst (gt hb3 hb4) hbw5 hgw6 (by omega)
  have hB0 : Blk w6 H 57 m0 := (hBw1.below hbw2 (by omega)).grow hgrow
  have hB1 : Blk w6 (H + 1) 30 (List.replicate 32 (bv 0)) := hBw2.grow hgrow
  have hlo : Below H w w6 := (hbw1.trans (hbw2.mono (by omega))).trans (hgrow.mono (by omega))
  have hGB : GB w6 := HG.out.below hlo hH0
  obtain ⟨g3, hg3⟩ : ∃ g, g = w4.heap.size := ⟨_, rfl⟩
  rw [← hg3] at hBw6 ⊢
  have hg3H : H + 1 < g3 := by omega
  clear hBw1 hbw1 hzw1 hBw2 hbw2 hzw2 hb3 hb4 hBw5 hbw5 hzw5 hgw6 hzw6 z3 z4 hgrow hg3
  refine wp_region_rrT (fun a b => Below a.heap.size a b) (fun _ _ _ h g => gt h g) (fun _ _ h => h.size) (fun a => (gr a).drew) 7
    [.eq 8 (.agg h0.toArray), .eq 9 (.agg m0.toArray), .new 10 (fun v W => ∃ g, v = .slice (some ⟨g, 0, none⟩) 64 64 ∧ H + 1 < g ∧ Blk W g 41 (p.map bv)), .eq 11 (.agg h2.toArray), .eq 12 (.slice (some ⟨g3, 0, none⟩) 32 32), .eq 13 (.agg h3.toArray), .eq 14 (.agg d2.toArray)]
    (by kernel_rfl) (by kernel_rfl) (by kernel_rfl) (by kernel_rfl) ?hst ?hob ?hfin
  case hst =>
    intro s hs
    simp only [List.mem_cons, List.not_mem_nil, or_false] at hs
    rcases hs with rfl | rfl | rfl | rfl | rfl | rfl | rfl
    · exact fun _ _ _ h _ => h
    · exact fun _ _ _ h _ => h
    · rintro vs w1 w2 ⟨v, rfl, g, rfl, hg, h⟩ hb
      exact ⟨_, rfl, g, rfl, hg, h.grow hb⟩
    · exact fun _ _ _ h _ => h
    · exact fun _ _ _ h _ => h
    · exact fun _ _ _ h _ => h
    · exact fun _ _ _ h _ => h
  case hob =>
    simp only [List.take_succ_cons, List.take_zero]
    refine rrs_cons ?_ (rrs_cons ?_ (rrs_cons ?_ (rrs_cons ?_ (rrs_cons ?_ (rrs_cons ?_ (rrs_cons ?_ rrs_nil))))))
    · refine rr_call (by decide) (by rfl) fun x w' A hg hp hA => ⟨25, #[], ?_, ?_⟩
      · go_simp
      · refine (cN.out w').mono ?_
        rintro e w'' ⟨rfl, hb⟩
        exact ⟨_, rfl, hb, by simp, by simp⟩
    · refine rr_wp (by decide) (by rfl) fun x w' A hg hp hA K' hK' => ?_
      have e1 := hA 1
      simp [rgDsts] at e1
      refine wp_loadB A57 _ rfl H 0 ?_ _ _ (hB0.grow hg) m0 (full l0) l0 ?_
      · simpa [Act.eval] using e1
      · exact hK' _ _ (gr _) (by simp) (by simp)
    · refine rr_call (by decide) (by rfl) fun x w' A hg hp hA => ⟨58, #[.agg m0.toArray, .int .u8 92], ?_, ?_⟩
      · have e9 := hA 9
        simp [rgDsts] at e9
        simp [RgPreds, Region.binds] at hp
        go_simp
      · refine (cP.out w').mono ?_
        rintro e w'' ⟨g, rfl, hg', hB, hb⟩
        have := hg.size
        have := hB.lt
        have := hB1.lt
        refine ⟨_, rfl, hb, ?_, ?_⟩
        · simp; exact ⟨by omega, hB⟩
        · simp [blockOf]; omega
    · refine rr_call (by decide) (by rfl) fun x w' A hg hp hA => ?_
      have e8 := hA 8
      have e10 := hA 10
      simp [rgDsts] at e8 e10
      simp [RgPreds, Region.binds] at hp
      obtain ⟨h8, g, h10, hg0, hBg⟩ := hp
      rw [h8] at e8
      rw [h10] at e10
      refine ⟨26, #[.agg h0.toArray, .slice (some ⟨g, 0, none⟩) 64 64], by go_simp, ?_⟩
      refine (cW1.out w' g (hGB.grow hg) hBg).mono ?_
      rintro e w'' ⟨rfl, hb⟩
      exact ⟨_, rfl, hb, by simp, by simp⟩
    · refine rr_eq gr (by decide) (by rfl) (by rfl) fun x w' A hg hp hA => ?_
      have e3 := hA 3
      simp [rgDsts] at e3
      go_simp
    · refine rr_call (by decide) (by rfl) fun x w' A hg hp hA => ?_
      have e11 := hA 11
      have e12 := hA 12
      simp [rgDsts] at e11 e12
      simp [RgPreds, Region.binds] at hp
      refine ⟨26, #[.agg h2.toArray, .slice (some ⟨g3, 0, none⟩) 32 32], by (try simp only [hp] at e11 e12); go_simp, ?_⟩
      refine (cW2.out w' g3 (hGB.grow hg) (hBw6.grow hg)).mono ?_
      rintro e w'' ⟨rfl, hb⟩
      exact ⟨_, rfl, hb, by simp, by simp⟩
    · refine rr_call (by decide) (by rfl) fun x w' A hg hp hA => ?_
      have e13 := hA 13
      simp [rgDsts] at e13
      simp [RgPreds, Region.binds] at hp
      refine ⟨27, #[.agg h3.toArray], by (try simp only [hp] at e13); go_simp, ?_⟩
      refine (cS2.out w' (hGB.grow hg)).mono ?_
      rintro e w'' ⟨rfl, hb⟩
      exact ⟨_, rfl, hb, by simp, by simp⟩
  case hfin =>
    intro x w7 hg hall hap
    simp only [RgAll, holds_eq, holds_new, and_true] at hall
    obtain ⟨e8, e9, ⟨g, e10, hg9, hB9⟩, e11, e12, e13, e14⟩ := hall
    simp only [rgDsts, List.take_succ_cons, List.take_zero, List.filterMap_cons, List.filterMap_nil, putMany, List.foldl_cons, List.foldl_nil, List.setIfInBounds_toArray, List.set_cons_succ, List.set_cons_zero, List.drop_succ_cons, List.drop_zero, e8, e9, e10, e11, e12, e13, e14]
    clear e8 e9 e10 e11 e12 e13 e14 hap
    have hB7 := hB1.grow hg
    have hb7 : Below H w w7 := hlo.trans (hg.mono (by have := hB1.lt; omega))
    go_wp2_with (first
      | ((with_reducible show wpList _ _ _ (⟨none, .store 30 (.tmp 2) _, _, _, _, _⟩ :: _) _ _); go_must (refine wpList_storeB (op := ⟨none, _, _, _, _, _⟩) A30 rfl _ _ rfl (H + 1) 0 rfl d2 rfl k2 _ _ hB7 (Nat.le_of_eq ((Nat.zero_add _).trans k2)) o2 ?_); intro w8 hBw8 hgw8 hzw8))
    rw [splice_all _ _ k2] at hBw8
    refine ret_cell A30 Tryd.results32 (H + 1) rfl _ d2 hBw8 k2 rfl ⟨rfl, ?_⟩
    exact hb7.grown hgw8 (by have := hB7.lt; omega) (fun j hj => by simp at hj; omega)

set_option maxHeartbeats 1600000 in
set_option maxRecDepth 40000 in
theorem newmac_any (k : List UInt8) (A : Option Addr) (c : Nat) (w : World) (ha : RB w A k) (hcap : k.length ≤ c) (hl : k.length ≤ 35184372088832) (hG : GB w) :
    Calls Tryd.prog 30 #[.slice A k.length c] w fun e w' => e = .returned (.agg (mcell (keyOf k) (padK (keyOf k) 0x36)).toArray) ∧ Below w.heap.size w w' := by
  generalize hH : w.heap.size = H
  have HA := Lib.hid ha
  have HG := Lib.hid hG
  have hH0 : 0 < H := hH ▸ hG.2
  have hkl := keyOf_length k
  have hsl := shortK_length k
  obtain ⟨q, hq⟩ : ∃ x, x = shortK k := ⟨_, rfl⟩
  have hkey : keyOf k = q ++ (List.replicate 64 (0 : UInt8)).drop q.length := by unfold keyOf; rw [← hq, List.drop_replicate]
  rw [← hq] at hsl
  obtain ⟨key, hkk⟩ : ∃ x, x = keyOf k := ⟨_, rfl⟩
  rw [← hkk] at hkl hkey ⊢
  obtain ⟨m0, hm0⟩ : ∃ x, x = mcell key [] := ⟨_, rfl⟩
  obtain ⟨m1, hm1⟩ : ∃ x, x = mcell key (padK key 0x36) := ⟨_, rfl⟩
  have l0 : m0.length = (mcell (List.replicate 64 0) []).length := by rw [hm0, mcell_length _ _ hkl, mcell_length _ _ (by simp)]
  have l1 : m1.length = (mcell (List.replicate 64 0) []).length := by rw [hm1, mcell_length _ _ hkl, mcell_length _ _ (by simp)]
  have o1 : ∀ v ∈ m1, v.oneCell' = true := by rw [hm1]; exact mcell_one _ _
  have hcopy : splice (mcell (List.replicate 64 0) []) 0 ((q.map bv).take 64) = m0 := by
    rw [List.take_of_length_le (by rw [List.length_map]; exact hsl), mcell_copy _ _ _ (by simp) hsl, ← hkey, hm0]
  have cB := Lib.hid (show ∀ W, GB W → Calls Tryd.prog 57 #[.agg m0.toArray] W fun e w' => e = .returned (.agg m1.toArray) ∧ Below W.heap.size W w' from fun W hW => by
    rw [hm0, hm1]; exact begun_any key [] hkl W hW (by simp))
  have HC := Lib.hid hcopy
  rw [← hm1]
  have cS := Lib.hid (show ∀ W, Below H w W → GB W → Calls Tryd.prog 19 #[.slice A k.length c] W fun e w' => e = .returned (.agg ((sumf k).map bv).toArray) ∧ Below W.heap.size W w' from fun W hb hW => psum_any k A c W (HA.out.below (hH ▸ hb)) hcap hl hW)
  have hmz : (mcell (List.replicate 64 0) []).length = 137 := mcell_length _ _ (by simp)
  obtain ⟨mz, hmzz⟩ : ∃ x, x = mcell (List.replicate 64 0) [] := ⟨_, rfl⟩
  have AM : Arr Tryd.prog 57 mz := hmzz ▸ A57
  rw [← hmzz] at hmz l0 l1
  have HMZ := Lib.hid hmzz
  have HQ := Lib.hid hq
  obtain ⟨n, hn⟩ : ∃ n, n = k.length := ⟨_, rfl⟩
  have HN := Lib.hid hn
  rw [← hn] at cS hl ⊢
  clear ha hG hq hkey hkk hm0 hm1 hcopy hmzz hn hcap
  go_enter Tryd.func30, Tryd.ntmps30
  by_cases hbig : 64 < n
  · have hbig' : (64 : Int) < (n : Int) := by omega
    have hqs : q = sumf k := by rw [HQ.out]; unfold shortK; rw [if_pos (by have := HN.out; omega)]
    have hq32 : q.length = 32 := by rw [hqs, sumf_length]
    rw [← hqs] at cS
    obtain ⟨d, hd⟩ : ∃ d, d = q.map bv := ⟨_, rfl⟩
    have k1 : d.length = (List.replicate 32 (bv 0)).length := by rw [hd, List.length_map, hq32]; simp
    have p1 : ∀ v ∈ d, v.oneCell' = true := by rw [hd]; exact bytes_oneCell _
    rw [← hd] at cS HC
    clear hbig hqs hd
    go_upto_region 4 with (first
      | (go_at_call 19; go_must (refine (cS.out _ (hbw1.trans (hbw2.mono (by omega))) ((HG.out.below hbw1 hH0).below hbw2 (by omega))).mono ?_); rintro e w3 ⟨rfl, hb3⟩)
      | ((with_reducible show wpList _ _ _ (⟨some 2, _, _, _, _, _⟩ :: _) _ _); go_must (refine wpList_allocB (op := ⟨some 2, _, _, _, _, _⟩) AM rfl rfl H hH ?_); intro w1 hBw1 hbw1 hzw1)
      | ((with_reducible show wpList _ _ _ (⟨some 3, _, _, _, _, _⟩ :: _) _ _); go_must (refine wpList_allocB (op := ⟨some 3, _, _, _, _, _⟩) AM rfl rfl (H + 1) hzw1 ?_); intro w2 hBw2 hbw2 hzw2)
      | ((with_reducible show wpList _ _ _ (⟨some 4, _, _, _, _, _⟩ :: _) _ _); go_must (refine wpList_allocB (op := ⟨some 4, _, _, _, _, _⟩) A30 rfl rfl w3.heap.size rfl ?_); intro w4 hBw4 hbw4 hzw4)
      | ((with_reducible show wpList _ _ _ (⟨none, .store 30 (.tmp 4) _, _, _, _, _⟩ :: _) _ _); go_must (refine wpList_storeB (op := ⟨none, _, _, _, _, _⟩) A30 rfl _ _ rfl w3.heap.size 0 rfl d rfl k1 _ _ hBw4 (Nat.le_of_eq ((Nat.zero_add _).trans k1)) p1 ?_); intro w5 hBw5 hgw5 hzw5; rw [splice_all _ _ k1] at hBw5))
    have z3 := hb3.size
    have hgrow : Below w2.heap.size w2 w5 := gst hb3 hbw4 hgw5 z3
    have hB1 : Blk w5 H 57 mz := (hBw1.below hbw2 (by omega)).grow hgrow
    have hB2 : Blk w5 (H + 1) 57 mz := hBw2.grow hgrow
    have hlo : Below H w w5 := (hbw1.trans (hbw2.mono (by omega))).trans (hgrow.mono (by omega))
    obtain ⟨g4, hg4⟩ : ∃ g, g = w3.heap.size := ⟨_, rfl⟩
    rw [← hg4] at hBw5 ⊢
    clear hBw1 hbw1 hzw1 hBw2 hbw2 hzw2 hb3 hBw4 hbw4 hzw4 hgw5 hzw5 z3 hgrow hg4
    refine wp_region_qbT 3 (by kernel_rfl) (by kernel_rfl) ?_
    simp only [List.take_succ_cons, List.take_zero, List.drop_succ_cons, List.drop_zero]
    refine wq_val (o := ⟨some 10, _, _, _, _, _⟩) (v := .pointer (some ⟨H + 1, 0, none⟩)) rfl (fun w' _ => by go_simp) ?_
    simp only [Act.put, List.setIfInBounds_toArray, List.set_cons_succ, List.set_cons_zero]
    refine wq_val (o := ⟨some 11, _, _, _, _, _⟩) (v := .slice (some ⟨H + 1, 0, none⟩) 64 64) rfl (fun w' _ => by go_simp) ?_
    simp only [Act.put, List.setIfInBounds_toArray, List.set_cons_succ, List.set_cons_zero]
    refine wq_val (o := ⟨some 12, _, _, _, _, _⟩) (v := .slice (some ⟨g4, 0, none⟩) 32 32) rfl (fun w' _ => by go_simp) ?_
    simp only [Act.put, List.setIfInBounds_toArray, List.set_cons_succ, List.set_cons_zero]
    refine wpQuiet_nil ?_
    intro w6 h6
    go_wp2_with (first
      | ((with_reducible show wpList _ _ _ (⟨some 13, _, _, _, _, _⟩ :: _) _ _); go_must (refine wpList_copy1 E8 rfl (.tmp 11) (.tmp 12) rfl (H + 1) 0 64 64 (some ⟨g4, 0, none⟩) 32 32 rfl rfl _ _ (hB2.grow h6) d (by rw [k1]; simp) ((hBw5.grow h6).rv) (by rw [hmz]; omega) p1 ?_); intro w7 hB7 hb7 hz7 hg7; rw [HMZ.out, HC.out] at hB7)
      | (go_at_call 57; go_must (refine (cB.out _ (HG.out.below hlo7 hH0)).mono ?_); rintro e w8 ⟨rfl, hb8⟩)
      | ((with_reducible show wpList _ _ _ (⟨some 18, _, _, _, _, _⟩ :: _) _ _); have hlo7 : Below H w w7 := (hlo.trans (h6.mono (by have := hB1.lt; omega))).trans (hb7.mono (by omega)); go_must (refine wpList_loadB (op := ⟨some 18, _, _, _, _, _⟩) AM rfl _ rfl (H + 1) 0 rfl _ _ hB7 m0 (full l0) l0 ?_))
      | ((with_reducible show wpList _ _ _ (⟨none, .store 57 (.tmp 2) _, _, _, _, _⟩ :: _) _ _); go_must (refine wpList_storeB (op := ⟨none, _, _, _, _, _⟩) AM rfl _ _ rfl H 0 rfl m1 rfl l1 _ _ (((hB1.grow h6).below hb7 (by omega)).grow hb8) (Nat.le_of_eq ((Nat.zero_add _).trans l1)) o1 ?_); intro w9 hBw9 hgw9 hzw9))
    rw [splice_all _ _ l1] at hBw9
    refine ret_cell AM Tryd.results30 H rfl _ m1 hBw9 l1 rfl ⟨rfl, ?_⟩
    have := hlo7.size
    exact (hlo7.trans (hb8.mono (by omega))).grown hgw9 (by have := hb8.size; omega) (fun j hj => by simp at hj; omega)
  · have hbig' : ¬ (64 : Int) < (n : Int) := by omega
    have hqs : q = k := by rw [HQ.out]; unfold shortK; rw [if_neg (by have := HN.out; omega)]
    have hRK := Lib.hid (show ∀ W, Below H w W → RV W A (q.map bv) from fun W hW => by rw [hqs]; exact (HA.out.below (hH ▸ hW)).rv)
    have hqn : (q.map bv).length = n := by rw [hqs, List.length_map]; exact HN.out.symm
    clear hbig hqs
    go_wp2_with (first
      | ((with_reducible show wpList _ _ _ (⟨some 2, _, _, _, _, _⟩ :: _) _ _); go_must (refine wpList_allocB (op := ⟨some 2, _, _, _, _, _⟩) AM rfl rfl H hH ?_); intro w1 hBw1 hbw1 hzw1)
      | ((with_reducible show wpList _ _ _ (⟨some 3, _, _, _, _, _⟩ :: _) _ _); go_must (refine wpList_allocB (op := ⟨some 3, _, _, _, _, _⟩) AM rfl rfl (H + 1) hzw1 ?_); intro w2 hBw2 hbw2 hzw2)
      | ((with_reducible show wpList _ _ _ (⟨some 17, _, _, _, _, _⟩ :: _) _ _); go_must (refine wpList_copy1 E8 rfl (.tmp 15) (.tmp 16) rfl (H + 1) 0 64 64 A n c rfl rfl _ _ hBw2 (q.map bv) hqn (hRK.out _ (hbw1.trans (hbw2.mono (by omega)))) (by rw [hmz]; omega) (bytes_oneCell q) ?_); intro w7 hB7 hb7 hz7 hg7; rw [HMZ.out, HC.out] at hB7)
      | (go_at_call 57; go_must (refine (cB.out _ (HG.out.below hlo7 hH0)).mono ?_); rintro e w8 ⟨rfl, hb8⟩)
      | ((with_reducible show wpList _ _ _ (⟨some 18, _, _, _, _, _⟩ :: _) _ _); have hlo7 : Below H w w7 := (hbw1.trans (hbw2.mono (by omega))).trans (hb7.mono (by omega)); go_must (refine wpList_loadB (op := ⟨some 18, _, _, _, _, _⟩) AM rfl _ rfl (H + 1) 0 rfl _ _ hB7 m0 (full l0) l0 ?_))
      | ((with_reducible show wpList _ _ _ (⟨none, .store 57 (.tmp 2) _, _, _, _, _⟩ :: _) _ _); go_must (refine wpList_storeB (op := ⟨none, _, _, _, _, _⟩) AM rfl _ _ rfl H 0 rfl m1 rfl l1 _ _ (((hBw1.below hbw2 (by omega)).below hb7 (by omega)).grow hb8) (Nat.le_of_eq ((Nat.zero_add _).trans l1)) o1 ?_); intro w9 hBw9 hgw9 hzw9))
    rw [splice_all _ _ l1] at hBw9
    refine ret_cell AM Tryd.results30 H rfl _ m1 hBw9 l1 rfl ⟨rfl, ?_⟩
    have := hlo7.size
    exact (hlo7.trans (hb8.mono (by omega))).grown hgw9 (by have := hb8.size; omega) (fun j hj => by simp at hj; omega)
end Go.Proofs.YtoemceehmiaigaaDoor.Sha
