/- HMAC-SHA256: the program's begun, Write, Sum, NewMac, Hmac. -/
import Derived.Test.YtoemceehmiaigaaDoorShaMac
namespace Go.Proofs.YtoemceehmiaigaaDoor.Sha
open Go.RowKit Go.Proofs.YtoemceehmiaigaaDoor.Mem Go.Proofs.YtoemceehmiaigaaDoor.Loan
set_option linter.unusedVariables false

theorem write_n (b q r : List UInt8) (A : Option Addr) (n c : Nat) (w : World) (hn : n = q.length) (hq : RB w A q) (hcap : n ≤ c) (hG : GB w) (hlen : b.length + n < 4611686018427387904) (hr : b ++ q = r) :
    Calls Tryd.prog 26 #[.agg (hashCells b).toArray, .slice A n c] w fun e w' => e = .returned (.agg (hashCells r).toArray) ∧ Below w.heap.size w w' := by
  subst hn hr; exact write_any b q A c w hq hcap hG hlen
theorem rb_blk {w : World} {g : Nat} {T : TypeId} {l : List UInt8} (h : Blk w g T (l.map bv)) : RB w (some ⟨g, 0, none⟩) l := by
  have := h.rb 0 l.length
  simpa using this

set_option maxHeartbeats 1600000 in
set_option maxRecDepth 40000 in
theorem begun_any (key b : List UInt8) (hk : key.length = 64) (w : World) (hG : GB w) (hlen : b.length < 4611686018427387904) :
    Calls Tryd.prog 57 #[.agg (mcell key b).toArray] w fun e w' => e = .returned (.agg (mcell key (begunB key b)).toArray) ∧ Below w.heap.size w w' := by
  generalize hH : w.heap.size = H
  have HG := Lib.hid hG
  have hH0 : 0 < H := hH ▸ hG.2
  have hml := mcell_length key b hk
  have hmn := mcell_n key b hk
  obtain ⟨mc, hmc⟩ : ∃ x, x = mcell key b := ⟨_, rfl⟩
  obtain ⟨md, hmd⟩ : ∃ x, x = mcell key (begunB key b) := ⟨_, rfl⟩
  have hcl : mc.length = (mcell (List.replicate 64 0) []).length := by rw [hmc, mcell_length _ _ hk, mcell_length _ _ (by simp)]
  have hdl : md.length = (mcell (List.replicate 64 0) []).length := by rw [hmd, mcell_length _ _ hk, mcell_length _ _ (by simp)]
  have hd1 : ∀ v ∈ md, v.oneCell' = true := by rw [hmd]; exact mcell_one _ _
  rw [← hmc] at hml hmn
  rw [← hmc, ← hmd]
  have HM := Lib.hid (And.intro hmc hmd)
  obtain ⟨n, hn⟩ : ∃ n, n = b.length := ⟨_, rfl⟩
  rw [← hn] at hmn hlen
  have HN := Lib.hid hn
  clear hG hmc hmd hn
  go_enter Tryd.func57, Tryd.ntmps57
  by_cases hn0 : n = 0
  · have hn0' : (n : Int) = 0 := by omega
    have hb0 : b = [] := List.eq_nil_of_length_eq_zero (by rw [← HN.out]; exact hn0)
    have hmd : md = mcell key (padK key 0x36) := by rw [HM.out.2]; unfold begunB; rw [if_pos hb0]
    have HMD := Lib.hid hmd
    clear hmd hb0 hn0
    obtain ⟨h0, hh0⟩ : ∃ h, h = hashCells [] := ⟨_, rfl⟩
    obtain ⟨h1, hh1⟩ : ∃ h, h = hashCells (padK key 0x36) := ⟨_, rfl⟩
    have hh1l : h1.length = (hashCells []).length := by rw [hh1, hashCells_length, hashCells_length]
    have hh11 : ∀ v ∈ h1, v.oneCell' = true := by rw [hh1]; exact hash_one _
    have HH := Lib.hid (And.intro hh0 hh1)
    clear hh0 hh1
    go_upto_region 2 with (first
      | ((with_reducible show wpList _ _ _ (⟨some 1, _, _, _, _, _⟩ :: _) _ _); go_must (refine wpList_boxB (op := ⟨some 1, _, _, _, _, _⟩) rfl _ rfl mc rfl H hH ?_); intro w1 hB1 hb1 hz1)
      | ((with_reducible show wpList _ _ _ (⟨some 2, _, _, _, _, _⟩ :: _) _ _); go_must (refine wpList_allocB (op := ⟨some 2, _, _, _, _, _⟩) A57 rfl rfl (H + 1) hz1 ?_); intro w2 hB2 hb2 hz2; have c136 : w2.cell? ⟨H, 136, none⟩ = some (.int .i64 (n : Int)) := ((hB1.below hb2 (by omega)).cell 136).trans hmn))
    have hB1' : Blk w2 H 57 mc := hB1.below hb2 (by omega)
    have hbw : Below H w w2 := hb1.trans (hb2.mono (by omega))
    have hGB : GB w2 := HG.out.below hbw hH0
    clear hB1 hb1 hz1 hb2 c136
    refine wp_region_rrT (fun a b => Below a.heap.size a b) (fun _ _ _ h g => gt h g) (fun _ _ h => h.size) (fun a => (gr a).drew) 5
      [.eq 7 (.agg h0.toArray), .eq 8 (.agg mc.toArray), .new 9 (fun v W => ∃ g, v = .slice (some ⟨g, 0, none⟩) 64 64 ∧ H + 1 < g ∧ Blk W g 41 ((padK key 0x36).map bv)), .eq 10 (.agg h1.toArray), .eq 11 (.pointer (some ⟨H, 64, none⟩))]
      (by kernel_rfl) (by kernel_rfl) (by kernel_rfl) (by kernel_rfl) ?hst ?hob ?hfin
    case hst =>
      intro s hs
      simp only [List.mem_cons, List.not_mem_nil, or_false] at hs
      rcases hs with rfl | rfl | rfl | rfl | rfl
      · exact fun _ _ _ h _ => h
      · exact fun _ _ _ h _ => h
      · rintro vs w1 w2 ⟨v, rfl, g, rfl, hg, h⟩ hb
        exact ⟨_, rfl, g, rfl, hg, h.grow hb⟩
      · exact fun _ _ _ h _ => h
      · exact fun _ _ _ h _ => h
    case hob =>
      simp only [List.take_succ_cons, List.take_zero]
      refine rrs_cons ?_ (rrs_cons ?_ (rrs_cons ?_ (rrs_cons ?_ (rrs_cons ?_ rrs_nil))))
      · refine rr_call (by decide) (by rfl) fun x w' A hg hp hA => ⟨25, #[], ?_, ?_⟩
        · go_simp
        · refine (new_any w').mono ?_
          rintro e w'' ⟨rfl, hb⟩
          exact ⟨_, rfl, hb, by simp [HH.out.1], by simp⟩
      · refine rr_wp (by decide) (by rfl) fun x w' A hg hp hA K' hK' => ?_
        have e1 := hA 1
        simp [rgDsts] at e1
        refine wp_loadB A57 _ rfl H 0 ?_ _ _ (hB1'.grow hg) mc ((congrArg (List.take _) List.drop_zero).trans (List.take_of_length_le (Nat.le_of_eq hcl))) hcl ?_
        · simpa [Act.eval] using e1
        · exact hK' _ _ (gr _) (by simp) (by simp)
      · refine rr_call (by decide) (by rfl) fun x w' A hg hp hA => ⟨58, #[.agg mc.toArray, .int .u8 54], ?_, ?_⟩
        · have e8 := hA 8
          simp [rgDsts] at e8
          simp [RgPreds, Region.binds] at hp
          go_simp
        · rw [HM.out.1]
          refine (pad_any key b 0x36 hk w').mono ?_
          rintro e w'' ⟨g, rfl, hg', hB, hb⟩
          have := hg.size
          have := hB.lt
          refine ⟨_, rfl, hb, ?_, ?_⟩
          · simp; exact ⟨by omega, hB⟩
          · simp [blockOf]; omega
      · refine rr_call (by decide) (by rfl) fun x w' A hg hp hA => ?_
        have e7 := hA 7
        have e9 := hA 9
        simp [rgDsts] at e7 e9
        simp [RgPreds, Region.binds] at hp
        obtain ⟨h7, g, h9, hg0, hBg⟩ := hp
        rw [h7] at e7
        rw [h9] at e9
        refine ⟨26, #[.agg h0.toArray, .slice (some ⟨g, 0, none⟩) 64 64], by go_simp, ?_⟩
        rw [HH.out.1]
        refine (write_n [] (padK key 0x36) _ (some ⟨g, 0, none⟩) 64 64 w' (by rw [padK_length, hk]) (rb_blk hBg) (Nat.le_refl _) (hGB.grow hg) (by simp) (List.nil_append _)).mono ?_
        rintro e w'' ⟨rfl, hb⟩
        exact ⟨_, rfl, hb, by simp [HH.out.2], by simp⟩
      · refine rr_eq gr (by decide) (by rfl) (by rfl) fun x w' A hg hp hA => ?_
        have e1 := hA 1
        simp [rgDsts] at e1
        go_simp
    case hfin =>
      intro x w5 hg hall hap
      simp only [RgAll, holds_eq, holds_new, and_true] at hall
      obtain ⟨e7, e8, ⟨g, e9, hg9, hB9⟩, e10, e11⟩ := hall
      simp only [rgDsts, List.take_succ_cons, List.take_zero, List.filterMap_cons, List.filterMap_nil, putMany, List.foldl_cons, List.foldl_nil, List.setIfInBounds_toArray, List.set_cons_succ, List.set_cons_zero, List.drop_succ_cons, List.drop_zero, e7, e8, e9, e10, e11]
      clear e7 e8 e9 e10 e11 hap
      have hB5 := hB1'.grow hg
      have hB25 := hB2.grow hg
      have hb5 : Below H w w5 := hbw.trans (hg.mono (by omega))
      clear hB1' hB2 hbw hg
      go_wp2_with (first
        | ((with_reducible show wpList _ _ _ (⟨none, .store 43 _ _, _, _, _, _⟩ :: _) _ _); go_must (refine wpList_storeB (op := ⟨none, _, _, _, _, _⟩) A43 rfl _ _ rfl H 64 rfl h1 rfl hh1l _ _ hB5 (by rw [hh1l, hashCells_length, hml]; omega) hh11 ?_); intro w6 hB6 hg6 hz6; rw [HM.out.1, HH.out.2, mcell_put _ _ _ hk, ← HMD.out] at hB6)
        | ((with_reducible show wpList _ _ _ (⟨some 12, _, _, _, _, _⟩ :: _) _ _); go_must (refine wpList_loadB (op := ⟨some 12, _, _, _, _, _⟩) A57 rfl _ rfl H 0 rfl _ _ hB6 md ((congrArg (List.take _) List.drop_zero).trans (List.take_of_length_le (Nat.le_of_eq hdl))) hdl ?_))
        | ((with_reducible show wpList _ _ _ (⟨none, .store 57 _ _, _, _, _, _⟩ :: _) _ _); go_must (refine wpList_storeB (op := ⟨none, _, _, _, _, _⟩) A57 rfl _ _ rfl (H + 1) 0 rfl md rfl hdl _ _ (hB25.grown hg6 (by simp)) (Nat.le_of_eq ((Nat.zero_add _).trans hdl)) hd1 ?_); intro w7 hB7 hg7 hz7))
      rw [splice_all _ _ hdl] at hB7
      refine ret_cell A57 Tryd.results57 (H + 1) rfl _ md hB7 hdl rfl ⟨rfl, ?_⟩
      have z1 := hB5.lt
      exact (hb5.grown hg6 (by omega) (fun j hj => by simp at hj; omega)).grown hg7 (by omega) (fun j hj => by simp at hj; omega)
  · have hn0' : (n : Int) ≠ 0 := by omega
    have hb0 : b ≠ [] := by
      intro h
      have := HN.out
      rw [h] at this
      exact hn0 this
    have hmd : md = mc := by rw [HM.out.2, HM.out.1]; unfold begunB; rw [if_neg hb0]
    have HMD := Lib.hid hmd
    clear hmd hb0 hn0
    go_wp2_with (first
      | ((with_reducible show wpList _ _ _ (⟨some 1, _, _, _, _, _⟩ :: _) _ _); go_must (refine wpList_boxB (op := ⟨some 1, _, _, _, _, _⟩) rfl _ rfl mc rfl H hH ?_); intro w1 hB1 hb1 hz1)
      | ((with_reducible show wpList _ _ _ (⟨some 2, _, _, _, _, _⟩ :: _) _ _); go_must (refine wpList_allocB (op := ⟨some 2, _, _, _, _, _⟩) A57 rfl rfl (H + 1) hz1 ?_); intro w2 hB2 hb2 hz2; have c136 : w2.cell? ⟨H, 136, none⟩ = some (.int .i64 (n : Int)) := ((hB1.below hb2 (by omega)).cell 136).trans hmn)
      | ((with_reducible show wpList _ _ _ (⟨some 12, _, _, _, _, _⟩ :: _) _ _); go_must (refine wpList_loadB (op := ⟨some 12, _, _, _, _, _⟩) A57 rfl _ rfl H 0 rfl _ _ (hB1.below hb2 (by omega)) mc ((congrArg (List.take _) List.drop_zero).trans (List.take_of_length_le (Nat.le_of_eq hcl))) hcl ?_))
      | ((with_reducible show wpList _ _ _ (⟨none, .store 57 _ _, _, _, _, _⟩ :: _) _ _); go_must (refine wpList_storeB (op := ⟨none, _, _, _, _, _⟩) A57 rfl _ _ rfl (H + 1) 0 rfl mc rfl hcl _ _ hB2 (Nat.le_of_eq ((Nat.zero_add _).trans hcl)) (by rw [← HMD.out]; exact hd1) ?_); intro w7 hB7 hg7 hz7))
    rw [splice_all _ _ hcl] at hB7
    refine ret_cell A57 Tryd.results57 (H + 1) rfl _ mc hB7 hcl rfl ⟨by rw [HMD.out], ?_⟩
    exact (hb1.trans (hb2.mono (by omega))).grown hg7 (by omega) (fun j hj => by simp at hj; omega)
end Go.Proofs.YtoemceehmiaigaaDoor.Sha
