/- weirlaw05.SealNames: the walk. -/
import Derived.Test.YtoemceehmiaigaaDoorLawOnly
namespace Go.Proofs.YtoemceehmiaigaaDoor.Seal
open Go.RowKit Go.Proofs.YtoemceehmiaigaaDoor.Mem Go.Proofs.YtoemceehmiaigaaDoor.Loan Go.Proofs.YtoemceehmiaigaaDoor.Sha Go.Proofs.YtoemceehmiaigaaDoor.Strs
set_option linter.unusedVariables false

def zeros (n : Nat) : List UInt8 := List.replicate n 0
theorem zeros_length (n : Nat) : (zeros n).length = n := by simp [zeros]
theorem zeros_cells (n : Nat) : List.replicate n (.int .u8 0) = (zeros n).map bv := by unfold zeros; rw [List.map_replicate]; rfl
theorem zeros_conv {w : World} {g n : Nat} (hB : Blk w g 5 (List.replicate n (.int .u8 0))) (c : Nat) :
    (convert 32 9 (.slice (some ⟨g, 0, none⟩) n c)).run Tryd.prog w = .ok (.string ⟨(zeros n).toArray⟩) w := by
  rw [zeros_cells] at hB
  have hr : RB w (some ⟨g, 0, none⟩) (zeros n) := by
    have := hB.rb 0 n
    rw [List.drop_zero, List.take_of_length_le (by rw [zeros_length]; exact Nat.le_refl _)] at this
    exact this
  have := conv_rb (P := Tryd.prog) (src := 32) (dst := 9) Tryd.underlying32 Tryd.underlying5 Tryd.underlying9 hr c
  rw [zeros_length] at this
  exact this

set_option maxRecDepth 4000 in
set_option maxHeartbeats 1600000 in
theorem law_names (w : World) (hG : GB w) :
    Calls Tryd.prog 10 #[] w fun e w' => e = .returned (.bool true) ∧ Below w.heap.size w w' := by
  obtain ⟨z1, hz1⟩ : ∃ x : ByteArray, x = ⟨(zeros 1024).toArray⟩ := ⟨_, rfl⟩
  obtain ⟨z2, hz2⟩ : ∃ x : ByteArray, x = ⟨(zeros 1025).toArray⟩ := ⟨_, rfl⟩
  obtain ⟨z3, hz3⟩ : ∃ x : ByteArray, x = ⟨(zeros 4096).toArray⟩ := ⟨_, rfl⟩
  obtain ⟨z4, hz4⟩ : ∃ x : ByteArray, x = ⟨(zeros 4097).toArray⟩ := ⟨_, rfl⟩
  obtain ⟨tk, htk⟩ : ∃ x, x = mintR [] 0 (zeros 1024) := ⟨_, rfl⟩
  obtain ⟨sk, hsk⟩ : ∃ x : ByteArray, x = ⟨tk.toArray⟩ := ⟨_, rfl⟩
  have hskz : sk.size = 1420 := by
    have h1 : tk.length = 1420 := by
      rw [htk]; unfold mintR; rw [if_neg (by rw [zeros_length]; omega), mintB_len, zeros_length]
    rw [hsk]; simpa [ByteArray.size] using h1
  have h1025 := mint_long (k := []) (p := zeros 1025) (z := 0) (by rw [zeros_length]; omega)
  have h3 : openV [] (zeros 4096) = (0, [], 51) := by
    unfold openV
    rw [if_neg (by rw [zeros_length]; omega), cutL_not (by unfold zeros; rw [List.mem_replicate]; exact fun h => absurd h.2 (by decide))]
  have h4 : openV [] (zeros 4097) = (0, [], 1) := by
    unfold openV
    rw [if_pos (by rw [zeros_length]; omega)]
  have c1 := Lib.hid (fun W hW => mint_m [] 0 (zeros 1024) none 0 0 w sk 0 (by rw [hsk, htk]) (mint_short (by rw [zeros_length]; omega)).symm rfl (RB.nil _ _) (Nat.le_refl _) (by omega) (by omega) (by rw [zeros_length]; omega) hG W hW)
  have c2 := Lib.hid (fun W hW => mint_m [] 0 (zeros 1025) none 0 0 w ⟨#[]⟩ 1 (by rw [h1025.1]) h1025.2.symm rfl (RB.nil _ _) (Nat.le_refl _) (by omega) (by omega) (by rw [zeros_length]; omega) hG W hW)
  have c3 := Lib.hid (fun W hW => open_m [] (zeros 4096) none 0 0 w 0 ⟨#[]⟩ 51 (by rw [h3]) (by rw [h3]) (by rw [h3]) rfl (RB.nil _ _) (Nat.le_refl _) (by omega) (by rw [zeros_length]; omega) hG W hW)
  have c4 := Lib.hid (fun W hW => open_m [] (zeros 4097) none 0 0 w 0 ⟨#[]⟩ 1 (by rw [h4]) (by rw [h4]) (by rw [h4]) rfl (RB.nil _ _) (Nat.le_refl _) (by omega) (by rw [zeros_length]; omega) hG W hW)
  rw [← hz1] at c1
  rw [← hz2] at c2
  rw [← hz3] at c3
  rw [← hz4] at c4
  have HZ := Lib.hid (And.intro hz1 (And.intro hz2 (And.intro hz3 hz4)))
  clear hz1 hz2 hz3 hz4 htk hsk h1025 h3 h4 hG
  go_enter Tryd.func10, Tryd.ntmps10
  go_upto_region 3 with (first
    | (go_at_call 35; go_must (refine (c1.out _ hb1).mono ?_); rintro e w2 ⟨rfl, hb2⟩)
    | (at_make; go_must (refine wpList_make1 E8 rfl _ _ rfl .i64 .i64 _ _ 1024 rfl rfl (by rfl) (by rfl) (by omega) (by unfold maxLen; omega) w.heap.size rfl ?_); intro w1 hB1 hb1 hz1; have hcv := zeros_conv hB1 1024; rw [← HZ.out.1] at hcv))
  have HW := Lib.hid (gt hb1 hb2)
  clear hb1 hb2 hcv hB1 hz1
  go_upto_region 4 with (first
    | (go_at_call 35; go_must (refine (c2.out _ (gt HW.out hb1)).mono ?_); rintro e w4 ⟨rfl, hb2⟩)
    | (at_make; go_must (refine wpList_make1 E8 rfl _ _ rfl .i64 .i64 _ _ 1025 rfl rfl (by rfl) (by rfl) (by omega) (by unfold maxLen; omega) w2.heap.size rfl ?_); intro w3 hB1 hb1 hz1; have hcv := zeros_conv hB1 1025; rw [← HZ.out.2.1] at hcv))
  have HW4 := Lib.hid (gt (gt HW.out hb1) hb2)
  clear HW hb1 hb2 hcv hB1 hz1
  go_upto_region 5 with (first
    | (go_at_call 36; go_must (refine (c3.out _ (gt HW4.out hb1)).mono ?_); rintro e w6 ⟨rfl, hb2⟩)
    | (at_make; go_must (refine wpList_make1 E8 rfl _ _ rfl .i64 .i64 _ _ 4096 rfl rfl (by rfl) (by rfl) (by omega) (by unfold maxLen; omega) w4.heap.size rfl ?_); intro w5 hB1 hb1 hz1; have hcv := zeros_conv hB1 4096; rw [← HZ.out.2.2.1] at hcv))
  obtain ⟨w7, hw7⟩ : ∃ x, x = w6.alloc (.cells #[.int .i64 0, .string ⟨#[]⟩] 72) := ⟨_, rfl⟩
  have hb3 : Below w6.heap.size w6 w7 := hw7 ▸ ga (gr w6) _
  rw [← hw7]
  have HW7 := Lib.hid (gt (gt (gt HW4.out hb1) hb2) hb3)
  clear HW4 hb1 hb2 hb3 hcv hB1 hz1 hw7
  go_upto_region 6 with (first
    | (go_at_call 36; go_must (refine (c4.out _ (gt HW7.out hb1)).mono ?_); rintro e w9 ⟨rfl, hb2⟩)
    | (at_make; go_must (refine wpList_make1 E8 rfl _ _ rfl .i64 .i64 _ _ 4097 rfl rfl (by rfl) (by rfl) (by omega) (by unfold maxLen; omega) w7.heap.size rfl ?_); intro w8 hB1 hb1 hz1; have hcv := zeros_conv hB1 4097; rw [← HZ.out.2.2.2] at hcv))
  have hb3 : Below w9.heap.size w9 (w9.alloc (.cells #[.int .i64 0, .string ⟨#[]⟩] 72)) := ga (gr w9) _
  have HW9 := Lib.hid (gt (gt (gt HW7.out hb1) hb2) hb3)
  clear HW7 hb1 hb2 hb3 hcv hB1 hz1
  go_wp2_with fail
  go_ret
  exact ⟨rfl, HW9.out⟩
end Go.Proofs.YtoemceehmiaigaaDoor.Seal
