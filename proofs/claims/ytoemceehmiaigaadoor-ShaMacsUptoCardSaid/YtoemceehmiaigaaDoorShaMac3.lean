/- HMAC-SHA256: the program's Write, Sum, NewMac, Hmac. -/
import Derived.Test.YtoemceehmiaigaaDoorShaMac2
namespace Go.Proofs.YtoemceehmiaigaaDoor.Sha
open Go.RowKit Go.Proofs.YtoemceehmiaigaaDoor.Mem Go.Proofs.YtoemceehmiaigaaDoor.Loan
set_option linter.unusedVariables false

theorem begunB_ne (key b : List UInt8) (h : b ≠ []) : begunB key b = b := by unfold begunB; rw [if_neg h]
theorem padK_ne (key : List UInt8) (by_ : UInt8) (hk : key.length = 64) : padK key by_ ≠ [] := by
  intro h
  have := congrArg List.length h
  rw [padK_length, hk] at this
  cases this
theorem full {α : Type} {xs zs : List α} (h : xs.length = zs.length) : (xs.drop 0).take zs.length = xs := by rw [List.drop_zero]; exact List.take_of_length_le (Nat.le_of_eq h)
theorem m_field (key b : List UInt8) (hk : key.length = 64) (W : World) : (Instr.field 57 (.agg (mcell key b).toArray) 1).run Tryd.prog W = .ok (.agg (hashCells b).toArray) W := by
  have hp : ∀ W, (part 43 (mcell key b).toArray 64).run Tryd.prog W = .ok (.agg ((mcell key b).toArray.extract 64 (64 + 73))) W := fun W => by
    simp [part, isAgg, run_underlying Tryd.underlying43, size_run (by kernel_rfl : (Tryd.prog.info? 43).map (·.size) = some 73)]
  simp [Instr.field, run_underlying Tryd.underlying57, asAgg, hp]
  exact mcell_hash key b hk

set_option maxHeartbeats 1600000 in
set_option maxRecDepth 40000 in
theorem mwrite_any (key b q : List UInt8) (hk : key.length = 64) (A : Option Addr) (n c : Nat) (w : World) (hn : n = q.length) (hq : RB w A q) (hcap : n ≤ c) (hG : GB w) (hlen : b.length + n < 2305843009213693952) :
    Calls Tryd.prog 31 #[.agg (mcell key b).toArray, .slice A n c] w fun e w' => e = .returned (.agg (mcell key (begunB key b ++ q)).toArray) ∧ Below w.heap.size w w' := by
  generalize hH : w.heap.size = H
  have HQ := Lib.hid hq
  have HG := Lib.hid hG
  have hH0 : 0 < H := hH ▸ hG.2
  have hl1 : (begunB key b).length + n < 4611686018427387904 := by
    unfold begunB
    split
    · rw [padK_length, hk]; omega
    · omega
  obtain ⟨b1, hb1⟩ : ∃ x, x = begunB key b := ⟨_, rfl⟩
  obtain ⟨m0, hm0⟩ : ∃ x, x = mcell key b := ⟨_, rfl⟩
  obtain ⟨m1, hm1⟩ : ∃ x, x = mcell key b1 := ⟨_, rfl⟩
  obtain ⟨m2, hm2⟩ : ∃ x, x = mcell key (b1 ++ q) := ⟨_, rfl⟩
  obtain ⟨h1, hh1⟩ : ∃ x, x = hashCells b1 := ⟨_, rfl⟩
  obtain ⟨h2, hh2⟩ : ∃ x, x = hashCells (b1 ++ q) := ⟨_, rfl⟩
  have l0 : m0.length = (mcell (List.replicate 64 0) []).length := by rw [hm0, mcell_length _ _ hk, mcell_length _ _ (by simp)]
  have l1 : m1.length = (mcell (List.replicate 64 0) []).length := by rw [hm1, mcell_length _ _ hk, mcell_length _ _ (by simp)]
  have l2 : m2.length = (mcell (List.replicate 64 0) []).length := by rw [hm2, mcell_length _ _ hk, mcell_length _ _ (by simp)]
  have o1 : ∀ v ∈ m1, v.oneCell' = true := by rw [hm1]; exact mcell_one _ _
  have o2 : ∀ v ∈ m2, v.oneCell' = true := by rw [hm2]; exact mcell_one _ _
  have k1 : h1.length = (hashCells []).length := by rw [hh1, hashCells_length, hashCells_length]
  have k2 : h2.length = (hashCells []).length := by rw [hh2, hashCells_length, hashCells_length]
  have p2 : ∀ v ∈ h2, v.oneCell' = true := by rw [hh2]; exact hash_one _
  have hv1 : (m1.drop 64).take (hashCells []).length = h1 := by rw [hm1, hashCells_length, hh1]; exact mcell_hash _ _ hk
  have hle : 64 + h2.length ≤ m1.length := by rw [k2, l1, hashCells_length, mcell_length _ _ (by simp)]; omega
  have hput : splice m1 64 h2 = m2 := by rw [hm1, hh2, hm2]; exact mcell_put _ _ _ hk
  rw [← hb1] at hl1
  rw [← hb1, ← hm0, ← hm2]
  have cB := Lib.hid (show ∀ W, GB W → Calls Tryd.prog 57 #[.agg m0.toArray] W fun e w' => e = .returned (.agg m1.toArray) ∧ Below W.heap.size W w' from fun W hW => by
    rw [hm0, hm1, hb1]; exact begun_any key b hk W hW (by omega))
  have cW := Lib.hid (show ∀ W, GB W → Below H w W → Calls Tryd.prog 26 #[.agg h1.toArray, .slice A n c] W fun e w' => e = .returned (.agg h2.toArray) ∧ Below W.heap.size W w' from fun W hW hb => by
    rw [hh1, hh2]; exact write_n b1 q (b1 ++ q) A n c W hn (HQ.out.below (hH ▸ hb)) hcap hW hl1 rfl)
  have HPUT := Lib.hid hput
  clear hq hG hb1 hm0 hm1 hm2 hh1 hh2 hput hn hcap hl1 hlen
  go_enter Tryd.func31, Tryd.ntmps31
  go_wp2_with (first
    | (go_at_call 57; go_must (refine (cB.out _ ((HG.out.below hbw1 hH0).below hbw2 (by omega))).mono ?_); rintro e w3 ⟨rfl, hb3⟩)
    | (go_at_call 26; go_must (refine (cW.out _ (HG.out.below hlo4 hH0) hlo4).mono ?_); rintro e w5 ⟨rfl, hb5⟩)
    | ((with_reducible show wpList _ _ _ (⟨some 2, _, _, _, _, _⟩ :: _) _ _); go_must (refine wpList_boxB (op := ⟨some 2, _, _, _, _, _⟩) rfl _ rfl m0 rfl H hH ?_); intro w1 hBw1 hbw1 hzw1)
    | ((with_reducible show wpList _ _ _ (⟨some 4, _, _, _, _, _⟩ :: _) _ _); go_must (refine wpList_allocB (op := ⟨some 4, _, _, _, _, _⟩) A57 rfl rfl (H + 1) hzw1 ?_); intro w2 hBw2 hbw2 hzw2)
    | ((with_reducible show wpList _ _ _ (⟨some 5, _, _, _, _, _⟩ :: _) _ _); go_must (refine wpList_loadB (op := ⟨some 5, _, _, _, _, _⟩) A57 rfl _ rfl H 0 rfl _ _ (hBw1.below hbw2 (by omega)) m0 (full l0) l0 ?_))
    | ((with_reducible show wpList _ _ _ (⟨none, .store 57 (.tmp 2) _, _, _, _, _⟩ :: _) _ _); go_must (refine wpList_storeB (op := ⟨none, _, _, _, _, _⟩) A57 rfl _ _ rfl H 0 rfl m1 rfl l1 _ _ ((hBw1.below hbw2 (by omega)).grow hb3) (by rw [l1, l0]; exact Nat.le_of_eq (Nat.zero_add _)) o1 ?_); intro w4 hBw4 hgw4 hzw4; rw [splice_all _ _ (l1.trans l0.symm)] at hBw4; have hlo4 : Below H w w4 := ((hbw1.trans (hbw2.mono (by omega))).trans (hb3.mono (by omega))).grown hgw4 (by have := hb3.size; omega) (fun j hj => by simp at hj; omega))
    | ((with_reducible show wpList _ _ _ (⟨some 8, _, _, _, _, _⟩ :: _) _ _); go_must (refine wpList_loadB (op := ⟨some 8, _, _, _, _, _⟩) A43 rfl _ rfl H 64 rfl _ _ hBw4 h1 hv1 k1 ?_))
    | ((with_reducible show wpList _ _ _ (⟨none, .store 43 (.tmp 11) _, _, _, _, _⟩ :: _) _ _); go_must (refine wpList_storeB (op := ⟨none, _, _, _, _, _⟩) A43 rfl _ _ rfl H 64 rfl h2 rfl k2 _ _ (hBw4.grow hb5) hle p2 ?_); intro w6 hBw6 hgw6 hzw6; rw [HPUT.out] at hBw6)
    | ((with_reducible show wpList _ _ _ (⟨some 12, _, _, _, _, _⟩ :: _) _ _); go_must (refine wpList_loadB (op := ⟨some 12, _, _, _, _, _⟩) A57 rfl _ rfl H 0 rfl _ _ hBw6 m2 (full l2) l2 ?_))
    | ((with_reducible show wpList _ _ _ (⟨none, .store 57 (.tmp 4) _, _, _, _, _⟩ :: _) _ _); go_must (refine wpList_storeB (op := ⟨none, _, _, _, _, _⟩) A57 rfl _ _ rfl (H + 1) 0 rfl m2 rfl l2 _ _ ((((hBw2.grow hb3).grown hgw4 (by simp)).grow hb5).grown hgw6 (by simp)) (Nat.le_of_eq ((Nat.zero_add _).trans l2)) o2 ?_); intro w7 hBw7 hgw7 hzw7))
  rw [splice_all _ _ l2] at hBw7
  have z4 := hlo4.size
  have z5 := hb5.size
  have zl := hBw4.lt
  refine ret_cell A57 Tryd.results31 (H + 1) rfl _ m2 hBw7 l2 rfl ⟨rfl, ?_⟩
  exact ((hlo4.trans (hb5.mono (by omega))).grown hgw6 (by omega) (fun j hj => by simp at hj; omega)).grown hgw7 (by omega) (fun j hj => by simp at hj; omega)
end Go.Proofs.YtoemceehmiaigaaDoor.Sha
