/- The digest of a list: the program's. -/
import Derived.Test.YtoemceehmiaigaaDoorShaSum
namespace Go.Proofs.YtoemceehmiaigaaDoor.Sha
open Go.RowKit Go.Proofs.YtoemceehmiaigaaDoor.Mem Go.Proofs.YtoemceehmiaigaaDoor.Loan

set_option maxHeartbeats 800000 in
set_option maxRecDepth 40000 in
theorem psum_any (l : List UInt8) (A : Option Addr) (c : Nat) (w : World) (ha : RB w A l) (hcap : l.length ≤ c) (hl : l.length ≤ 35184372088832) (hG : GB w) :
    Calls Tryd.prog 19 #[.slice A l.length c] w fun e w' => e = .returned (.agg ((sumf l).map bv).toArray) ∧ Below w.heap.size w w' := by
  generalize hH : w.heap.size = H
  have HA := Lib.hid ha
  have HG := Lib.hid hG
  have hH0 : 0 < H := hH ▸ hG.2
  obtain ⟨h0, hh0⟩ : ∃ h, h = hashCells [] := ⟨_, rfl⟩
  obtain ⟨h1, hh1⟩ : ∃ h, h = hashCells l := ⟨_, rfl⟩
  obtain ⟨d, hd⟩ : ∃ d, d = (sumf l).map bv := ⟨_, rfl⟩
  have hdl : d.length = (List.replicate 32 (bv 0)).length := by rw [hd]; simp [sumf_length]
  have hd1 : ∀ v ∈ d, v.oneCell' = true := by rw [hd]; exact bytes_oneCell _
  have HD := Lib.hid (And.intro hh0 (And.intro hh1 hd))
  rw [← hd]
  clear ha hG hh0 hh1 hd
  go_enter Tryd.func19, Tryd.ntmps19
  go_wp2_with (first
    | (go_at_call 25; go_must (refine (new_any _).mono ?_); rintro e w2 ⟨he, hb2⟩; rw [← HD.out.1] at he; subst he)
    | (go_at_call 26; rw [HD.out.1]; go_must (refine (write_any [] l A c _ (HA.out.below (hH ▸ hb1.trans (hb2.mono (by omega)))) hcap ((HG.out.below hb1 hH0).grow hb2) (by simp; omega)).mono ?_); rintro e w3 ⟨he, hb3⟩; rw [List.nil_append, ← HD.out.2.1] at he; subst he)
    | (go_at_call 27; rw [HD.out.2.1]; go_must (refine (sum_any l _ (((HG.out.below hb1 hH0).grow hb2).grow hb3) (by omega)).mono ?_); rintro e w4 ⟨he, hb4⟩; rw [← HD.out.2.2] at he; subst he)
    | ((with_reducible show wpList _ _ _ (⟨some 2, _, _, _, _, _⟩ :: _) _ _); go_must (refine wpList_allocB (op := ⟨some 2, _, _, _, _, _⟩) A30 rfl rfl H hH ?_); intro w1 hB1 hb1 hz1)
    | ((with_reducible show wpList _ _ _ (⟨none, .store 30 _ _, _, _, _, _⟩ :: _) _ _); go_must (refine wpList_storeB (op := ⟨none, _, _, _, _, _⟩) A30 rfl _ _ rfl H 0 rfl d rfl hdl _ _ (((hB1.grow hb2).grow hb3).grow hb4) (Nat.le_of_eq ((Nat.zero_add _).trans hdl)) hd1 ?_); intro w5 hB5 hg5 _))
  rw [splice_all _ _ hdl] at hB5
  refine ret_cell A30 Tryd.results19 H rfl _ d hB5 hdl rfl ⟨rfl, ?_⟩
  have z2 := hb2.size
  have z3 := hb3.size
  have z4 := hb4.size
  exact (((hb1.trans (hb2.mono (by omega))).trans (hb3.mono (by omega))).trans (hb4.mono (by omega))).grown hg5 (by omega) (fun j hj => by simp at hj; omega)

set_option maxHeartbeats 400000 in
set_option maxRecDepth 40000 in
theorem len_any (b : List UInt8) (w : World) :
    Calls Tryd.prog 29 #[.agg (hashCells b).toArray] w fun e w' => e = .returned (.int .i64 (b.length : Int)) ∧ Below w.heap.size w w' := by
  generalize hH : w.heap.size = H
  have h72 : (hashCells b)[72]? = some (.int .i64 (b.length : Int)) := by rw [hashCells_eq]; exact hcell_72 _ _ _ (restB_length b)
  obtain ⟨h1, hh1⟩ : ∃ h, h = hashCells b := ⟨_, rfl⟩
  rw [← hh1] at h72 ⊢
  clear hh1
  go_enter Tryd.func29, Tryd.ntmps29
  go_wp2_with (first
    | ((with_reducible show wpList _ _ _ (⟨some _, .box 43 _, _, _, _, _⟩ :: _) _ _); go_must (refine wpList_boxB (op := ⟨some _, _, _, _, _, _⟩) rfl _ rfl h1 rfl H hH ?_); intro w1 hB1 hb1 hz1; have c72 := (hB1.cell 72).trans h72))
  go_ret
  exact ⟨rfl, hb1⟩
end Go.Proofs.YtoemceehmiaigaaDoor.Sha
