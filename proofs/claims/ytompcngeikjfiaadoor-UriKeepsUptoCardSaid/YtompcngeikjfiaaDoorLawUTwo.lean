/- uri: two texts with an & between. -/
import Derived.Test.YtompcngeikjfiaaDoorLawUTexts
import Derived.Test.YtompcngeikjfiaaDoorBackPure
import Derived.Test.YtompcngeikjfiaaDoorAppG
namespace Go.Proofs.YtompcngeikjfiaaDoor.Uri
open Go.RowKit Go.Proofs.YtompcngeikjfiaaDoor.Mem Go.Proofs.YtompcngeikjfiaaDoor.Seal Go.Proofs.YtompcngeikjfiaaDoor.Strs Go.Proofs.YtompcngeikjfiaaDoor.Split
set_option linter.unusedVariables false

theorem pd_one (ps : List PD) : ∀ u ∈ ps.flatMap PD.cells, u.oneCell' = true := by
  intro u hu
  obtain ⟨p, _, hp⟩ := List.mem_flatMap.1 hu
  unfold PD.cells at hp
  simp at hp
  rcases hp with rfl | rfl <;> rfl
theorem pd_len (ps : List PD) : (ps.flatMap PD.cells).length = ps.length * 2 := by
  induction ps with
  | nil => rfl
  | cons p r ih => rw [List.flatMap_cons, List.length_append, ih]; simp [PD.cells]; omega

set_option maxRecDepth 4000 in
set_option maxHeartbeats 3200000 in
theorem law_two (a b : List UInt8) (w : World) (ha : a.length ≤ 1048576) (hb : b.length ≤ 1048576) :
    Calls Tryd.prog 8 #[.string ⟨a.toArray⟩, .string ⟨b.toArray⟩] w fun e w' => e = .returned (.bool true) ∧ Below w.heap.size w w' := by
  have cA := Lib.hid (fun W => query_le a W (by omega))
  have cB := Lib.hid (fun W => query_le b W (by omega))
  have cC := Lib.hid (fun W => query_le (a ++ 38 :: b) W (by rw [List.length_append, List.length_cons]; omega))
  have h2 := query_two a b
  have la := queryL_len (l := a)
  have lb := queryL_len (l := b)
  obtain ⟨a1, ha1⟩ : ∃ x, x = a ++ [38] := ⟨_, rfl⟩
  obtain ⟨ab, hab⟩ : ∃ x, x = a ++ 38 :: b := ⟨_, rfl⟩
  have q1 : ((⟨a.toArray⟩ : ByteArray) ++ ⟨#[38]⟩) = ⟨a1.toArray⟩ := by rw [ha1, ByteArray.mk_append_mk]; try rfl
  have q2 : ((⟨a1.toArray⟩ : ByteArray) ++ ⟨b.toArray⟩) = ⟨ab.toArray⟩ := by rw [hab, ha1, ByteArray.mk_append_mk]; congr 1; simp
  have l1 : a.length + 1 ≤ 9223372036854775807 := by omega
  have l2 : a1.length + b.length ≤ 9223372036854775807 := by rw [ha1, List.length_append, List.length_cons, List.length_nil]; omega
  rw [← hab] at cC h2
  obtain ⟨qa, hqa⟩ : ∃ x, x = queryL a := ⟨_, rfl⟩
  obtain ⟨qb, hqb⟩ : ∃ x, x = queryL b := ⟨_, rfl⟩
  rw [← hqa] at cA h2 la
  rw [← hqb] at cB h2 lb
  rw [h2] at cC
  clear h2 ha1 hab hqa hqb
  cases qa with
  | none =>
    simp only at cC
    go_enter Tryd.func8, Tryd.ntmps8
    cases qb with
    | none =>
      go_wp2_with (first
        | (go_at_call 10; refine (alive_any _).mono ?_; rintro e w1 ⟨rfl, hb1⟩)
        | (go_at_call 16; refine (cA.out _).mono ?_; clear cA; rintro e w2 ⟨rfl, hb2⟩)
        | (go_at_call 16; refine (cB.out _).mono ?_; clear cB; rintro e w3 ⟨rfl, hb3⟩)
        | (go_at_call 16; refine (cC.out _).mono ?_; clear cC; rintro e w4 ⟨rfl, hb4⟩))
      go_ret
      exact ⟨rfl, gt (gt (gt hb1 hb2) hb3) hb4⟩
    | some y =>
      go_wp2_with (first
        | (go_at_call 10; refine (alive_any _).mono ?_; rintro e w1 ⟨rfl, hb1⟩)
        | (go_at_call 16; refine (cA.out _).mono ?_; clear cA; rintro e w2 ⟨rfl, hb2⟩)
        | (go_at_call 16; refine (cB.out _).mono ?_; clear cB; rintro e w3 hp3; obtain ⟨A3, c3, rfl, hr3, hb3⟩ := qpost_some hp3 rfl; clear hp3)
        | (go_at_call 16; refine (cC.out _).mono ?_; clear cC; rintro e w4 ⟨rfl, hb4⟩))
      go_ret
      exact ⟨rfl, gt (gt (gt hb1 hb2) hb3) hb4⟩
  | some x =>
    go_enter Tryd.func8, Tryd.ntmps8
    cases qb with
    | none =>
      simp only at cC
      go_wp2_with (first
        | (go_at_call 10; refine (alive_any _).mono ?_; rintro e w1 ⟨rfl, hb1⟩)
        | (go_at_call 16; refine (cA.out _).mono ?_; clear cA; rintro e w2 hp2; obtain ⟨A2, c2, rfl, hr2, hb2⟩ := qpost_some hp2 rfl; clear hp2)
        | (go_at_call 16; refine (cB.out _).mono ?_; clear cB; rintro e w3 ⟨rfl, hb3⟩)
        | (go_at_call 16; refine (cC.out _).mono ?_; clear cC; rintro e w4 ⟨rfl, hb4⟩))
      go_ret
      exact ⟨rfl, gt (gt (gt hb1 hb2) hb3) hb4⟩
    | some y =>
      simp only at cC la lb
      simp only [Option.getD_some] at la lb
      have lxy : x.length + y.length ≤ 2097154 := by omega
      go_upto_region 8 with (first
        | (go_at_call 10; refine (alive_any _).mono ?_; rintro e w1 ⟨rfl, hb1⟩)
        | (go_at_call 16; refine (cA.out _).mono ?_; clear cA; rintro e w2 hp2; obtain ⟨A2, c2, rfl, hr2, hb2⟩ := qpost_some hp2 rfl; clear hp2)
        | (go_at_call 16; refine (cB.out _).mono ?_; clear cB; rintro e w3 hp3; obtain ⟨A3, c3, rfl, hr3, hb3⟩ := qpost_some hp3 rfl; clear hp3)
        | (go_at_call 16; refine (cC.out _).mono ?_; clear cC; rintro e w4 hp4; obtain ⟨A4, c4, rfl, hr4, hb4⟩ := qpost_some hp4 rfl; clear hp4))
      have R2 := Lib.hid (((own_rv hr2).below hb3).below hb4)
      have R3 := Lib.hid ((own_rv hr3).below hb4)
      have R4 := Lib.hid (own_rv hr4)
      have B4 := Lib.hid (gt (gt (gt hb1 hb2) hb3) hb4)
      clear hr2 hr3 hr4 hb1 hb2 hb3 hb4
      go_wp2_with (first
        | ((with_reducible show wpList _ _ _ (⟨some 48, _, _, _, _, _⟩ :: _) _ _); go_must (refine wpList_zeroG E51 (by decide) rfl rfl w4.heap.size rfl ?_); intro w5 ho5 hb5 hz5)
        | ((with_reducible show wpList _ _ _ (⟨some 50, _, _, _, _, _⟩ :: _) _ _); go_must (refine wpList_appG E51 rfl (.tmp 48) (.tmp 49) rfl w4.heap.size (.slice (some ⟨w4.heap.size, 0, none⟩) 0 0) 0 [] (by go_simp) ho5 A2 x.length c2 (x.flatMap PD.cells) (by go_simp) (R2.out.below hb5) (pd_len x) (pd_one x) (by unfold maxLen; omega) (by omega) (by omega) ?_); intro v6 w6 ho6 hg6 _; have hb6 := below_own hb5 ho5 hg6 hb5.size; rw [Nat.zero_add, List.nil_append] at ho6; obtain ⟨A6, n6, c6, rfl, hn6⟩ := own_form ho6; clear ho5 hg6 hb5 hz5)
        | ((with_reducible show wpList _ _ _ (⟨some 52, _, _, _, _, _⟩ :: _) _ _); go_must (refine wpList_appG E51 rfl (.tmp 50) (.tmp 51) rfl w4.heap.size (.slice A6 n6 c6) x.length (x.flatMap PD.cells) (by go_simp) ho6 A3 y.length c3 (y.flatMap PD.cells) (by go_simp) (R3.out.below hb6) (pd_len y) (pd_one y) (by unfold maxLen; omega) (by omega) (by have := hb6.size; omega) ?_); intro v7 w7 ho7 hg7 _; have hb7 := below_own hb6 ho6 hg7 hb6.size; obtain ⟨A7, n7, c7, rfl, hn7⟩ := own_form ho7; subst hn7; have R7 : RV w7 A7 ((x ++ y).flatMap PD.cells) := (by have := own_rv ho7; rw [List.flatMap_append]; exact this))
        | (go_at_call 17; refine (same_any A4 A7 (x.length + y.length) (x.length + y.length) c4 c7 (x ++ y) (x ++ y) w7 (R4.out.below hb7) R7 (by simp) (by simp) (by omega) (by omega)).mono ?_; rw [decide_eq_true rfl]; rintro e w8 ⟨rfl, d, rfl⟩))
      go_ret
      exact ⟨rfl, gn (gt B4.out hb7) d⟩
end Go.Proofs.YtompcngeikjfiaaDoor.Uri
