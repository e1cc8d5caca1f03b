/- uri: every Encode, First and All. -/
import Derived.Test.YtompcngeikjfiaaDoorLawUTexts
namespace Go.Proofs.YtompcngeikjfiaaDoor.Uri
open Go.RowKit Go.Proofs.YtompcngeikjfiaaDoor.Mem Go.Proofs.YtompcngeikjfiaaDoor.Seal Go.Proofs.YtompcngeikjfiaaDoor.Strs Go.Proofs.YtompcngeikjfiaaDoor.Split
set_option linter.unusedVariables false

set_option maxRecDepth 4000 in
set_option maxHeartbeats 3200000 in
theorem law_params (A : Option Addr) (c : Nat) (ps : List PD) (name : List UInt8) (w : World) (hA : RV w A (ps.flatMap PD.cells)) (hok : ∀ p ∈ ps, PD.ok p) (hl : ps.length ≤ 1048576) :
    Calls Tryd.prog 6 #[.slice A ps.length c, .string ⟨name.toArray⟩] w fun e w' => e = .returned (.bool true) ∧ Below w.heap.size w w' := by
  obtain ⟨n, hn⟩ : ∃ n, n = ps.length := ⟨_, rfl⟩
  have hni : n ≤ 1048576 := by omega
  rw [← hn]
  have HA := Lib.hid (And.intro hA (And.intro hok hn))
  have hvl := vals_len ps name
  have hvN : (vals ps name).length ≤ 1048576 := by omega
  clear hA hok hn hl hvl
  obtain ⟨vs, hvs⟩ : ∃ x, x = vals ps name := ⟨_, rfl⟩
  have cE := Lib.hid (fun W hW => encode_any A n c ps W (HA.out.1.below hW) HA.out.2.2 hni HA.out.2.1)
  have cF := Lib.hid (fun W hW => rencode_any A n c ps W (HA.out.1.below hW) HA.out.2.2 hni HA.out.2.1)
  have cG := Lib.hid (fun W hW => first_any A n c ps name W (HA.out.1.below hW) HA.out.2.2 hni)
  have cH := Lib.hid (fun W hW => rfirst_any A n c ps name W (HA.out.1.below hW) HA.out.2.2 hni)
  have cI := Lib.hid (fun W hW => all_any A n c ps name W (HA.out.1.below hW) HA.out.2.2 hni)
  have cJ := Lib.hid (fun W hW => rall_any A n c ps name W (HA.out.1.below hW) HA.out.2.2 hni)
  simp only [← hvs] at cG cH cI cJ hvN
  clear hvs
  go_enter Tryd.func6, Tryd.ntmps6
  go_upto_region 6 with (first
    | (go_at_call 10; refine (alive_any _).mono ?_; rintro e w1 ⟨rfl, hb1⟩)
    | (go_at_call 20; refine (cF.out _ hb1).mono ?_; rintro e w2 ⟨rfl, hb2⟩; replace hb2 := gt hb1 hb2)
    | (go_at_call 21; refine (cH.out _ hb2).mono ?_; rintro e w3 ⟨rfl, hb3⟩; replace hb3 := gt hb2 hb3)
    | (go_at_call 22; refine (cJ.out _ hb3).mono ?_; rintro e w4 ⟨v4, rfl, ho4, hb4⟩; replace hb4' := gt hb3 hb4; obtain ⟨A4, n4, c4, rfl, hn4⟩ := own_form ho4; subst hn4))
  have hb4' := gt hb3 hb4
  have R4 := Lib.hid (own_rv ho4)
  clear ho4 hb4 hb3 hb2 hb1
  go_wp2_with (first
    | (go_at_call 23; refine (cG.out _ hb4').mono ?_; rintro e w5 ⟨rfl, hb5⟩)
    | (go_at_call 24; refine (cE.out _ (gt hb4' hb5)).mono ?_; rintro e w6 ⟨rfl, hb6⟩)
    | (go_at_call 26; refine (cI.out _ (gt (gt hb4' hb5) hb6)).mono ?_; rintro e w7 ⟨v7, rfl, ho7, hb7⟩; obtain ⟨A7, n7, c7, rfl, hn7⟩ := own_form ho7; subst hn7; have R7 := Lib.hid (own_rv ho7); clear ho7)
    | (go_at_call 25; refine (sameTexts_any A7 A4 _ _ c7 c4 vs vs w7 R7.out (((R4.out.below hb5).below hb6).below hb7) rfl rfl (by omega) (by omega)).mono ?_; rw [decide_eq_true rfl]; rintro e w8 ⟨rfl, d, rfl⟩))
  go_ret
  exact ⟨rfl, gn (gt (gt (gt hb4' hb5) hb6) hb7) d⟩
end Go.Proofs.YtompcngeikjfiaaDoor.Uri
