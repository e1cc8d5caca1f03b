/- uri: alive. -/
import Derived.Test.YtompcngeikjfiaaDoorUri10
import Derived.Test.YtompcngeikjfiaaDoorUri6
namespace Go.Proofs.YtompcngeikjfiaaDoor.Uri
open Go.RowKit Go.Proofs.YtompcngeikjfiaaDoor.Mem Go.Proofs.YtompcngeikjfiaaDoor.Seal Go.Proofs.YtompcngeikjfiaaDoor.Strs Go.Proofs.YtompcngeikjfiaaDoor.Split
set_option linter.unusedVariables false

theorem qpost_some {w : World} {o : Option (List PD)} {hs : List PD} {e : Ending} {w' : World} (h : QPost w o e w') (ho : o = some hs) :
    ∃ A c, e = .returned (.tuple #[.slice A hs.length c, .int .i64 0]) ∧ w'.ownsRow w.heap.size 51 2 (.slice A hs.length c) hs.length (hs.flatMap PD.cells) ∧ Below w.heap.size w w' := by
  unfold QPost at h
  rw [ho] at h
  obtain ⟨⟨v, he, hr⟩, hb⟩ := h
  obtain ⟨A, n, c, rfl, hn⟩ := own_form hr
  subst hn
  exact ⟨A, c, he, hr, hb⟩
theorem al_a : unesc true [37, 52, 97, 43] = some [74, 32] := by decide +kernel
theorem al_f : unesc false [37] = none := by decide +kernel
theorem al_q : queryL [97, 61, 49, 38, 98] = some [([97], [49]), ([98], [])] := by decide +kernel
theorem al_t : target [47, 120, 37, 50, 48, 63, 121] = (0, [47, 120, 32], [121]) := by decide +kernel
theorem al_u : target [120] = (271, [], []) := by decide +kernel
theorem al_e : esc [47] = [37, 50, 70] := by decide +kernel
theorem al_g : form [([97], [49]), ([98], [])] = [97, 61, 49, 38, 98, 61] := by decide +kernel
theorem al_v : vals [([97], [49]), ([98], [])] [97] = [[49]] := by decide +kernel
theorem al_l : vals [([97], [49]), ([98], [])] [98] = [[]] := by decide +kernel

theorem al_ok : ∀ p ∈ [(([97], [49]) : PD), ([98], [])], PD.ok p := by
  intro p hp
  simp only [List.mem_cons, List.not_mem_nil, or_false] at hp
  rcases hp with rfl | rfl
  · exact ⟨by decide, by decide⟩
  · exact ⟨by decide, by decide⟩
set_option maxRecDepth 8000 in
set_option maxHeartbeats 3200000 in
theorem alive_any (w : World) :
    Calls Tryd.prog 10 #[] w fun e w' => e = .returned (.bool true) ∧ Below w.heap.size w w' := by
  have cA := Lib.hid (fun W => (al_a ▸ unescape_any [37, 52, 97, 43] true W (by decide) : Calls Tryd.prog 12 #[.string ⟨#[37, 52, 97, 43]⟩, .bool true] W (UnPost W (some [74, 32]))))
  have cF := Lib.hid (fun W => (al_f ▸ unescape_any [37] false W (by decide) : Calls Tryd.prog 12 #[.string ⟨#[37]⟩, .bool false] W (UnPost W none)))
  have cQ := Lib.hid (fun W => (query_any [97, 61, 49, 38, 98] W (by decide) (by decide) (by decide)))
  have cT := Lib.hid (fun W => (al_t ▸ target_any [47, 120, 37, 50, 48, 63, 121] W (by decide) : Calls Tryd.prog 19 #[.string ⟨#[47, 120, 37, 50, 48, 63, 121]⟩] W (TPost W (0, [47, 120, 32], [121]))))
  have cU := Lib.hid (fun W => (al_u ▸ target_any [120] W (by decide) : Calls Tryd.prog 19 #[.string ⟨#[120]⟩] W (TPost W (271, [], []))))
  have cE := Lib.hid (fun W => (al_e ▸ escape_any [47] W (by decide) : Calls Tryd.prog 13 #[.string ⟨#[47]⟩] W fun e w' => e = .returned (.string ⟨[37, 50, 70].toArray⟩) ∧ Below W.heap.size W w'))
  go_enter Tryd.func10, Tryd.ntmps10
  go_upto_region 3 with (first
    | (go_at_call 12; refine (cA.out _).mono ?_; clear cA; rintro e w1 ⟨rfl, hb1⟩)
    | (go_at_call 12; refine (cF.out _).mono ?_; clear cF; rintro e w2 ⟨rfl, hb2⟩))
  go_upto_region 4 with (first
    | (go_at_call 16; refine (cQ.out _).mono ?_; clear cQ; rintro e w3 hp3; obtain ⟨A, c, rfl, ho3, hb3⟩ := qpost_some hp3 al_q; clear hp3))
  obtain ⟨g, rfl⟩ : ∃ g, A = some ⟨g, 0, none⟩ := by
    rcases ho3.2 with ⟨h, _⟩ | ⟨g, cap, cur, h, _⟩
    · cases h
    · injection h with h1; exact ⟨g, h1⟩
  have hrv := Lib.hid (own_rv ho3)
  have HB := Lib.hid (gt (gt hb1 hb2) hb3)
  clear ho3 hb1 hb2 hb3
  go_upto_region 6 with (first
    | (go_at_call 19; refine (cT.out _).mono ?_; clear cT; rintro e w4 ⟨rfl, hb4⟩)
    | (go_at_call 19; refine (cU.out _).mono ?_; clear cU; rintro e w5 ⟨rfl, hb5⟩))
  have hB5 := gt hb4 hb5
  have r5 := Lib.hid (hrv.out.below hB5)
  have HB5 := Lib.hid (gt HB.out hB5)
  clear hb4 hb5 hB5 hrv HB
  obtain ⟨ad, h0, _, p1⟩ := pd_cells r5.out (k := 0) (by decide)
  obtain ⟨ad', h1, q0, _⟩ := pd_cells r5.out (k := 1) (by decide)
  obtain rfl : (⟨g, 0, none⟩ : Addr) = ad := Option.some.inj h0
  obtain rfl : (⟨g, 0, none⟩ : Addr) = ad' := Option.some.inj h1
  replace p1 : w5.cell? ⟨g, 1, none⟩ = some (.string ⟨#[49]⟩) := p1
  replace q0 : w5.cell? ⟨g, 2, none⟩ = some (.string ⟨#[98]⟩) := q0
  clear h0 h1
  go_upto_region 8 with fail
  clear p1 q0
  go_upto_region 9 with (first
    | (go_at_call 23; refine ((first_any (some ⟨g, 0, none⟩) 2 c [([97], [49]), ([98], [])] [97] _ r5.out rfl (by omega))).mono ?_; rw [al_v]; rintro e w6 ⟨rfl, hb6⟩; unfold headS headB; simp only [List.headD_cons, List.isEmpty_cons, Bool.not_false])
    | fail)
  have r6 := Lib.hid (r5.out.below hb6)
  have HB6 := Lib.hid (gt HB5.out hb6)
  clear r5 HB5 hb6
  go_wp2_with (first
    | (go_at_call 13; refine (cE.out _).mono ?_; clear cE; rintro e w7 ⟨rfl, hb7⟩)
    | (go_at_call 24; refine ((encode_any (some ⟨g, 0, none⟩) 2 c [([97], [49]), ([98], [])] _ (r6.out.below hb7) rfl (by omega) al_ok)).mono ?_; rw [al_g]; rintro e w8 ⟨rfl, hb8⟩)
    | (go_at_call 26; refine ((all_any (some ⟨g, 0, none⟩) 2 c [([97], [49]), ([98], [])] [98] _ ((r6.out.below hb7).below hb8) rfl (by omega))).mono ?_; rw [al_l]; rintro e w9 ⟨v9, rfl, ho9, hb9⟩; obtain ⟨A9, n9, c9, rfl, hn9⟩ := own_form ho9; replace hn9 : n9 = 1 := hn9; subst hn9; clear ho9))
  go_ret
  exact ⟨rfl, gt (gt (gt HB6.out hb7) hb8) hb9⟩
end Go.Proofs.YtompcngeikjfiaaDoor.Uri
