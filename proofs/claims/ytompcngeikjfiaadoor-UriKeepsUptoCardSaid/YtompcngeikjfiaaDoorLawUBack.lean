/- uri: what is written is read back. -/
import Derived.Test.YtompcngeikjfiaaDoorLawUTwo
namespace Go.Proofs.YtompcngeikjfiaaDoor.Uri
open Go.RowKit Go.Proofs.YtompcngeikjfiaaDoor.Mem Go.Proofs.YtompcngeikjfiaaDoor.Seal Go.Proofs.YtompcngeikjfiaaDoor.Strs Go.Proofs.YtompcngeikjfiaaDoor.Split
set_option linter.unusedVariables false

theorem plain_class {x : UInt8} (h : plainB x.toNat = true ∨ x = 37) :
    ((48 : Int) ≤ (x.toNat : Int) ∧ (x.toNat : Int) ≤ 57) ∨ ((48 : Int) ≤ (x.toNat : Int) ∧ ¬ (x.toNat : Int) ≤ 57 ∧ (97 : Int) ≤ (x.toNat : Int) ∧ (x.toNat : Int) ≤ 122) ∨
    ((48 : Int) ≤ (x.toNat : Int) ∧ ¬ (x.toNat : Int) ≤ 57 ∧ ¬ (97 : Int) ≤ (x.toNat : Int) ∧ (65 : Int) ≤ (x.toNat : Int) ∧ (x.toNat : Int) ≤ 90) ∨
    (x.toNat : Int) = 45 ∨ (x.toNat : Int) = 46 ∨ (x.toNat : Int) = 95 ∨ (x.toNat : Int) = 126 ∨ (x.toNat : Int) = 37 := by
  rcases h with h | rfl
  · unfold plainB at h
    simp only [Bool.or_eq_true, Bool.and_eq_true, decide_eq_true_eq, beq_iff_eq] at h
    omega
  · right; right; right; right; right; right; right; rfl
theorem form_ok {ps : List PD} (hok : ∀ p ∈ ps, PD.ok p) (hl : ps.length ≤ 1048576) : (form ps).length ≤ 1152921504606846976 ∧ (splitL 38 (form ps)).length ≤ 1073741824 ∧ ∀ x ∈ splitL 38 (form ps), x.length ≤ 1073741824 := by
  have h1 := form_len hok ps.length (Nat.le_refl _)
  rw [List.take_length] at h1
  have h2 := form_pieces ps
  have h3 : ps.length * 6291458 ≤ 1048576 * 6291458 := Nat.mul_le_mul_right _ hl
  refine ⟨by omega, by omega, fun x hx => ?_⟩
  rcases h2.2 x hx with rfl | ⟨p, hp, rfl⟩
  · simp
  · have := pair_len (hok p hp)
    omega
theorem query_back {ps : List PD} (hok : ∀ p ∈ ps, PD.ok p) (hl : ps.length ≤ 1048576) (w : World) : Calls Tryd.prog 16 #[.string ⟨(form ps).toArray⟩] w (QPost w (some ps)) := by
  have h := form_ok hok hl
  have := query_any (form ps) w h.1 h.2.1 h.2.2
  rwa [query_form] at this

set_option maxRecDepth 4000 in
set_option maxHeartbeats 3200000 in
theorem law_back (l : List UInt8) (A : Option Addr) (c : Nat) (ps : List PD) (w : World) (hll : l.length ≤ 1048576) (hA : RV w A (ps.flatMap PD.cells)) (hok : ∀ p ∈ ps, PD.ok p) (hl : ps.length ≤ 1048576) :
    Calls Tryd.prog 7 #[.string ⟨l.toArray⟩, .slice A ps.length c] w fun e w' => e = .returned (.bool true) ∧ Below w.heap.size w w' := by
  obtain ⟨n, hn⟩ : ∃ n, n = ps.length := ⟨_, rfl⟩
  have hni : n ≤ 1048576 := by omega
  have HP := Lib.hid (fun W => query_back hok hl W)
  rw [← hn]
  have HA := Lib.hid (And.intro hA (And.intro hok hn))
  have cE := Lib.hid (fun W hW => encode_any A n c ps W (HA.out.1.below hW) HA.out.2.2 hni HA.out.2.1)
  have htl := esc_len l
  obtain ⟨t, ht⟩ : ∃ t, t = esc l := ⟨_, rfl⟩
  have cS := Lib.hid (fun W => escape_any l W (by omega))
  rw [← ht] at cS htl
  have cF := Lib.hid (fun W => unescape_any t false W (by omega))
  have cG := Lib.hid (fun W => unescape_any t true W (by omega))
  have e1 : unesc false t = some l := by rw [ht]; exact unesc_esc false l
  have e2 : unesc true t = some l := by rw [ht]; exact unesc_esc true l
  rw [e1] at cF
  rw [e2] at cG
  have cH := Lib.hid (fun W => unescape_any l false W (by omega))
  have hum := fun r (h : unesc false l = some r) => unesc_len h
  obtain ⟨o, ho⟩ : ∃ o, o = unesc false l := ⟨_, rfl⟩
  rw [← ho] at cH hum
  have HM := Lib.hid (fun x (h : x ∈ t) => (esc_mem l x (ht ▸ h)).1)
  have HU := Lib.hid hum
  obtain ⟨m, hm⟩ : ∃ m, m = t.length := ⟨_, rfl⟩
  obtain ⟨s, hs⟩ : ∃ s, s = (⟨t.toArray⟩ : ByteArray) := ⟨_, rfl⟩
  have hsz : s.size = m := by rw [hs, hm]; simp [ByteArray.size]
  rw [← hs] at cS cF cG
  have hmi : (m : Int) ≤ 3145728 := by omega
  have HT := Lib.hid (And.intro hm hs)
  clear hA hok hn hl ht htl e1 e2 hum ho hm hs
  go_enter Tryd.func7, Tryd.ntmps7
  go_upto_region 4 with (first
    | (go_at_call 10; refine (alive_any _).mono ?_; rintro e w1 ⟨rfl, hb1⟩)
    | (go_at_call 24; refine (cE.out _ hb1).mono ?_; rintro e w2 ⟨rfl, hb2⟩)
    | (go_at_call 16; refine (HP.out _).mono ?_; rintro e w3 hp3; obtain ⟨A3, c3, rfl, hr3, hb3⟩ := qpost_some hp3 rfl; clear hp3; rw [← HA.out.2.2]; rw [← HA.out.2.2] at hr3))
  have R3 := Lib.hid (own_rv hr3)
  have B3 := gt (gt hb1 hb2) hb3
  clear hb1 hb2 hb3 hr3
  go_wp2_with (first
    | (go_at_call 17; refine (same_any A3 A _ _ c3 c ps ps _ R3.out (HA.out.1.below B3) HA.out.2.2 HA.out.2.2 (by omega) (by omega)).mono ?_; rw [decide_eq_true rfl]; rintro e w4 ⟨rfl, d, rfl⟩)
    | (go_at_call 13; refine (cS.out _).mono ?_; rintro e w5 ⟨rfl, hb5⟩; have B5 := gt (gn B3 d) hb5))
  go_loopw [8, 9] (fun v _ wr => ∃ k : Nat, k ≤ m ∧ v = .int .i64 k ∧ Below w.heap.size w wr) (fun v _ _ => m - (intOf v).toNat)
  case atStart => exact ⟨0, by omega, rfl, B5⟩
  case round =>
    clear B5 hb5 B3
    obtain ⟨k, hk, rfl, hb⟩ := hrel
    by_cases hlt : k < m
    · have hkl : k < t.length := by have := HT.out.1; omega
      obtain ⟨x, hx⟩ : ∃ x, x = t[k] := ⟨_, rfl⟩
      have hks : k < s.size := by omega
      have hsx : s[k] = x := by rw [hx]; exact str_at HT.out.2 hkl hks
      have hcl := plain_class (HM.out x (by rw [hx]; exact List.getElem_mem hkl))
      have hki : (k : Int) < (m : Int) := by omega
      have hk0 : (0 : Int) ≤ (k : Int) := by omega
      clear hx hlt
      rcases hcl with ⟨i1, i2⟩ | ⟨i1, i2, i3, i4⟩ | ⟨i1, i2, i3, i4, i5⟩ | i1 | i1 | i1 | i1 | i1
      all_goals
        go_wp2_with fail
        exact ⟨⟨k + 1, by omega, by go_num, hb⟩, by simp [intOf] <;> omega⟩
    · obtain rfl : k = m := by omega
      have hkk : ¬ (k : Int) < (k : Int) := by omega
      clear hlt
      cases o with
      | none =>
        go_wp2_with (first
          | (go_at_call 12; refine (cF.out _).mono ?_; clear cF; rintro e w2 ⟨rfl, hb2⟩)
          | (go_at_call 12; refine (cG.out _).mono ?_; clear cG; rintro e w3 ⟨rfl, hb3⟩)
          | (go_at_call 12; refine (cH.out _).mono ?_; clear cH; rintro e w4 ⟨rfl, hb4⟩))
        go_ret
        exact ⟨ret_bool (by simp), gt (gt (gt hb hb2) hb3) hb4⟩
      | some r =>
        have hrl := HU.out r rfl
        have hri : (r.length : Int) ≤ (l.length : Int) := by omega
        go_wp2_with (first
          | (go_at_call 12; refine (cF.out _).mono ?_; clear cF; rintro e w2 ⟨rfl, hb2⟩)
          | (go_at_call 12; refine (cG.out _).mono ?_; clear cG; rintro e w3 ⟨rfl, hb3⟩)
          | (go_at_call 12; refine (cH.out _).mono ?_; clear cH; rintro e w4 ⟨rfl, hb4⟩))
        go_ret
        exact ⟨ret_bool (by simp), gt (gt (gt hb hb2) hb3) hb4⟩
end Go.Proofs.YtompcngeikjfiaaDoor.Uri
