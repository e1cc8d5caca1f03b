/- uri: the law's own helpers: same, sameTexts, alive. -/
import Derived.Test.YtompcngeikjfiaaDoorUri9
namespace Go.Proofs.YtompcngeikjfiaaDoor.Uri
open Go.RowKit Go.Proofs.YtompcngeikjfiaaDoor.Mem Go.Proofs.YtompcngeikjfiaaDoor.Seal Go.Proofs.YtompcngeikjfiaaDoor.Strs Go.Proofs.YtompcngeikjfiaaDoor.Split
set_option linter.unusedVariables false

theorem drewN_ex (w : World) (d e : Nat) : ∃ x, (w.drewN d).drewN e = w.drewN x := ⟨d + e, by simp [World.drewN, Nat.add_assoc]⟩
theorem take_eq_succ {α : Type} {a b : List α} {k : Nat} (h1 : k < a.length) (h2 : k < b.length) : (a.take (k + 1) = b.take (k + 1)) ↔ (a.take k = b.take k ∧ a[k] = b[k]) := by
  rw [take_succ_ h1, take_succ_ h2]
  constructor
  · intro h
    have := List.append_inj' h rfl
    exact ⟨this.1, by simpa using this.2⟩
  · rintro ⟨h, g⟩; rw [h, g]
theorem ne_of_at {α : Type} {a b : List α} {k : Nat} (h1 : k < a.length) (h2 : k < b.length) (h : a[k] ≠ b[k]) : a ≠ b := by rintro rfl; exact h rfl

set_option maxRecDepth 4000 in
set_option maxHeartbeats 1600000 in
theorem same_any [DecidableEq PD] (A B : Option Addr) (na nb ca cb : Nat) (ps qs : List PD) (w : World) (hA : RV w A (ps.flatMap PD.cells)) (hB : RV w B (qs.flatMap PD.cells)) (hna : na = ps.length) (hnb : nb = qs.length) (hl : na ≤ 1152921504606846976) (hl2 : nb ≤ 1152921504606846976) :
    Calls Tryd.prog 17 #[.slice A na ca, .slice B nb cb] w fun e w' => e = .returned (.bool (decide (ps = qs))) ∧ ∃ d, w' = w.drewN d := by
  by_cases hab : na = nb
  · have HA := Lib.hid (And.intro hA (And.intro hB (And.intro hna (show ps.length = qs.length by omega))))
    have hni : (na : Int) ≤ 1152921504606846976 := by omega
    obtain rfl := hab
    clear hA hB hna hnb hl hl2
    go_enter Tryd.func17, Tryd.ntmps17
    go_wp2
    go_loopw [5] (fun v wr => ∃ k : Nat, k ≤ na ∧ v = .int .i64 k ∧ ps.take k = qs.take k ∧ ∃ d, wr = w.drewN d) (fun v _ => na - (intOf v).toNat)
    case atStart => exact ⟨0, by omega, rfl, by simp, 0, rfl⟩
    case round =>
      obtain ⟨k, hk, rfl, htk, d, rfl⟩ := hrel
      by_cases hlt : k < na
      · have hka : k < ps.length := by have := HA.out.2.2.1; omega
        have hkb : k < qs.length := by have := HA.out.2.2.1; have := HA.out.2.2.2; omega
        have hpa := pd_cells HA.out.1 hka
        have hpb := pd_cells HA.out.2.1 hkb
        have hT := take_eq_succ hka hkb
        have hne := ne_of_at hka hkb
        obtain ⟨x, hx⟩ : ∃ x, x = ps[k] := ⟨_, rfl⟩
        obtain ⟨y, hy⟩ : ∃ x, x = qs[k] := ⟨_, rfl⟩
        rw [← hx] at hpa hT hne
        rw [← hy] at hpb hT hne
        obtain ⟨ad, rfl, a0, a1⟩ := hpa
        obtain ⟨bd, rfl, b0, b1⟩ := hpb
        obtain ⟨x1, x2⟩ := x
        obtain ⟨y1, y2⟩ := y
        simp only at a0 a1 b0 b1
        obtain ⟨s1, hs1⟩ : ∃ x, x = (⟨x1.toArray⟩ : ByteArray) := ⟨_, rfl⟩
        obtain ⟨s2, hs2⟩ : ∃ x, x = (⟨x2.toArray⟩ : ByteArray) := ⟨_, rfl⟩
        obtain ⟨t1, ht1⟩ : ∃ x, x = (⟨y1.toArray⟩ : ByteArray) := ⟨_, rfl⟩
        obtain ⟨t2, ht2⟩ : ∃ x, x = (⟨y2.toArray⟩ : ByteArray) := ⟨_, rfl⟩
        have c1 : (s1.toList == t1.toList) = decide (x1 = y1) := by rw [hs1, ht1, str_cmp]
        have c2 : (s2.toList == t2.toList) = decide (x2 = y2) := by rw [hs2, ht2, str_cmp]
        rw [← hs1] at a0
        rw [← hs2] at a1
        rw [← ht1] at b0
        rw [← ht2] at b1
        have hki : (k : Int) < (na : Int) := by omega
        have hk0 : (0 : Int) ≤ (k : Int) := by omega
        have HT := Lib.hid (And.intro hT (And.intro hne htk))
        clear hT hne htk hs1 hs2 ht1 ht2 hlt hka hkb hx hy
        by_cases h1 : x1 = y1
        · by_cases h2 : x2 = y2
          · have HE := Lib.hid (And.intro h1 h2)
            rw [decide_eq_true h1] at c1
            rw [decide_eq_true h2] at c2
            clear h1 h2
            go_wp2_with fail
            go_quiet (fail)
            go_wp2
            exact ⟨⟨k + 1, by omega, by go_num, HT.out.1.2 ⟨HT.out.2.2, by rw [HE.out.1, HE.out.2]⟩, _, rfl⟩, by simp [intOf]; omega⟩
          · have HE := Lib.hid (HT.out.2.1 (by intro e; exact h2 (Prod.mk.inj e).2))
            rw [decide_eq_true h1] at c1
            rw [decide_eq_false h2] at c2
            clear h1 h2
            go_wp2_with fail
            go_quiet (fail)
            go_wp2
            go_ret
            exact ⟨ret_bool (by rw [decide_eq_false HE.out]), drewN_ex _ _ _⟩
        · have HE := Lib.hid (HT.out.2.1 (by intro e; exact h1 (Prod.mk.inj e).1))
          rw [decide_eq_false h1] at c1
          clear h1 c2
          go_wp2_with fail
          go_quiet (fail)
          go_wp2
          go_ret
          exact ⟨ret_bool (by rw [decide_eq_false HE.out]), drewN_ex _ _ _⟩
      · obtain rfl : k = na := by omega
        have hkk : ¬ (k : Int) < (k : Int) := by omega
        rw [List.take_of_length_le (by have := HA.out.2.2.1; omega), List.take_of_length_le (by have := HA.out.2.2.1; have := HA.out.2.2.2; omega)] at htk
        have HE := Lib.hid htk
        clear htk hlt
        go_wp2
        go_ret
        exact ⟨ret_bool (by rw [decide_eq_true HE.out]), _, rfl⟩
  · have hne : ps ≠ qs := by rintro rfl; exact hab (hna.trans hnb.symm)
    have hni : ¬ (na : Int) = (nb : Int) := by omega
    have HE := Lib.hid hne
    clear hA hB hna hnb hab hl hl2 hne
    go_enter Tryd.func17, Tryd.ntmps17
    go_wp2
    go_ret
    exact ⟨ret_bool (by rw [decide_eq_false HE.out]), 0, rfl⟩

set_option maxRecDepth 4000 in
set_option maxHeartbeats 1600000 in
theorem sameTexts_any (A B : Option Addr) (na nb ca cb : Nat) (ps qs : List (List UInt8)) (w : World) (hA : RV w A (ps.map strV)) (hB : RV w B (qs.map strV)) (hna : na = ps.length) (hnb : nb = qs.length) (hl : na ≤ 1152921504606846976) (hl2 : nb ≤ 1152921504606846976) :
    Calls Tryd.prog 25 #[.slice A na ca, .slice B nb cb] w fun e w' => e = .returned (.bool (decide (ps = qs))) ∧ ∃ d, w' = w.drewN d := by
  by_cases hab : na = nb
  · have HA := Lib.hid (And.intro hA (And.intro hB (And.intro hna (show ps.length = qs.length by omega))))
    have hni : (na : Int) ≤ 1152921504606846976 := by omega
    obtain rfl := hab
    clear hA hB hna hnb hl hl2
    go_enter Tryd.func25, Tryd.ntmps25
    go_wp2
    go_loopw [5] (fun v wr => ∃ k : Nat, k ≤ na ∧ v = .int .i64 k ∧ ps.take k = qs.take k ∧ ∃ d, wr = w.drewN d) (fun v _ => na - (intOf v).toNat)
    case atStart => exact ⟨0, by omega, rfl, by simp, 0, rfl⟩
    case round =>
      obtain ⟨k, hk, rfl, htk, d, rfl⟩ := hrel
      by_cases hlt : k < na
      · have hka : k < ps.length := by have := HA.out.2.2.1; omega
        have hkb : k < qs.length := by have := HA.out.2.2.1; have := HA.out.2.2.2; omega
        have hpa := HA.out.1 k (by rw [List.length_map]; exact hka)
        have hpb := HA.out.2.1 k (by rw [List.length_map]; exact hkb)
        rw [List.getElem_map] at hpa hpb
        have hT := take_eq_succ hka hkb
        have hne := ne_of_at hka hkb
        obtain ⟨x1, hx⟩ : ∃ x, x = ps[k] := ⟨_, rfl⟩
        obtain ⟨y1, hy⟩ : ∃ x, x = qs[k] := ⟨_, rfl⟩
        rw [← hx] at hpa hT hne
        rw [← hy] at hpb hT hne
        obtain ⟨ad, rfl, a0⟩ := hpa
        obtain ⟨bd, rfl, b0⟩ := hpb
        unfold strV at a0 b0
        obtain ⟨s1, hs1⟩ : ∃ x, x = (⟨x1.toArray⟩ : ByteArray) := ⟨_, rfl⟩
        obtain ⟨t1, ht1⟩ : ∃ x, x = (⟨y1.toArray⟩ : ByteArray) := ⟨_, rfl⟩
        have c1 : (s1.toList == t1.toList) = decide (x1 = y1) := by rw [hs1, ht1, str_cmp]
        rw [← hs1] at a0
        rw [← ht1] at b0
        have hki : (k : Int) < (na : Int) := by omega
        have hk0 : (0 : Int) ≤ (k : Int) := by omega
        have HT := Lib.hid (And.intro hT (And.intro hne htk))
        clear hT hne htk hs1 ht1 hlt hka hkb hx hy
        by_cases h1 : x1 = y1
        · have HE := Lib.hid h1
          rw [decide_eq_true h1] at c1
          clear h1
          go_wp2_with fail
          go_quiet (fail)
          go_wp2
          exact ⟨⟨k + 1, by omega, by go_num, HT.out.1.2 ⟨HT.out.2.2, HE.out⟩, _, rfl⟩, by simp [intOf]; omega⟩
        · have HE := Lib.hid (HT.out.2.1 h1)
          rw [decide_eq_false h1] at c1
          clear h1
          go_wp2_with fail
          go_quiet (fail)
          go_wp2
          go_ret
          exact ⟨ret_bool (by rw [decide_eq_false HE.out]), drewN_ex _ _ _⟩
      · obtain rfl : k = na := by omega
        have hkk : ¬ (k : Int) < (k : Int) := by omega
        rw [List.take_of_length_le (by have := HA.out.2.2.1; omega), List.take_of_length_le (by have := HA.out.2.2.1; have := HA.out.2.2.2; omega)] at htk
        have HE := Lib.hid htk
        clear htk hlt
        go_wp2
        go_ret
        exact ⟨ret_bool (by rw [decide_eq_true HE.out]), _, rfl⟩
  · have hne : ps ≠ qs := by rintro rfl; exact hab (hna.trans hnb.symm)
    have hni : ¬ (na : Int) = (nb : Int) := by omega
    have HE := Lib.hid hne
    clear hA hB hna hnb hab hl hl2 hne
    go_enter Tryd.func25, Tryd.ntmps25
    go_wp2
    go_ret
    exact ⟨ret_bool (by rw [decide_eq_false HE.out]), 0, rfl⟩
end Go.Proofs.YtompcngeikjfiaaDoor.Uri
