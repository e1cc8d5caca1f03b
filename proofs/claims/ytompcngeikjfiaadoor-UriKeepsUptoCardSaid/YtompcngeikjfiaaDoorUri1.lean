/- uri: hex digits, plain bytes: the program's and the reference's. -/
import Derived.Test.YtompcngeikjfiaaDoorUriPure
import Derived.Test.YtompcngeikjfiaaDoorLaws
import Derived.Test.YtompcngeikjfiaaDoorProg
import Derived.Test.YtompcngeikjfiaaDoorQuiet
import Derived.Test.YtompcngeikjfiaaDoorByteRow
namespace Go.Proofs.YtompcngeikjfiaaDoor.Uri
open Go.RowKit Go.Proofs.YtompcngeikjfiaaDoor.Mem Go.Proofs.YtompcngeikjfiaaDoor.Seal
set_option linter.unusedVariables false

theorem E8 : Elt Tryd.prog 53 5 [.int .u8 0] 1 := Elt.mk1 Tryd.underlying53 (by kernel_rfl) rfl

set_option maxHeartbeats 1000000 in
theorem hex_any (c : UInt8) (w : World) :
    Calls Tryd.prog 30 #[.int .u8 (c.toNat : Int)] w fun e w' => e = .returned (.int .i64 (hexZ c.toNat)) ∧ w = w' := by
  obtain ⟨x, hx⟩ : ∃ x, x = c.toNat := ⟨_, rfl⟩
  have hxl : x < 256 := hx ▸ c.toNat_lt
  rw [← hx]
  have hxi : (x : Int) ≤ 255 := by omega
  have hx0 : (0 : Int) ≤ (x : Int) := by omega
  clear hx
  by_cases h1 : 48 ≤ x
  · by_cases h2 : x ≤ 57
    · have e : hexZ x = (x : Int) - 48 := by unfold hexZ; rw [hexN_a h1 h2, if_neg (by omega)]; omega
      have i1 : (48 : Int) ≤ (x : Int) := by omega
      have i2 : (x : Int) ≤ 57 := by omega
      rw [e]
      go_enter Tryd.func30, Tryd.ntmps30
      go_wp2
      go_ret
      exact ⟨ret_int (by omega), rfl⟩
    · have i1 : (48 : Int) ≤ (x : Int) := by omega
      have i2 : 57 < (x : Int) := by omega
      by_cases h3 : 97 ≤ x
      · have i3 : (97 : Int) ≤ (x : Int) := by omega
        by_cases h4 : x ≤ 102
        · have e : hexZ x = (x : Int) - 97 + 10 := by unfold hexZ; rw [hexN_b h3 h4, if_neg (by omega)]; omega
          have i4 : (x : Int) ≤ 102 := by omega
          rw [e]
          go_enter Tryd.func30, Tryd.ntmps30
          go_wp2
          go_ret
          exact ⟨ret_int (by omega), rfl⟩
        · have e : hexZ x = -1 := by unfold hexZ; rw [hexN_d (by omega) (by omega) (by omega), if_pos rfl]
          have i4 : 102 < (x : Int) := by omega
          have i5 : (65 : Int) ≤ (x : Int) := by omega
          have i6 : 70 < (x : Int) := by omega
          rw [e]
          go_enter Tryd.func30, Tryd.ntmps30
          go_wp2
          go_ret
          exact ⟨rfl, rfl⟩
      · have i3 : (x : Int) < 97 := by omega
        by_cases h5 : 65 ≤ x
        · have i5 : (65 : Int) ≤ (x : Int) := by omega
          by_cases h6 : x ≤ 70
          · have e : hexZ x = (x : Int) - 65 + 10 := by unfold hexZ; rw [hexN_c h5 h6, if_neg (by omega)]; omega
            have i6 : (x : Int) ≤ 70 := by omega
            rw [e]
            go_enter Tryd.func30, Tryd.ntmps30
            go_wp2
            go_ret
            exact ⟨ret_int (by omega), rfl⟩
          · have e : hexZ x = -1 := by unfold hexZ; rw [hexN_d (by omega) (by omega) (by omega), if_pos rfl]
            have i6 : 70 < (x : Int) := by omega
            rw [e]
            go_enter Tryd.func30, Tryd.ntmps30
            go_wp2
            go_ret
            exact ⟨rfl, rfl⟩
        · have i5 : (x : Int) < 65 := by omega
          have e : hexZ x = -1 := by unfold hexZ; rw [hexN_d (by omega) (by omega) (by omega), if_pos rfl]
          rw [e]
          go_enter Tryd.func30, Tryd.ntmps30
          go_wp2
          go_ret
          exact ⟨rfl, rfl⟩
  · have i1 : (x : Int) < 48 := by omega
    have i3 : (x : Int) < 97 := by omega
    have i5 : (x : Int) < 65 := by omega
    have e : hexZ x = -1 := by unfold hexZ; rw [hexN_d (by omega) (by omega) (by omega), if_pos rfl]
    rw [e]
    go_enter Tryd.func30, Tryd.ntmps30
    go_wp2
    go_ret
    exact ⟨rfl, rfl⟩

set_option maxHeartbeats 1000000 in
theorem plain_any (c : UInt8) (w : World) :
    Calls Tryd.prog 31 #[.int .u8 (c.toNat : Int)] w fun e w' => e = .returned (.bool (plainB c.toNat)) ∧ w = w' := by
  obtain ⟨x, hx⟩ : ∃ x, x = c.toNat := ⟨_, rfl⟩
  have hxl : x < 256 := hx ▸ c.toNat_lt
  rw [← hx]
  have e : plainB x = ((decide (97 ≤ (x : Int)) && decide ((x : Int) ≤ 122)) || (decide (65 ≤ (x : Int)) && decide ((x : Int) ≤ 90)) || (decide (48 ≤ (x : Int)) && decide ((x : Int) ≤ 57)) || decide ((x : Int) = 45) || decide ((x : Int) = 46) || decide ((x : Int) = 95) || decide ((x : Int) = 126)) := by
    have d1 : ∀ a : Nat, decide (a ≤ x) = decide ((a : Int) ≤ (x : Int)) := fun a => by rw [decide_eq_decide]; omega
    have d2 : ∀ a : Nat, decide (x ≤ a) = decide ((x : Int) ≤ (a : Int)) := fun a => by rw [decide_eq_decide]; omega
    have d3 : ∀ a : Nat, (x == a) = decide ((x : Int) = (a : Int)) := fun a => by rw [Bool.eq_iff_iff]; simp; omega
    unfold plainB
    rw [d1, d1, d1, d2, d2, d2, d3, d3, d3, d3]
    rfl
  have HE := Lib.hid e
  clear hx hxl e
  go_enter Tryd.func31, Tryd.ntmps31
  go_wp2
  all_goals
    go_ret
    refine ⟨ret_bool ?_, rfl⟩
    rw [HE.out, Bool.eq_iff_iff]
    clear HE
    simp only [Bool.or_eq_true, Bool.and_eq_true, decide_eq_true_eq, beq_iff_eq, true_iff] at *
    omega
set_option maxHeartbeats 1000000 in
theorem rplain_any (c : UInt8) (w : World) :
    Calls Tryd.prog 34 #[.int .u8 (c.toNat : Int)] w fun e w' => e = .returned (.bool (plainB c.toNat)) ∧ w = w' := by
  obtain ⟨x, hx⟩ : ∃ x, x = c.toNat := ⟨_, rfl⟩
  have hxl : x < 256 := hx ▸ c.toNat_lt
  rw [← hx]
  have e : plainB x = ((decide (97 ≤ (x : Int)) && decide ((x : Int) ≤ 122)) || (decide (65 ≤ (x : Int)) && decide ((x : Int) ≤ 90)) || (decide (48 ≤ (x : Int)) && decide ((x : Int) ≤ 57)) || decide ((x : Int) = 45) || decide ((x : Int) = 46) || decide ((x : Int) = 95) || decide ((x : Int) = 126)) := by
    have d1 : ∀ a : Nat, decide (a ≤ x) = decide ((a : Int) ≤ (x : Int)) := fun a => by rw [decide_eq_decide]; omega
    have d2 : ∀ a : Nat, decide (x ≤ a) = decide ((x : Int) ≤ (a : Int)) := fun a => by rw [decide_eq_decide]; omega
    have d3 : ∀ a : Nat, (x == a) = decide ((x : Int) = (a : Int)) := fun a => by rw [Bool.eq_iff_iff]; simp; omega
    unfold plainB
    rw [d1, d1, d1, d2, d2, d2, d3, d3, d3, d3]
    rfl
  have HE := Lib.hid e
  clear hx hxl e
  go_enter Tryd.func34, Tryd.ntmps34
  go_wp2
  all_goals
    go_ret
    refine ⟨ret_bool ?_, rfl⟩
    rw [HE.out, Bool.eq_iff_iff]
    clear HE
    simp only [Bool.or_eq_true, Bool.and_eq_true, decide_eq_true_eq, beq_iff_eq, true_iff] at *
    omega

theorem run_str (L : List UInt8) (k : IntKind) (i : Nat) (hi : i < L.length) (W : World) : (Instr.index 9 (.string ⟨L.toArray⟩) (.int k (i : Int))).run Tryd.prog W = .ok (bv (L.getD i 0)) W := by
  have h1 : (0 : Int) ≤ (i : Int) ∧ (i : Int) < ((⟨L.toArray⟩ : ByteArray).size : Int) := ⟨by omega, by simp [ByteArray.size]; omega⟩
  rw [run_index_string (P := Tryd.prog) (w := W) _ _ _ _ Tryd.underlying9, dif_pos (by exact h1)]
  have e : (⟨L.toArray⟩ : ByteArray)[(i : Int).toNat]'(by have := h1.2; simp only [Int.toNat_natCast]; omega) = L.getD i 0 := by
    show L.toArray[(i : Int).toNat]'(by simpa using hi) = _
    simp [List.getD_eq_getElem?_getD, hi]
  rw [e]
/-- the digits that the reference looks through -/
def digsL : List UInt8 := [48, 49, 50, 51, 52, 53, 54, 55, 56, 57, 97, 98, 99, 100, 101, 102]
def digsU : List UInt8 := [48, 49, 50, 51, 52, 53, 54, 55, 56, 57, 65, 66, 67, 68, 69, 70]
theorem digs_fact {c i : Nat} (hc : c < 256) (hi : i < 16) : ((digsL.getD i 0).toNat = c ∨ (digsU.getD i 0).toNat = c) ↔ hexN c = i := by
  have h : ((List.range 256).all fun c => (List.range 16).all fun i => decide (((digsL.getD i 0).toNat = c ∨ (digsU.getD i 0).toNat = c) ↔ hexN c = i)) = true := by decide +kernel
  exact of_decide_eq_true (below (below h hc) hi)
set_option maxHeartbeats 1000000 in
theorem digit_any (c : UInt8) (w : World) :
    Calls Tryd.prog 29 #[.int .u8 (c.toNat : Int)] w fun e w' => e = .returned (.int .i64 (hexZ c.toNat)) ∧ w = w' := by
  obtain ⟨x, hx⟩ : ∃ x, x = c.toNat := ⟨_, rfl⟩
  have hxl : x < 256 := hx ▸ c.toNat_lt
  rw [← hx]
  have hxi : (x : Int) ≤ 255 := by omega
  clear hx
  have HX := Lib.hid hxl
  clear hxl
  go_enter Tryd.func29, Tryd.ntmps29
  go_wp2_with fail
  go_loop [5] (fun v => ∃ i : Nat, i ≤ 16 ∧ v = .int .i64 i ∧ ∀ j, j < i → hexN x ≠ j) (fun v => 16 - (intOf v).toNat)
  case atStart => exact ⟨0, by omega, rfl, fun j hj => by omega⟩
  case round =>
    obtain ⟨i, hi, rfl, hno⟩ := hrel
    have HN := Lib.hid hno
    clear hno
    by_cases hlt : i < 16
    · have hf := digs_fact HX.out hlt
      obtain ⟨p, hp⟩ : ∃ p, p = digsL.getD i 0 := ⟨_, rfl⟩
      obtain ⟨q, hq⟩ : ∃ q, q = digsU.getD i 0 := ⟨_, rfl⟩
      rw [← hp, ← hq] at hf
      have hxz : hexN x = i → hexZ x = (i : Int) := fun h => by unfold hexZ; rw [h, if_neg (by omega)]
      have kc1 := fun W => run_str digsL .i64 i hlt W
      have kc2 := fun W => run_str digsU .i64 i hlt W
      rw [← hp] at kc1
      rw [← hq] at kc2
      have HF := Lib.hid (And.intro hf hxz)
      have hii : (i : Int) < 16 := by omega
      unfold digsL at kc1
      unfold digsU at kc2
      clear hf hxz hp hq hlt
      by_cases h1 : p.toNat = x
      · have h1i : ((p.toNat : Int) == (x : Int)) = true := by simp; omega
        have H1 := Lib.hid (HF.out.2 (HF.out.1.1 (.inl h1)))
        clear h1
        go_wp2_with fail
        go_ret
        rw [H1.out]
        exact ⟨rfl, rfl⟩
      · have h1i : ((p.toNat : Int) == (x : Int)) = false := by simp; omega
        by_cases h2 : q.toNat = x
        · have h2i : ((q.toNat : Int) == (x : Int)) = true := by simp; omega
          have H1 := Lib.hid (HF.out.2 (HF.out.1.1 (.inr h2)))
          clear h1 h2
          go_wp2_with fail
          go_ret
          rw [H1.out]
          exact ⟨rfl, rfl⟩
        · have h2i : ((q.toNat : Int) == (x : Int)) = false := by simp; omega
          have H1 := Lib.hid (fun h => (HF.out.1.2 h).elim h1 h2 : hexN x ≠ i)
          clear h1 h2
          go_wp2_with fail
          refine ⟨⟨i + 1, by omega, by go_num, fun j hj => ?_⟩, by simp [intOf]; omega⟩
          by_cases hji : j < i
          · exact HN.out j hji
          · obtain rfl : j = i := by omega
            exact H1.out
    · obtain rfl : i = 16 := by omega
      have he : hexZ x = -1 := by
        unfold hexZ
        rw [if_pos]
        have := hexN_le x
        have h1 := HN.out (hexN x)
        by_cases hh : hexN x < 16
        · exact absurd rfl (h1 hh)
        · omega
      have HE := Lib.hid he
      clear he hlt
      go_wp2_with fail
      go_ret
      rw [HE.out]
      exact ⟨rfl, rfl⟩
end Go.Proofs.YtompcngeikjfiaaDoor.Uri
