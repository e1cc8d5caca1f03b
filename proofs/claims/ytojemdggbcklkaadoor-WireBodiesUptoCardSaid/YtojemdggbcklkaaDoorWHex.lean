/- weirlaw28.hex: a number's digits. -/
import Derived.Test.YtojemdggbcklkaaDoorWBodyP
namespace Go.Proofs.YtojemdggbcklkaaDoor.WireR
open Go.RowKit Go.Proofs.YtojemdggbcklkaaDoor.Mem Go.Proofs.YtojemdggbcklkaaDoor.Wire Go.Proofs.YtojemdggbcklkaaDoor.Strs Go.Proofs.YtojemdggbcklkaaDoor.Heads
set_option linter.unusedVariables false
set_option linter.unusedSimpArgs false
set_option maxRecDepth 4000

def hexT : ByteArray := ⟨#[48, 49, 50, 51, 52, 53, 54, 55, 56, 57, 97, 98, 99, 100, 101, 102]⟩
theorem hex_cuts : ((List.range 16).all fun d => decide ((hexT.extract d (d + 1)).data = #[hexC d])) = true := by decide +kernel
theorem hex_cut {d : Nat} (h : d < 16) : hexT.extract d (d + 1) = ⟨[hexC d].toArray⟩ := by
  have := List.all_eq_true.1 hex_cuts d (List.mem_range.2 h)
  simp only [decide_eq_true_eq] at this
  exact ByteArray.ext this
set_option maxHeartbeats 3200000 in
theorem hex_one (n : Nat) (h : n < 16) (w : World) : Calls Tryd.prog 20 #[.int .i64 n] w fun e w' => e = .returned (.string ⟨[hexC n].toArray⟩) ∧ w = w' := by
  have hi : (n : Int) < 16 := by omega
  have h0 : (0 : Int) ≤ (n : Int) := by omega
  obtain ⟨n1, hn1⟩ : ∃ x, x = n + 1 := ⟨_, rfl⟩
  have e1 : (n : Int) + 1 = (n1 : Int) := by omega
  have m1 : IntKind.i64.wrap (n1 : Int) = (n1 : Int) := by rw [IntKind.wrap_i64]; omega
  have hc := hex_cut h
  rw [← hn1] at hc
  unfold hexT at hc
  obtain ⟨sx, hsx⟩ : ∃ s, s = (⟨[hexC n].toArray⟩ : ByteArray) := ⟨_, rfl⟩
  rw [← hsx] at hc ⊢
  have i1 : (n : Int) ≤ (n1 : Int) := by omega
  have i2 : (n1 : Int) ≤ 16 := by omega
  clear hsx hn1
  go_enter Tryd.func20, Tryd.ntmps20
  go_wp2
  go_ret
  exact ⟨rfl, rfl⟩
set_option maxHeartbeats 3200000 in
theorem hex_any : ∀ (m n : Nat) (w : World), n ≤ m → n ≤ 1152921504606846976 → Calls Tryd.prog 20 #[.int .i64 n] w fun e w' => e = .returned (.string ⟨(hexD n).toArray⟩) ∧ Below w.heap.size w w'
  | m, n, w, hm, hn => by
    by_cases h : n < 16
    · rw [hex_small h]
      exact (hex_one n h w).mono fun e w' ⟨a, b⟩ => ⟨a, by rw [← b]; exact gr w⟩
    · obtain ⟨q, hq⟩ : ∃ q, q = n / 16 := ⟨_, rfl⟩
      obtain ⟨r, hr⟩ : ∃ r, r = n % 16 := ⟨_, rfl⟩
      rw [hex_big h, ← hq, ← hr]
      have d1 : ((n : Int)).tdiv 16 = (q : Int) := by rw [Int.tdiv_eq_ediv_of_nonneg (by omega)]; omega
      have d2 : ((n : Int)) / 16 = (q : Int) := by omega
      have d3 : ((n : Int)).tmod 16 = (r : Int) := by rw [Int.tmod_eq_emod_of_nonneg (by omega)]; omega
      have d4 : ((n : Int)) % 16 = (r : Int) := by omega
      have hi : ¬ (n : Int) < 16 := by omega
      have hw : IntKind.i64.wrap (q : Int) = (q : Int) := by rw [IntKind.wrap_i64]; omega
      have hw2 : IntKind.i64.wrap (r : Int) = (r : Int) := by rw [IntKind.wrap_i64]; omega
      obtain ⟨r1, hr1⟩ : ∃ x, x = r + 1 := ⟨_, rfl⟩
      have e1 : (r : Int) + 1 = (r1 : Int) := by omega
      have m1 : IntKind.i64.wrap (r1 : Int) = (r1 : Int) := by rw [IntKind.wrap_i64]; omega
      have c1 : ∀ w, Calls Tryd.prog 20 #[.int .i64 q] w fun e w' => e = .returned (.string ⟨(hexD q).toArray⟩) ∧ Below w.heap.size w w' := fun w => by
        cases m with
        | zero => omega
        | succ m => exact hex_any m q w (by omega) (by omega)
      have hc := hex_cut (show r < 16 by omega)
      rw [← hr1] at hc
      unfold hexT at hc
      obtain ⟨x, hx⟩ : ∃ x, x = hexD q := ⟨_, rfl⟩
      have hxl : x.length ≤ 1152921504606846977 := by
        rw [hx]
        have := hexD_len 59 q (by have : (16 : Nat) ^ (59 + 1) > 1152921504606846976 := by decide
                                  omega)
        omega
      rw [← hx] at c1 ⊢
      obtain ⟨sx, hsx⟩ : ∃ s, s = (⟨x.toArray⟩ : ByteArray) := ⟨_, rfl⟩
      obtain ⟨sy, hsy⟩ : ∃ s, s = (⟨[hexC r].toArray⟩ : ByteArray) := ⟨_, rfl⟩
      obtain ⟨sz, hsz⟩ : ∃ s, s = (⟨(x ++ [hexC r]).toArray⟩ : ByteArray) := ⟨_, rfl⟩
      have q1 : sx ++ sy = sz := by rw [hsx, hsy, hsz, ByteArray.mk_append_mk]; try simp
      have n1 : ¬ (9223372036854775807 < sx.size + sy.size) := by rw [hsx, hsy]; simp [ByteArray.size]; omega
      rw [← hsx] at c1
      rw [← hsy] at hc
      rw [← hsz]
      have i0 : (0 : Int) ≤ (r : Int) := by omega
      have i1 : (r : Int) ≤ (r1 : Int) := by omega
      have i2 : (r1 : Int) ≤ 16 := by omega
      have C1 := Lib.hid c1
      clear c1 hx hq hr h hm hsx hsy hsz hxl hr1
      go_enter Tryd.func20, Tryd.ntmps20
      go_upto_region 3 with fail
      try simp only [Act.put, List.setIfInBounds_toArray, List.set_cons_succ, List.set_cons_zero]
      refine wp_region_qb (by kernel_rfl) (by kernel_rfl) ?_
      go_big_quiet_step (fail)
      refine wq_val (o := ⟨some 10, _, _, _, _, _⟩) (v := .int .i64 (q : Int)) rfl (fun w' hC => by go_simp) ?_
      simp only [Act.put, List.setIfInBounds_toArray, List.set_cons_succ, List.set_cons_zero]
      refine wq_call (f := 20) (args := #[.int .i64 (q : Int)]) (v := .string sx) rfl (fun w' _ => by go_simp) (fun w' hC => C1.out w') ?_
      simp only [Act.put, List.setIfInBounds_toArray, List.set_cons_succ, List.set_cons_zero]
      go_big_quiet_step (fail)
      refine wq_val (o := ⟨some 13, _, _, _, _, _⟩) (v := .int .i64 (r : Int)) rfl (fun w' hC => by go_simp) ?_
      simp only [Act.put, List.setIfInBounds_toArray, List.set_cons_succ, List.set_cons_zero]
      go_big_quiet_step (fail)
      refine wq_val (o := ⟨some 15, _, _, _, _, _⟩) (v := .int .i64 (r : Int)) rfl (fun w' hC => by go_simp) ?_
      simp only [Act.put, List.setIfInBounds_toArray, List.set_cons_succ, List.set_cons_zero]
      refine wq_val (o := ⟨some 16, _, _, _, _, _⟩) (v := .int .i64 (r1 : Int)) rfl (fun w' hC => by go_simp) ?_
      simp only [Act.put, List.setIfInBounds_toArray, List.set_cons_succ, List.set_cons_zero]
      refine wq_val (o := ⟨some 17, _, _, _, _, _⟩) (v := .string sy) rfl (fun w' hC => by go_simp) ?_
      simp only [Act.put, List.setIfInBounds_toArray, List.set_cons_succ, List.set_cons_zero]
      refine wq_val (o := ⟨some 18, _, _, _, _, _⟩) (v := .string sz) rfl (fun w' hC => by go_simp) ?_
      simp only [Act.put, List.setIfInBounds_toArray, List.set_cons_succ, List.set_cons_zero]
      go_big_quiet_step (fail)
      refine wpQuiet_nil ?_
      intro w5 h5
      go_wp2
      go_ret
      exact ⟨rfl, h5⟩
end Go.Proofs.YtojemdggbcklkaaDoor.WireR
