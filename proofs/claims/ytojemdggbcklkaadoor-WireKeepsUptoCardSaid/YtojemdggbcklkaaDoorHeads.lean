/- Headers of a request: names alike but for the case of letters; the program's Header, the reference's. -/
import Derived.Test.YtojemdggbcklkaaDoorLaws
import Derived.Test.YtojemdggbcklkaaDoorProg
import Derived.Test.YtojemdggbcklkaaDoorQuiet
import Derived.Test.YtojemdggbcklkaaDoorByteRow
import Derived.Test.YtojemdggbcklkaaDoorWPure
namespace Go.Proofs.YtojemdggbcklkaaDoor.Heads
open Go.RowKit Go.Proofs.YtojemdggbcklkaaDoor.Mem Go.Proofs.YtojemdggbcklkaaDoor.Seal
set_option linter.unusedVariables false
set_option linter.unusedSimpArgs false

def HD.cells (h : HD) : List Value := [.string ⟨h.1.toArray⟩, .string ⟨h.2.toArray⟩]
/-! ### The walks -/
set_option maxHeartbeats 1000000 in
theorem small_any (c : UInt8) (w : World) :
    Calls Tryd.prog 71 #[.int .u8 (c.toNat : Int)] w fun e w' => e = .returned (.int .u8 ((lowB c).toNat : Int)) ∧ w = w' := by
  obtain ⟨x, hx⟩ : ∃ x, x = c.toNat := ⟨_, rfl⟩
  have hxl : x < 256 := hx ▸ c.toNat_lt
  rw [lowB_toNat, ← hx]
  have hxi : (x : Int) ≤ 255 := by omega
  clear hx
  by_cases h1 : 65 ≤ x
  · by_cases h2 : x ≤ 90
    · have e : lowN x = x + 32 := by unfold lowN; rw [if_pos ⟨h1, h2⟩]
      have i1 : (65 : Int) ≤ (x : Int) := by omega
      have i2 : (x : Int) ≤ 90 := by omega
      rw [e]
      go_enter Tryd.func71, Tryd.ntmps71
      go_wp2
      go_ret
      exact ⟨ret_int (by omega), rfl⟩
    · have e : lowN x = x := by unfold lowN; rw [if_neg (by omega)]
      have i1 : (65 : Int) ≤ (x : Int) := by omega
      have i2 : 90 < (x : Int) := by omega
      rw [e]
      go_enter Tryd.func71, Tryd.ntmps71
      go_wp2
      go_ret
      exact ⟨rfl, rfl⟩
  · have e : lowN x = x := by unfold lowN; rw [if_neg (by omega)]
    have i1 : (x : Int) < 65 := by omega
    rw [e]
    go_enter Tryd.func71, Tryd.ntmps71
    go_wp2
    go_ret
    exact ⟨rfl, rfl⟩
set_option maxHeartbeats 1000000 in
theorem lower_any (c : UInt8) (w : World) :
    Calls Tryd.prog 65 #[.int .u8 (c.toNat : Int)] w fun e w' => e = .returned (.int .u8 ((lowB c).toNat : Int)) ∧ w = w' := by
  obtain ⟨x, hx⟩ : ∃ x, x = c.toNat := ⟨_, rfl⟩
  have hxl : x < 256 := hx ▸ c.toNat_lt
  rw [lowB_toNat, ← hx]
  have hxi : (x : Int) ≤ 255 := by omega
  clear hx
  by_cases h1 : 65 ≤ x
  · by_cases h2 : x ≤ 90
    · have e : lowN x = x + 32 := by unfold lowN; rw [if_pos ⟨h1, h2⟩]
      have i1 : (65 : Int) ≤ (x : Int) := by omega
      have i2 : (x : Int) ≤ 90 := by omega
      rw [e]
      go_enter Tryd.func65, Tryd.ntmps65
      go_wp2
      go_ret
      exact ⟨ret_int (by omega), rfl⟩
    · have e : lowN x = x := by unfold lowN; rw [if_neg (by omega)]
      have i1 : (65 : Int) ≤ (x : Int) := by omega
      have i2 : 90 < (x : Int) := by omega
      rw [e]
      go_enter Tryd.func65, Tryd.ntmps65
      go_wp2
      go_ret
      exact ⟨rfl, rfl⟩
  · have e : lowN x = x := by unfold lowN; rw [if_neg (by omega)]
    have i1 : (x : Int) < 65 := by omega
    rw [e]
    go_enter Tryd.func65, Tryd.ntmps65
    go_wp2
    go_ret
    exact ⟨rfl, rfl⟩

theorem low_stepsame {a b : List UInt8} {k : Nat} (ha : k < a.length) (hb : k < b.length) : low (a.take (k + 1)) = low (b.take (k + 1)) ↔ low (a.take k) = low (b.take k) ∧ lowB a[k] = lowB b[k] := by
  unfold low
  rw [take_succ_ ha, take_succ_ hb, List.map_append, List.map_append]
  constructor
  · intro h
    have := List.append_inj' h rfl
    simpa using this
  · rintro ⟨h1, h2⟩
    rw [h1]
    simp [h2]
set_option maxHeartbeats 1000000 in
theorem same_any (a b : List UInt8) (w : World) (hal : a.length ≤ 1073741824) (hbl : b.length ≤ 1073741824) :
    Calls Tryd.prog 56 #[.string ⟨a.toArray⟩, .string ⟨b.toArray⟩] w fun e w' => e = .returned (.bool (decide (low a = low b))) ∧ Below w.heap.size w w' := by
  obtain ⟨n, hn⟩ : ∃ n, n = a.length := ⟨_, rfl⟩
  obtain ⟨m, hm⟩ : ∃ m, m = b.length := ⟨_, rfl⟩
  obtain ⟨s, hs⟩ : ∃ s, s = (⟨a.toArray⟩ : ByteArray) := ⟨_, rfl⟩
  obtain ⟨t, ht⟩ : ∃ t, t = (⟨b.toArray⟩ : ByteArray) := ⟨_, rfl⟩
  have hsz : s.size = n := by rw [hs, hn]; simp [ByteArray.size]
  have htz : t.size = m := by rw [ht, hm]; simp [ByteArray.size]
  have hni : (n : Int) ≤ 1073741824 := by omega
  rw [← hs, ← ht]
  by_cases hl : n = m
  · subst hl
    have HA := Lib.hid (And.intro hn (And.intro hm (And.intro hs ht)))
    clear hn hm hs ht hal hbl
    go_enter Tryd.func56, Tryd.ntmps56
    go_wp2
    go_loopw [5] (fun v wr => ∃ k : Nat, k ≤ n ∧ v = .int .i64 k ∧ low (a.take k) = low (b.take k) ∧ Below w.heap.size w wr) (fun v _ => n - (intOf v).toNat)
    case atStart => exact ⟨0, by omega, rfl, rfl, gr w⟩
    case round =>
      obtain ⟨k, hk, rfl, hlo, hb⟩ := hrel
      by_cases hlt : k < n
      · have hka : k < a.length := by have := HA.out.1; omega
        have hkb : k < b.length := by have := HA.out.2.1; omega
        obtain ⟨x, hx⟩ : ∃ x, x = a[k] := ⟨_, rfl⟩
        obtain ⟨y, hy⟩ : ∃ y, y = b[k] := ⟨_, rfl⟩
        have hks : k < s.size := by omega
        have hkt : k < t.size := by omega
        have hsx : s[k] = x := by
          have : ∀ s' : ByteArray, s' = (⟨a.toArray⟩ : ByteArray) → ∀ h, s'[k]'h = a[k] := fun s' e h => by subst e; rfl
          rw [hx]; exact this s HA.out.2.2.1 hks
        have hty : t[k] = y := by
          have : ∀ s' : ByteArray, s' = (⟨b.toArray⟩ : ByteArray) → ∀ h, s'[k]'h = b[k] := fun s' e h => by subst e; rfl
          rw [hy]; exact this t HA.out.2.2.2 hkt
        have hst := low_stepsame hka hkb
        rw [← hx, ← hy] at hst
        have hki : (k : Int) < (n : Int) := by omega
        have hk0 : (0 : Int) ≤ (k : Int) := by omega
        have HS := Lib.hid (And.intro hst (And.intro hlo hb))
        have HL := Lib.hid (And.intro hka hkb)
        obtain ⟨p, hp⟩ : ∃ p, p = (lowB x).toNat := ⟨_, rfl⟩
        obtain ⟨q, hq⟩ : ∃ q, q = (lowB y).toNat := ⟨_, rfl⟩
        have c1 := Lib.hid (fun W => small_any x W)
        have c2 := Lib.hid (fun W => small_any y W)
        rw [← hp] at c1
        rw [← hq] at c2
        have HP := Lib.hid (And.intro hp hq)
        clear hx hy hst hlo hb hlt hka hkb hp hq
        go_upto_region 6 with fail
        try simp only [Act.put, List.setIfInBounds_toArray, List.set_cons_succ, List.set_cons_zero]
        refine wp_region_qb (by kernel_rfl) (by kernel_rfl) ?_
        go_big_quiet_step (fail)
        go_big_quiet_step (fail)
        refine wq_val (o := ⟨some 19, _, _, _, _, _⟩) (v := .int .u8 (x.toNat : Int)) rfl (fun w' hC => by go_simp) ?_
        simp only [Act.put, List.setIfInBounds_toArray, List.set_cons_succ, List.set_cons_zero]
        refine wq_call (f := 71) (args := #[.int .u8 (x.toNat : Int)]) (v := .int .u8 (p : Int)) rfl (fun w' _ => by go_simp) (fun w' hC => (c1.out w').mono fun e w'' h => ⟨h.1, h.2 ▸ gr w'⟩) ?_
        simp only [Act.put, List.setIfInBounds_toArray, List.set_cons_succ, List.set_cons_zero]
        go_big_quiet_step (fail)
        go_big_quiet_step (fail)
        refine wq_val (o := ⟨some 23, _, _, _, _, _⟩) (v := .int .u8 (y.toNat : Int)) rfl (fun w' hC => by go_simp) ?_
        simp only [Act.put, List.setIfInBounds_toArray, List.set_cons_succ, List.set_cons_zero]
        refine wq_call (f := 71) (args := #[.int .u8 (y.toNat : Int)]) (v := .int .u8 (q : Int)) rfl (fun w' _ => by go_simp) (fun w' hC => (c2.out w').mono fun e w'' h => ⟨h.1, h.2 ▸ gr w'⟩) ?_
        simp only [Act.put, List.setIfInBounds_toArray, List.set_cons_succ, List.set_cons_zero]
        by_cases hpq : p = q
        · have hpi : (p : Int) = (q : Int) := by omega
          refine wq_val (o := ⟨some 25, _, _, _, _, _⟩) (v := .bool false) rfl (fun w' hC => by go_simp) ?_
          simp only [Act.put, List.setIfInBounds_toArray, List.set_cons_succ, List.set_cons_zero]
          refine wpQuiet_nil ?_
          intro w5 h5
          have hb5 := HS.out.2.2.trans (h5.mono HS.out.2.2.size)
          have hlow := HS.out.1.2 ⟨HS.out.2.1, UInt8.toNat_inj.1 (by rw [← HP.out.1, ← HP.out.2]; exact hpq)⟩
          have HF := Lib.hid (And.intro hlow hb5)
          clear h5 hb5 hlow hpq hpi
          go_wp2
          exact ⟨⟨k + 1, by omega, by go_num, HF.out⟩, by simp [intOf]; omega⟩
        · have hpi : ¬ (p : Int) = (q : Int) := by omega
          refine wq_val (o := ⟨some 25, _, _, _, _, _⟩) (v := .bool true) rfl (fun w' hC => by go_simp) ?_
          simp only [Act.put, List.setIfInBounds_toArray, List.set_cons_succ, List.set_cons_zero]
          refine wpQuiet_nil ?_
          intro w5 h5
          have hb5 := HS.out.2.2.trans (h5.mono HS.out.2.2.size)
          have hne : low a ≠ low b := fun h => by
            have h2 := congrArg (List.take (k + 1)) h
            unfold low at h2
            rw [← List.map_take, ← List.map_take] at h2
            have h3 := (HS.out.1.1 h2).2
            exact hpq (by rw [HP.out.1, HP.out.2, h3])
          have HF := Lib.hid (And.intro hne hb5)
          clear h5 hb5 hne hpq hpi
          go_wp2
          go_ret
          exact ⟨ret_bool (by rw [decide_eq_false HF.out.1]), HF.out.2⟩
      · obtain rfl : k = n := by omega
        rw [List.take_of_length_le (by have := HA.out.1; omega), List.take_of_length_le (by have := HA.out.2.1; omega)] at hlo
        have HF := Lib.hid (And.intro hlo hb)
        clear hlo hb hlt
        go_wp2
        go_ret
        exact ⟨ret_bool (by rw [decide_eq_true HF.out.1]), HF.out.2⟩
  · have hne : low a ≠ low b := fun h => by
      have := congrArg List.length h
      unfold low at this
      rw [List.length_map, List.length_map] at this
      omega
    have hli : ¬ (n : Int) = (m : Int) := by omega
    have HF := Lib.hid hne
    clear hne hl hn hm hs ht
    go_enter Tryd.func56, Tryd.ntmps56
    go_wp2
    go_ret
    exact ⟨ret_bool (by rw [decide_eq_false HF.out]), gr w⟩

theorem low_steprsame {a b : List UInt8} {k : Nat} (ha : k < a.length) (hb : k < b.length) : low (a.take (k + 1)) = low (b.take (k + 1)) ↔ low (a.take k) = low (b.take k) ∧ lowB a[k] = lowB b[k] := by
  unfold low
  rw [take_succ_ ha, take_succ_ hb, List.map_append, List.map_append]
  constructor
  · intro h
    have := List.append_inj' h rfl
    simpa using this
  · rintro ⟨h1, h2⟩
    rw [h1]
    simp [h2]
set_option maxHeartbeats 1000000 in
theorem rsame_any (a b : List UInt8) (w : World) (hal : a.length ≤ 1073741824) (hbl : b.length ≤ 1073741824) :
    Calls Tryd.prog 43 #[.string ⟨a.toArray⟩, .string ⟨b.toArray⟩] w fun e w' => e = .returned (.bool (decide (low a = low b))) ∧ Below w.heap.size w w' := by
  obtain ⟨n, hn⟩ : ∃ n, n = a.length := ⟨_, rfl⟩
  obtain ⟨m, hm⟩ : ∃ m, m = b.length := ⟨_, rfl⟩
  obtain ⟨s, hs⟩ : ∃ s, s = (⟨a.toArray⟩ : ByteArray) := ⟨_, rfl⟩
  obtain ⟨t, ht⟩ : ∃ t, t = (⟨b.toArray⟩ : ByteArray) := ⟨_, rfl⟩
  have hsz : s.size = n := by rw [hs, hn]; simp [ByteArray.size]
  have htz : t.size = m := by rw [ht, hm]; simp [ByteArray.size]
  have hni : (n : Int) ≤ 1073741824 := by omega
  rw [← hs, ← ht]
  by_cases hl : n = m
  · subst hl
    have HA := Lib.hid (And.intro hn (And.intro hm (And.intro hs ht)))
    clear hn hm hs ht hal hbl
    go_enter Tryd.func43, Tryd.ntmps43
    go_wp2
    go_loopw [5] (fun v wr => ∃ k : Nat, k ≤ n ∧ v = .int .i64 k ∧ low (a.take k) = low (b.take k) ∧ Below w.heap.size w wr) (fun v _ => n - (intOf v).toNat)
    case atStart => exact ⟨0, by omega, rfl, rfl, gr w⟩
    case round =>
      obtain ⟨k, hk, rfl, hlo, hb⟩ := hrel
      by_cases hlt : k < n
      · have hka : k < a.length := by have := HA.out.1; omega
        have hkb : k < b.length := by have := HA.out.2.1; omega
        obtain ⟨x, hx⟩ : ∃ x, x = a[k] := ⟨_, rfl⟩
        obtain ⟨y, hy⟩ : ∃ y, y = b[k] := ⟨_, rfl⟩
        have hks : k < s.size := by omega
        have hkt : k < t.size := by omega
        have hsx : s[k] = x := by
          have : ∀ s' : ByteArray, s' = (⟨a.toArray⟩ : ByteArray) → ∀ h, s'[k]'h = a[k] := fun s' e h => by subst e; rfl
          rw [hx]; exact this s HA.out.2.2.1 hks
        have hty : t[k] = y := by
          have : ∀ s' : ByteArray, s' = (⟨b.toArray⟩ : ByteArray) → ∀ h, s'[k]'h = b[k] := fun s' e h => by subst e; rfl
          rw [hy]; exact this t HA.out.2.2.2 hkt
        have hst := low_steprsame hka hkb
        rw [← hx, ← hy] at hst
        have hki : (k : Int) < (n : Int) := by omega
        have hk0 : (0 : Int) ≤ (k : Int) := by omega
        have HS := Lib.hid (And.intro hst (And.intro hlo hb))
        have HL := Lib.hid (And.intro hka hkb)
        obtain ⟨p, hp⟩ : ∃ p, p = (lowB x).toNat := ⟨_, rfl⟩
        obtain ⟨q, hq⟩ : ∃ q, q = (lowB y).toNat := ⟨_, rfl⟩
        have c1 := Lib.hid (fun W => lower_any x W)
        have c2 := Lib.hid (fun W => lower_any y W)
        rw [← hp] at c1
        rw [← hq] at c2
        have HP := Lib.hid (And.intro hp hq)
        clear hx hy hst hlo hb hlt hka hkb hp hq
        go_upto_region 6 with fail
        try simp only [Act.put, List.setIfInBounds_toArray, List.set_cons_succ, List.set_cons_zero]
        refine wp_region_qb (by kernel_rfl) (by kernel_rfl) ?_
        go_big_quiet_step (fail)
        go_big_quiet_step (fail)
        refine wq_val (o := ⟨some 19, _, _, _, _, _⟩) (v := .int .u8 (x.toNat : Int)) rfl (fun w' hC => by go_simp) ?_
        simp only [Act.put, List.setIfInBounds_toArray, List.set_cons_succ, List.set_cons_zero]
        refine wq_call (f := 65) (args := #[.int .u8 (x.toNat : Int)]) (v := .int .u8 (p : Int)) rfl (fun w' _ => by go_simp) (fun w' hC => (c1.out w').mono fun e w'' h => ⟨h.1, h.2 ▸ gr w'⟩) ?_
        simp only [Act.put, List.setIfInBounds_toArray, List.set_cons_succ, List.set_cons_zero]
        go_big_quiet_step (fail)
        go_big_quiet_step (fail)
        refine wq_val (o := ⟨some 23, _, _, _, _, _⟩) (v := .int .u8 (y.toNat : Int)) rfl (fun w' hC => by go_simp) ?_
        simp only [Act.put, List.setIfInBounds_toArray, List.set_cons_succ, List.set_cons_zero]
        refine wq_call (f := 65) (args := #[.int .u8 (y.toNat : Int)]) (v := .int .u8 (q : Int)) rfl (fun w' _ => by go_simp) (fun w' hC => (c2.out w').mono fun e w'' h => ⟨h.1, h.2 ▸ gr w'⟩) ?_
        simp only [Act.put, List.setIfInBounds_toArray, List.set_cons_succ, List.set_cons_zero]
        by_cases hpq : p = q
        · have hpi : (p : Int) = (q : Int) := by omega
          refine wq_val (o := ⟨some 25, _, _, _, _, _⟩) (v := .bool false) rfl (fun w' hC => by go_simp) ?_
          simp only [Act.put, List.setIfInBounds_toArray, List.set_cons_succ, List.set_cons_zero]
          refine wpQuiet_nil ?_
          intro w5 h5
          have hb5 := HS.out.2.2.trans (h5.mono HS.out.2.2.size)
          have hlow := HS.out.1.2 ⟨HS.out.2.1, UInt8.toNat_inj.1 (by rw [← HP.out.1, ← HP.out.2]; exact hpq)⟩
          have HF := Lib.hid (And.intro hlow hb5)
          clear h5 hb5 hlow hpq hpi
          go_wp2
          exact ⟨⟨k + 1, by omega, by go_num, HF.out⟩, by simp [intOf]; omega⟩
        · have hpi : ¬ (p : Int) = (q : Int) := by omega
          refine wq_val (o := ⟨some 25, _, _, _, _, _⟩) (v := .bool true) rfl (fun w' hC => by go_simp) ?_
          simp only [Act.put, List.setIfInBounds_toArray, List.set_cons_succ, List.set_cons_zero]
          refine wpQuiet_nil ?_
          intro w5 h5
          have hb5 := HS.out.2.2.trans (h5.mono HS.out.2.2.size)
          have hne : low a ≠ low b := fun h => by
            have h2 := congrArg (List.take (k + 1)) h
            unfold low at h2
            rw [← List.map_take, ← List.map_take] at h2
            have h3 := (HS.out.1.1 h2).2
            exact hpq (by rw [HP.out.1, HP.out.2, h3])
          have HF := Lib.hid (And.intro hne hb5)
          clear h5 hb5 hne hpq hpi
          go_wp2
          go_ret
          exact ⟨ret_bool (by rw [decide_eq_false HF.out.1]), HF.out.2⟩
      · obtain rfl : k = n := by omega
        rw [List.take_of_length_le (by have := HA.out.1; omega), List.take_of_length_le (by have := HA.out.2.1; omega)] at hlo
        have HF := Lib.hid (And.intro hlo hb)
        clear hlo hb hlt
        go_wp2
        go_ret
        exact ⟨ret_bool (by rw [decide_eq_true HF.out.1]), HF.out.2⟩
  · have hne : low a ≠ low b := fun h => by
      have := congrArg List.length h
      unfold low at this
      rw [List.length_map, List.length_map] at this
      omega
    have hli : ¬ (n : Int) = (m : Int) := by omega
    have HF := Lib.hid hne
    clear hne hl hn hm hs ht
    go_enter Tryd.func43, Tryd.ntmps43
    go_wp2
    go_ret
    exact ⟨ret_bool (by rw [decide_eq_false HF.out]), gr w⟩
end Go.Proofs.YtojemdggbcklkaaDoor.Heads
