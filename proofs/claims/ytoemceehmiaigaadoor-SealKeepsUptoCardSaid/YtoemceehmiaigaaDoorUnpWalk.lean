/- A claim's payload: the program's Unpack, the reference's Pack and Unpack. -/
import Derived.Test.YtoemceehmiaigaaDoorPackWalk
namespace Go.Proofs.YtoemceehmiaigaaDoor.Seal
open Go.RowKit Go.Proofs.YtoemceehmiaigaaDoor.Mem Go.Proofs.YtoemceehmiaigaaDoor.Loan
set_option linter.unusedVariables false

def claimV (z : Int) (p : List UInt8) : Value := .agg #[.int .i64 z, .string ⟨p.toArray⟩]
theorem wrap_toI {n : Nat} (h : n < 18446744073709551616) : IntKind.i64.wrap (n : Int) = toI n := by
  have e : (n : Int) % 18446744073709551616 = (n : Int) := Int.emod_eq_of_lt (by omega) (by omega)
  simp only [IntKind.wrap, IntKind.bits, IntKind.signed, if_true]
  unfold toI
  simp [e]
  split <;> split <;> omega
theorem num_take {b : List UInt8} {k : Nat} (h : k < b.length) : num (b.take (k + 1)) = num (b.take k) * 256 + b[k].toNat := by
  rw [List.take_succ_eq_append_getElem h, num_snoc]
theorem or8u (X : Nat) (c : UInt8) (hX : X < 72057594037927936) : bits .or .u64 ((X : Int) * 256) (c.toNat : Int) = ((X * 256 + c.toNat : Nat) : Int) := by
  have hc := c.toNat_lt
  have h1 : ((X : Int) * 256) = ((X * 256 : Nat) : Int) := by simp only [Int.natCast_mul]; rfl
  rw [h1, u64_or_nat _ _ (by omega) (by omega), nat_join 8 _ _ (by omega) (by omega)]

set_option maxHeartbeats 1600000 in
theorem unpack_any (A : Option Addr) (c n : Nat) (b : List UInt8) (w : World) (ha : RB w A b) (hn : n = b.length) (hc : n ≤ c) (hl : c ≤ maxLen) :
    Calls Tryd.prog 43 #[.slice A n c] w fun e w' => e = .returned (.tuple #[claimV (unZ b) (unP b), .int .i64 (unE b)]) ∧ Below w.heap.size w w' := by
  unfold maxLen at hl
  have hci : (c : Int) ≤ 9223372036854775807 := by omega
  have hnc : (n : Int) ≤ (c : Int) := by omega
  have hn0 : (0 : Int) ≤ (n : Int) := by omega
  have HA := Lib.hid (And.intro ha hn)
  clear ha hn
  by_cases h8 : n < 8
  · have hr := Lib.hid (show unZ b = 0 ∧ unP b = [] ∧ unE b = 53 by have := HA.out.2; unfold unZ unP unE; rw [if_pos (by omega), if_pos (by omega), if_pos (by omega)]; exact ⟨rfl, rfl, rfl⟩)
    have h8i : (n : Int) < 8 := by omega
    rw [hr.out.1, hr.out.2.1, hr.out.2.2]
    go_enter Tryd.func43, Tryd.ntmps43
    go_wp2
    refine bodyPost_ret (v := .tuple #[claimV 0 [], .int .i64 53]) (by simp [results, Tryd.results43, go_sem, claimV]) rfl ⟨rfl, ?_⟩
    first
    | exact ga (gr w) _
    | exact gs (gs (ga (gr w) _) (by simp) _) (by simp) _
  · by_cases hL : 1032 < n
    · have hr := Lib.hid (show unZ b = 0 ∧ unP b = [] ∧ unE b = 1 by have := HA.out.2; unfold unZ unP unE; rw [if_neg (by omega), if_pos (by omega), if_neg (by omega), if_pos (by omega), if_neg (by omega), if_pos (by omega)]; exact ⟨rfl, rfl, rfl⟩)
      have h8i : (8 : Int) ≤ (n : Int) := by omega
      have hLi : 1024 < (n : Int) - 8 := by omega
      rw [hr.out.1, hr.out.2.1, hr.out.2.2]
      go_enter Tryd.func43, Tryd.ntmps43
      go_wp2
      refine bodyPost_ret (v := .tuple #[claimV 0 [], .int .i64 1]) (by simp [results, Tryd.results43, go_sem, claimV]) rfl ⟨rfl, ?_⟩
      first
      | exact ga (gr w) _
      | exact gs (gs (ga (gr w) _) (by simp) _) (by simp) _
    · have hr := Lib.hid (show unZ b = toI (num (b.take 8)) ∧ unP b = b.drop 8 ∧ unE b = 0 by have := HA.out.2; unfold unZ unP unE; rw [if_neg (by omega), if_neg (by omega), if_neg (by omega), if_neg (by omega), if_neg (by omega), if_neg (by omega)]; exact ⟨rfl, rfl, rfl⟩)
      have h8i : (8 : Int) ≤ (n : Int) := by omega
      have h8c : (8 : Int) ≤ (c : Int) := by omega
      have h8n : 8 ≤ n := by omega
      have hLi : (n : Int) - 8 ≤ 1024 := by omega
      rw [hr.out.1, hr.out.2.1, hr.out.2.2]
      obtain ⟨ad, hA, hx0⟩ := HA.out.1 0 (by have := HA.out.2; omega)
      clear hx0
      subst hA
      have hB8 := HA.out.1.drop 8 ad rfl
      have hA2 : ∃ A2 : Addr, A2 = (if c = 8 then ad else ad.add 8) ∧ RB w (some A2) (b.drop 8) := by
        refine ⟨_, rfl, ?_⟩
        by_cases h : c = 8
        · have : b.drop 8 = [] := List.drop_of_length_le (by have := HA.out.2; omega)
          rw [this]; exact RB.nil _ _
        · rw [if_neg h]; exact hB8
      obtain ⟨A2, hA2, hR2⟩ := hA2
      have HR := Lib.hid (And.intro hA2 hR2)
      clear hB8 hA2 hR2 h8 hL
      go_enter Tryd.func43, Tryd.ntmps43
      go_upto_region 5 with fail
      generalize hH : w.heap.size = H at *
      obtain ⟨w1, hw1⟩ : ∃ x, x = w.alloc (.cells #[.int .i64 0, .string { data := #[] }] 72) := ⟨_, rfl⟩
      rw [← hw1]
      have hw : Below H w w1 := by rw [hw1, ← hH]; exact ga (gr w) _
      have hB1 : Blk w1 H 72 [.int .i64 0, .string { data := #[] }] := by rw [hw1, ← hH]; exact Blk.new w _ _
      have HX := Lib.hid (And.intro hB1 (And.intro (HA.out.1.below (hH ▸ hw)) (And.intro (HR.out.2.below (hH ▸ hw)) hw)))
      clear hw hB1 hw1
      try simp only [Act.put, List.setIfInBounds_toArray, List.set_cons_succ, List.set_cons_zero]
      refine wp_region_qb (by kernel_rfl) (by kernel_rfl) ?_
      go_big_quiet_step (fail)
      refine wq_val (o := ⟨some 19, _, _, _, _, _⟩) (v := .slice (some ad) 8 8) rfl (fun w' hC => by go_simp) ?_
      simp only [Act.put, List.setIfInBounds_toArray, List.set_cons_succ, List.set_cons_zero]
      go_big_quiet_step (fail)
      refine wq_val (o := ⟨some 21, _, _, _, _, _⟩) (v := .slice (some A2) (n - 8) (c - 8)) rfl (fun w' hC => by have e := HR.out.1; by_cases hc8 : c = 8 <;> simp only [hc8, if_true, if_false] at e <;> subst e <;> go_simp) ?_
      simp only [Act.put, List.setIfInBounds_toArray, List.set_cons_succ, List.set_cons_zero]
      go_big_quiet_step (fail)
      go_big_quiet_step (fail)
      refine wpQuiet_nil ?_
      intro w2 h2
      have hw2 := HX.out.2.2.2.trans (h2.mono (hH ▸ HX.out.2.2.2.size))
      replace HX := Lib.hid (And.intro (HX.out.1.grow h2) (And.intro (HX.out.2.1.below h2) (And.intro (HX.out.2.2.1.below h2) hw2)))
      clear h2 hw2
      go_wp2_with fail
      go_loop [6, 24] (fun v6 v24 => ∃ k : Nat, k ≤ 8 ∧ v24 = .int .i64 k ∧ v6 = .int .u64 (num (b.take k) : Int)) (fun _ v => 8 - (intOf v).toNat)
      case atStart => exact ⟨0, by omega, rfl, rfl⟩
      case round =>
        obtain ⟨k, hk, rfl, rfl⟩ := hrel
        obtain ⟨X, hX⟩ : ∃ X, X = num (b.take k) := ⟨_, rfl⟩
        rw [← hX]
        by_cases hlt : k < 8
        · have hkb : k < b.length := by have := HA.out.2; omega
          have hXb : X < 72057594037927936 := by
            have := num_lt (b.take k)
            rw [List.length_take, Nat.min_eq_left (by omega), ← hX] at this
            have h2 : 256 ^ k ≤ 256 ^ 7 := Nat.pow_le_pow_right (by omega) (by omega)
            omega
          obtain ⟨x, hx⟩ : ∃ x, x = b[k] := ⟨_, rfl⟩
          obtain ⟨ad', hA', cc⟩ := HX.out.2.1 k hkb
          injection hA' with hA'
          subst hA'
          rw [← hx] at cc
          have hn := num_take hkb
          rw [← hX, ← hx] at hn
          have HN := Lib.hid hn
          have hor := or8u X x hXb
          obtain ⟨Y, hY⟩ : ∃ Y, Y = X * 256 + x.toNat := ⟨_, rfl⟩
          rw [← hY] at hor hn
          have HY := Lib.hid hn
          have hki : (k : Int) < 8 := by omega
          have hk0 : (0 : Int) ≤ (k : Int) := by omega
          have hX1 : (X : Int) ≤ 72057594037927935 := by omega
          have hx8 : (x.toNat : Int) ≤ 255 := by have := x.toNat_lt; omega
          have hx0 : (0 : Int) ≤ (x.toNat : Int) := by omega
          clear hn hX hx hY hlt
          go_wp2
          exact ⟨⟨k + 1, by omega, by go_num, by rw [HY.out]⟩, by simp [intOf]; omega⟩
        · obtain rfl : k = 8 := by omega
          have hXb : X < 18446744073709551616 := by
            have := num_lt (b.take 8)
            rw [List.length_take, Nat.min_eq_left (by have := HA.out.2; omega), ← hX] at this
            exact this
          have hwr := wrap_toI hXb
          obtain ⟨I, hI⟩ : ∃ I, I = toI X := ⟨_, rfl⟩
          rw [← hI] at hwr
          have hln : (b.drop 8).length = n - 8 := by rw [List.length_drop, ← HA.out.2]
          have hcv := conv_rb (P := Tryd.prog) (src := 32) (dst := 9) Tryd.underlying32 Tryd.underlying5 Tryd.underlying9 HX.out.2.2.1 (c - 8)
          rw [hln] at hcv
          have c0 := HX.out.1.cell 0
          have c1 := HX.out.1.cell 1
          have f0 := HX.out.1.frozen 0
          have f1 := HX.out.1.frozen 1
          simp only [List.getElem?_cons_succ, List.getElem?_cons_zero] at c0 c1
          have HI := Lib.hid (And.intro hI hX)
          clear hI hX hln hXb hlt hk
          go_wp2
          refine bodyPost_ret (v := .tuple #[claimV I (b.drop 8), .int .i64 0]) (by simp [results, Tryd.results43, go_sem, claimV, c0, c1]) rfl ⟨by rw [HI.out.1, HI.out.2], ?_⟩
          exact (HX.out.2.2.2.setCell (Nat.le_refl _) _).setCell (Nat.le_refl _) _

theorem own_base {w : World} {B B' n size : Nat} {T : TypeId} {v : Value} {xs : List Value} (h : w.ownsRow B T size v n xs) (hB : B' ≤ B) : w.ownsRow B' T size v n xs :=
  ⟨h.1, h.2.imp id fun ⟨g, cap, cur, a, b, c⟩ => ⟨g, cap, cur, a, Nat.le_trans hB b, c⟩⟩
theorem drop_bes (X i : Nat) (h : i < 8) : byt (X / 256 ^ (7 - i) % 256) :: (bes 8 X).drop (i + 1) = (bes 8 X).drop i := by
  have hg := bes_get 8 X i h
  have hl : i < (bes 8 X).length := by rw [bes_length]; exact h
  rw [List.getElem?_eq_getElem hl] at hg
  rw [List.drop_eq_getElem_cons hl, Option.some.inj hg]
def fillC (X i L : Nat) : List Value := (List.replicate i (0 : UInt8) ++ (bes 8 X).drop i).map bv ++ List.replicate L (.int .u8 0)
theorem fillC_length (X i L : Nat) (h : i ≤ 8) : (fillC X i L).length = 8 + L := by simp [fillC, bes_length]; omega
theorem fillC_get (X i L : Nat) : (fillC X (i + 1) L)[i]? = some (bv 0) := by
  unfold fillC
  rw [List.map_append, List.append_assoc, List.getElem?_append_left (by simp), List.map_replicate, List.getElem?_replicate, if_pos (by omega)]
theorem fillC_set (X i L : Nat) (h : i < 8) : (fillC X (i + 1) L).set i (bv (byt (X / 256 ^ (7 - i) % 256))) = fillC X i L := by
  unfold fillC
  rw [List.set_append_left _ _ (by simp; omega), ← List.map_set, List.replicate_succ', List.append_assoc, List.set_append_right _ _ (by simp), List.length_replicate, Nat.sub_self, List.singleton_append, List.set_cons_zero, drop_bes X i h]

set_option maxHeartbeats 1600000 in
theorem rpack_any (z : Int) (p : List UInt8) (w : World) (hz : -9223372036854775808 ≤ z ∧ z ≤ 9223372036854775807) (hl : p.length ≤ 1073741824) :
    Calls Tryd.prog 62 #[.agg #[.int .i64 z, .string ⟨p.toArray⟩]] w (PackPost w z p) := by
  obtain ⟨L, hL⟩ : ∃ L, L = p.length := ⟨_, rfl⟩
  have hLi : (L : Int) ≤ 1073741824 := by omega
  have hL0 : (0 : Int) ≤ (L : Int) := by omega
  obtain ⟨s, hs⟩ : ∃ s, s = (⟨p.toArray⟩ : ByteArray) := ⟨_, rfl⟩
  have hsz : s.size = L := by rw [hs, hL]; simp [ByteArray.size]
  rw [← hs]
  have HS := Lib.hid (And.intro hs hL)
  clear hs
  by_cases hlong : 1024 < p.length
  · have hP := Lib.hid (show ∀ e w', (e = Ending.returned (.tuple #[.slice none 0 0, .int .i64 1]) ∧ Below w.heap.size w w') → PackPost w z p e w' from fun e w' h => by unfold PackPost; rw [if_pos hlong]; exact h)
    have hLl : 1024 < (L : Int) := by omega
    clear hlong hL
    go_enter Tryd.func62, Tryd.ntmps62
    go_wp2
    go_ret2
    exact hP.out _ _ ⟨rfl, ga (gr w) _⟩
  · have hP := Lib.hid (show ∀ e w', (∃ v, e = Ending.returned (.tuple #[v, .int .i64 0]) ∧ w'.ownsRow w.heap.size 5 1 v (pack z p).length ((pack z p).map bv) ∧ Below w.heap.size w w') → PackPost w z p e w' from fun e w' h => by unfold PackPost; rw [if_neg hlong]; exact h)
    have hLl : (L : Int) ≤ 1024 := by omega
    obtain ⟨N, hN⟩ : ∃ N, N = 8 + L := ⟨_, rfl⟩
    have hNi : 8 + (L : Int) = (N : Int) := by omega
    have HN := Lib.hid hN
    obtain ⟨X, hX⟩ : ∃ X, X = toU z := ⟨_, rfl⟩
    have hXw : IntKind.u64.wrap z = z % 18446744073709551616 := by simp [IntKind.wrap, IntKind.bits, IntKind.signed]
    have hXz : IntKind.u64.wrap z = (X : Int) := by rw [hXw, hX]; unfold toU; omega
    clear hXw
    have hXb : X < 18446744073709551616 := by rw [hX]; exact toU_lt z
    have HX := Lib.hid hX
    have hN1 : N ≤ 1032 := by omega
    clear hlong hL hN hX
    obtain ⟨w0, hw0⟩ : ∃ x, x = w.alloc (.cells #[.int .i64 z, .string s] 72) := ⟨_, rfl⟩
    have hz0 : w0.heap.size = w.heap.size + 1 := by rw [hw0]; simp
    have hC0 : Blk w0 w.heap.size 72 [.int .i64 z, .string s] := by rw [hw0]; exact Blk.new w _ _
    have hb0 : Below w.heap.size w w0 := by rw [hw0]; exact ga (gr w) _
    have HW := Lib.hid (And.intro hz0 (And.intro hC0 (And.intro hb0 hw0)))
    clear hz0 hC0 hb0 hw0
    go_enter Tryd.func62, Tryd.ntmps62
    go_wp2_with (first
      | (at_make; go_must (refine wpList_makeN E8 rfl _ (.tmp 15) rfl .i64 .i64 _ _ 8 N rfl rfl rfl (by first | rfl | omega) (by have := HN.out; omega) (by omega) (by unfold maxLen; omega) (w.heap.size + 1) (by simp) ?_); intro w1 hB1 hb1 hz1; have cc0 : w1.cell? ⟨w.heap.size, 0, none⟩ = some (.int .i64 z) := (hb1.cell (p := ⟨w.heap.size, 0, none⟩) (by simp)).trans (by rw [← HW.out.2.2.2]; exact HW.out.2.1.cell 0)))
    have hY : Blk w1 (w.heap.size + 1) 5 (fillC X 8 L) ∧ Below w0.heap.size w0 w1 := by
      refine ⟨?_, ?_⟩
      · have e : fillC X 8 L = List.replicate N (.int .u8 0) := by
          unfold fillC
          rw [List.drop_of_length_le (by rw [bes_length]; exact Nat.le_refl _), List.append_nil, List.map_replicate, HN.out]
          have e0 : bv 0 = .int .u8 0 := rfl
          rw [e0, List.replicate_append_replicate]
        rw [e]; exact hB1
      · rw [HW.out.1, HW.out.2.2.2]; exact hb1
    have HY := Lib.hid hY
    clear hY hB1 hb1 hz1 cc0
    go_loopw [5, 6] (fun v5 v6 wr => ∃ (i : Nat) (vi : Int), i ≤ 8 ∧ v6 = .int .i64 vi ∧ vi = (i : Int) - 1 ∧ v5 = .int .u64 ((X / 256 ^ (8 - i) : Nat) : Int) ∧ Blk wr (w.heap.size + 1) 5 (fillC X i L) ∧ Below w0.heap.size w0 wr) (fun _ v _ => (intOf v + 1).toNat)
    case atStart => exact ⟨8, _, by omega, rfl, by omega, by simp, HY.out⟩
    case round =>
      clear HY
      obtain ⟨i, vi, hi, rfl, hvi, rfl, hB, hb⟩ := hrel
      rcases i with _ | i
      · obtain rfl : vi = -1 := by omega
        have hown : wr.ownsRow w0.heap.size 5 1 (.slice (some ⟨w.heap.size + 1, 0, none⟩) 8 N) 8 ((bes 8 X).map bv) := by
          refine ⟨by simp [bes_length], .inr ⟨w.heap.size + 1, N, (fillC X 0 L).toArray, rfl, by rw [HW.out.1]; exact Nat.le_refl _, hB, by have := HN.out; omega, by unfold maxLen; omega, by rw [List.size_toArray, fillC_length _ _ _ (by omega), HN.out, Nat.mul_one], ?_⟩⟩
          unfold fillC
          simp [bes_length]
        have HY := Lib.hid (And.intro hown hb)
        obtain ⟨x0, hx0⟩ : ∃ x, x = X / 256 ^ (8 - 0) := ⟨_, rfl⟩
        rw [← hx0]
        clear hown hB hb hvi hi hx0
        go_wp2_with fail
        go_loopw [4, 7] (fun v4 v7 wr => ∃ k : Nat, k ≤ L ∧ v7 = .int .i64 k ∧ wr.ownsRow w0.heap.size 5 1 v4 (8 + k) ((bes 8 X ++ p.take k).map bv) ∧ Below w0.heap.size w0 wr) (fun _ v _ => L - (intOf v).toNat)
        case atStart => exact ⟨0, by omega, rfl, by simpa using HY.out.1, HY.out.2⟩
        case round =>
          clear HY
          obtain ⟨k, hk, rfl, hown, hb⟩ := hrel
          obtain ⟨A3, n3, c3, rfl, hn3⟩ := own_form hown
          obtain rfl := hn3
          have c1 : wr.cell? ⟨w.heap.size, 1, none⟩ = some (.string s) := (hb.cell (p := ⟨w.heap.size, 1, none⟩) (by rw [HW.out.1]; simp)).trans (HW.out.2.1.cell 1)
          by_cases hlt : k < L
          · have hkl : k < p.length := by have := HS.out.2; omega
            obtain ⟨x, hx⟩ : ∃ x, x = p[k] := ⟨_, rfl⟩
            have hks : k < s.size := by omega
            have hsx : s[k] = x := by
              have : ∀ s' : ByteArray, s' = (⟨p.toArray⟩ : ByteArray) → ∀ h, s'[k]'h = p[k] := fun s' e h => by subst e; rfl
              rw [hx]; exact this s HS.out.1 hks
            have hki : (k : Int) < (L : Int) := by omega
            have hk0 : (0 : Int) ≤ (k : Int) := by omega
            have hnx : (bes 8 X ++ p.take k) ++ [x] = bes 8 X ++ p.take (k + 1) := by rw [List.append_assoc, take_succ_ hkl, hx]
            have HY := Lib.hid (And.intro hown (And.intro hb hnx))
            clear hown hb hx hnx
            go_wp2_with (first
              | ((with_reducible show wpList _ _ _ (⟨some 44, _, _, _, _, _⟩ :: _) _ _); go_must (refine wpList_one E8 rfl (.tmp 43) rfl (by decide) [bv x] rfl rfl wr.heap.size rfl ?_); intro w3 hB3 hb3)
              | ((with_reducible show wpList _ _ _ (⟨some 45, _, _, _, _, _⟩ :: _) _ _); go_must (refine wpList_pushB E8 rfl (.tmp 39) (.tmp 44) rfl (gt HY.out.2.1 hb3) (own_belowB HY.out.1 hb3) rfl wr.heap.size rfl x hB3 (by omega) ?_); intro v4 w4 hown4 hb4))
            exact ⟨⟨k + 1, by omega, by go_num, by rw [← HY.out.2.2]; exact hown4, hb4⟩, by simp [intOf]; omega⟩
          · obtain rfl : k = L := by omega
            have hki : ¬ (k : Int) < (k : Int) := by omega
            have HY := Lib.hid (And.intro hown hb)
            clear hown hb hlt
            go_wp2_with fail
            go_ret2
            have hown := HY.out.1
            rw [List.take_of_length_le (by rw [HS.out.2]; exact Nat.le_refl _), HX.out] at hown
            refine hP.out _ _ ⟨_, rfl, ?_, HW.out.2.2.1.trans (HY.out.2.mono (by rw [HW.out.1]; omega))⟩
            have e : (pack z p).length = 8 + k := by rw [pack_length, HS.out.2]
            rw [e]
            exact own_base hown (by rw [HW.out.1]; omega)
      · obtain rfl : vi = (i : Int) := by omega
        obtain ⟨x, hx⟩ : ∃ x, x = X / 256 ^ (8 - (i + 1)) := ⟨_, rfl⟩
        have hxb : x < 18446744073709551616 := by rw [hx]; exact Nat.lt_of_le_of_lt (Nat.div_le_self _ _) hXb
        have hxn : X / 256 ^ (8 - i) = x / 256 := by rw [hx, Nat.div_div_eq_div_mul, show 8 - i = (8 - (i + 1)) + 1 by omega, Nat.pow_succ]
        have e0 : bv (byt (x % 256)) = .int .u8 ((x : Int) % 256) := by unfold bv; rw [byteN (by omega)]; simp only [Int.natCast_emod]; rfl
        rw [← hx]
        have cc := hB.cell i
        rw [fillC_get] at cc
        have ff := hB.frozen i
        have hBs := hB.set_ i (bv (byt (x % 256)))
        rw [hx, show 8 - (i + 1) = 7 - i by omega, fillC_set X i L (by omega), show 7 - i = 8 - (i + 1) by omega, ← hx, e0] at hBs
        have HZ := Lib.hid (And.intro hBs (And.intro (hb.setCell (p := ⟨w.heap.size + 1, i, none⟩) (by rw [HW.out.1]; simp) (.int .u8 ((x : Int) % 256))) hxn))
        have hi0 : (0 : Int) ≤ (i : Int) := by omega
        have hi8 : (i : Int) < 8 := by omega
        have hx0 : (0 : Int) ≤ (x : Int) := by omega
        have hx1 : (x : Int) ≤ 18446744073709551615 := by omega
        clear hB hb hx hxn e0 hBs hvi
        go_wp2
        exact ⟨⟨i, _, by omega, rfl, rfl, by rw [HZ.out.2.2]; rfl, HZ.out.1, HZ.out.2.1⟩, by simp [intOf]⟩
end Go.Proofs.YtoemceehmiaigaaDoor.Seal
