/- seal: the reference's Unpack; the law's same and alive. -/
import Derived.Test.YtoemceehmiaigaaDoorUnpWalk
import Derived.Test.YtoemceehmiaigaaDoorSealRef2
import Derived.Lib.SlBytesConst
namespace Go.Proofs.YtoemceehmiaigaaDoor.Seal
open Go.RowKit Go.Proofs.YtoemceehmiaigaaDoor.Mem Go.Proofs.YtoemceehmiaigaaDoor.Loan
set_option linter.unusedVariables false

theorem wpList_val {P : Program} {w : World} {ops : Array Oper} {rest : List Oper} {o : Oper} {a : Act} {Q : Exit → Act → World → Prop} (hgd : o.guard = none) (v : Value)
    (hr : (execOp a.eval o).run P w = .ok (.value v) w) (h : wpList P ops Q rest (a.put o.dst v) w) : wpList P ops Q (o :: rest) a w := by
  refine wpList_plain hgd fun K hK => ?_
  unfold Oper.wp
  rw [hr]
  exact hK _ _ h

set_option maxRecDepth 4000 in
set_option maxHeartbeats 1600000 in
theorem runpack_any (A : Option Addr) (c n : Nat) (b : List UInt8) (w : World) (ha : RB w A b) (hn : n = b.length) (hc : n ≤ c) (hl : c ≤ maxLen) :
    Calls Tryd.prog 66 #[.slice A n c] w fun e w' => e = .returned (.tuple #[claimV (unZ b) (unP b), .int .i64 (unE b)]) ∧ Below w.heap.size w w' := by
  unfold maxLen at hl
  have hci : (c : Int) ≤ 9223372036854775807 := by omega
  have hnc : (n : Int) ≤ (c : Int) := by omega
  have hn0 : (0 : Int) ≤ (n : Int) := by omega
  have HA := Lib.hid (And.intro ha hn)
  clear ha hn
  by_cases h8 : n < 8
  · have hr := Lib.hid (show unZ b = 0 ∧ unP b = [] ∧ unE b = 53 by have := HA.out.2; unfold unZ unP unE; rw [if_pos (by omega), if_pos (by omega), if_pos (by omega)]; exact ⟨rfl, rfl, rfl⟩)
    have h8i : (n : Int) < 8 := by omega
    rw [hr.out.1, hr.out.2.1, hr.out.2.2]
    go_enter Tryd.func66, Tryd.ntmps66
    go_wp2
    refine bodyPost_ret (v := .tuple #[claimV 0 [], .int .i64 53]) (by simp [results, Tryd.results66, go_sem, claimV]) rfl ⟨rfl, ?_⟩
    exact ga (gr w) _
  · by_cases hL : 1032 < n
    · have hr := Lib.hid (show unZ b = 0 ∧ unP b = [] ∧ unE b = 1 by have := HA.out.2; unfold unZ unP unE; rw [if_neg (by omega), if_pos (by omega), if_neg (by omega), if_pos (by omega), if_neg (by omega), if_pos (by omega)]; exact ⟨rfl, rfl, rfl⟩)
      have h8i : (8 : Int) ≤ (n : Int) := by omega
      have hLi : 1024 < (n : Int) - 8 := by omega
      rw [hr.out.1, hr.out.2.1, hr.out.2.2]
      go_enter Tryd.func66, Tryd.ntmps66
      go_wp2
      refine bodyPost_ret (v := .tuple #[claimV 0 [], .int .i64 1]) (by simp [results, Tryd.results66, go_sem, claimV]) rfl ⟨rfl, ?_⟩
      exact ga (gr w) _
    · have hr := Lib.hid (show unZ b = toI (num (b.take 8)) ∧ unP b = b.drop 8 ∧ unE b = 0 by have := HA.out.2; unfold unZ unP unE; rw [if_neg (by omega), if_neg (by omega), if_neg (by omega), if_neg (by omega), if_neg (by omega), if_neg (by omega)]; exact ⟨rfl, rfl, rfl⟩)
      have h8i : (8 : Int) ≤ (n : Int) := by omega
      have h8c : (8 : Int) ≤ (c : Int) := by omega
      have h8n : 8 ≤ n := by omega
      have hLi : (n : Int) - 8 ≤ 1024 := by omega
      rw [hr.out.1, hr.out.2.1, hr.out.2.2]
      obtain ⟨ad, hA, hx0⟩ := HA.out.1 0 (by have := HA.out.2; omega)
      clear hx0
      subst hA
      clear h8 hL
      generalize hH : w.heap.size = H at *
      go_enter Tryd.func66, Tryd.ntmps66
      go_upto_region 5 with fail
      obtain ⟨w1, hw1⟩ : ∃ x, x = w.alloc (.cells #[.int .i64 0, .string { data := #[] }] 72) := ⟨_, rfl⟩
      rw [← hw1]
      have hw : Below H w w1 := by rw [hw1, ← hH]; exact ga (gr w) _
      have hB1 : Blk w1 H 72 [.int .i64 0, .string { data := #[] }] := by rw [hw1, ← hH]; exact Blk.new w _ _
      have HX := Lib.hid (And.intro hB1 (And.intro (HA.out.1.below (hH ▸ hw)) hw))
      clear hw hB1 hw1
      go_wp2_with fail
      go_loop [4, 5] (fun v6 v24 => ∃ k : Nat, k ≤ 8 ∧ v24 = .int .i64 k ∧ v6 = .int .u64 (num (b.take k) : Int)) (fun _ v => 8 - (intOf v).toNat)
      case atStart => exact ⟨0, by omega, rfl, rfl⟩
      case round =>
        obtain ⟨k, hk, rfl, rfl⟩ := hrel
        obtain ⟨X, hX⟩ : ∃ X, X = num (b.take k) := ⟨_, rfl⟩
        rw [← hX]
        by_cases hlt : k < 8
        · have hkb : k < b.length := by have := HA.out.2; omega
          have hXb : X < 72057594037927936 := by
            have := num_lt (b.take k)
            rw [List.length_take, Nat.min_eq_left (by omega), ← hX] at this
            have h2 : 256 ^ k ≤ 256 ^ 7 := Nat.pow_le_pow_right (by omega) (by omega)
            omega
          obtain ⟨x, hx⟩ : ∃ x, x = b[k] := ⟨_, rfl⟩
          obtain ⟨ad', hA', cc⟩ := HX.out.2.1 k hkb
          injection hA' with hA'
          subst hA'
          rw [← hx] at cc
          have hn := num_take hkb
          rw [← hX, ← hx] at hn
          have HY := Lib.hid hn
          have hki : (k : Int) < 8 := by omega
          have hkn : (k : Int) < (n : Int) := by omega
          have hk0 : (0 : Int) ≤ (k : Int) := by omega
          have hX1 : (X : Int) ≤ 72057594037927935 := by omega
          have hx8 : (x.toNat : Int) ≤ 255 := by have := x.toNat_lt; omega
          have hx0 : (0 : Int) ≤ (x.toNat : Int) := by omega
          clear hn hX hx hlt
          go_wp2
          exact ⟨⟨k + 1, by omega, by go_num, by rw [HY.out]; simp only [Int.natCast_add, Int.natCast_mul]; rfl⟩, by simp [intOf]; omega⟩
        · obtain rfl : k = 8 := by omega
          have hXb : X < 18446744073709551616 := by
            have := num_lt (b.take 8)
            rw [List.length_take, Nat.min_eq_left (by have := HA.out.2; omega), ← hX] at this
            exact this
          have hwr := wrap_toI hXb
          obtain ⟨I, hI⟩ : ∃ I, I = toI X := ⟨_, rfl⟩
          rw [← hI] at hwr
          have hln : (b.drop 8).length = n - 8 := by rw [List.length_drop, ← HA.out.2]
          have c0 := HX.out.1.cell 0
          have c1 := HX.out.1.cell 1
          have f0 := HX.out.1.frozen 0
          have f1 := HX.out.1.frozen 1
          simp only [List.getElem?_cons_succ, List.getElem?_cons_zero] at c0 c1
          have HI := Lib.hid (And.intro hI hX)
          clear hI hX hXb hlt hk
          by_cases hc8 : c = 8
          · have hd0 : b.drop 8 = [] := List.drop_of_length_le (by have := HA.out.2; omega)
            have hcv := conv_rb (P := Tryd.prog) (w := w1) (src := 32) (dst := 9) Tryd.underlying32 Tryd.underlying5 Tryd.underlying9 (RB.nil w1 (some ad)) 0
            simp only [List.length_nil] at hcv
            obtain rfl : n = 8 := by omega
            subst hc8
            have HD := Lib.hid hd0
            clear hln hd0 hn0 h8i h8n hLi hl hci h8c hc hnc
            go_wp2
            refine bodyPost_ret (v := .tuple #[claimV I [], .int .i64 0]) (by simp [results, Tryd.results66, go_sem, claimV, c0, c1]) rfl ⟨by rw [HI.out.1, HI.out.2, HD.out], ?_⟩
            exact (HX.out.2.2.setCell (Nat.le_refl _) _).setCell (Nat.le_refl _) _
          · have hcv := conv_rb (P := Tryd.prog) (src := 32) (dst := 9) Tryd.underlying32 Tryd.underlying5 Tryd.underlying9 (HX.out.2.1.drop 8 ad rfl) (c - 8)
            obtain ⟨A2, hA2⟩ : ∃ A2, A2 = ad.add 8 := ⟨_, rfl⟩
            rw [hln, ← hA2] at hcv
            have HD := Lib.hid hA2
            clear hA2
            clear hln hl h8n hc hn0 hci hLi
            go_wp2_with ((with_reducible show wpList _ _ _ (⟨some 30, _, _, _, _, _⟩ :: _) _ _); go_must (refine wpList_val rfl (.slice (some A2) (n - 8) (c - 8)) (by rw [HD.out]; go_simp) ?_))
            refine bodyPost_ret (v := .tuple #[claimV I (b.drop 8), .int .i64 0]) (by simp [results, Tryd.results66, go_sem, claimV, c0, c1]) rfl ⟨by rw [HI.out.1, HI.out.2], ?_⟩
            exact (HX.out.2.2.setCell (Nat.le_refl _) _).setCell (Nat.le_refl _) _

set_option maxHeartbeats 400000 in
theorem same_any (A B : Option Addr) (na nb ca cb : Nat) (la lb : List UInt8) (w : World) (ha : RB w A la) (hb : RB w B lb) (hna : na = la.length) (hnb : nb = lb.length) :
    Calls Tryd.prog 46 #[.slice A na ca, .slice B nb cb] w fun e w' => e = .returned (.bool (decide (la = lb))) ∧ w = w' := by
  subst hna hnb
  have kc1 := conv_rb (P := Tryd.prog) (src := 32) (dst := 9) Tryd.underlying32 Tryd.underlying5 Tryd.underlying9 ha ca
  have kc2 := conv_rb (P := Tryd.prog) (src := 32) (dst := 9) Tryd.underlying32 Tryd.underlying5 Tryd.underlying9 hb cb
  clear ha hb
  go_enter Tryd.func46, Tryd.ntmps46
  go_wp2
  go_ret
  exact ⟨ret_bool (by rw [Bool.eq_iff_iff]; simp), rfl⟩

theorem dec_foo : dec [90, 109, 57, 118] = some [102, 111, 111] := by decide +kernel
theorem enc_251 : enc [251] = [45, 119] := by decide +kernel
theorem pack_x : pack 258 [120] = [0, 0, 0, 0, 0, 0, 1, 2, 120] := by decide +kernel
theorem un_a : unZ [255, 255, 255, 255, 255, 255, 255, 254, 97] = -2 ∧ unP [255, 255, 255, 255, 255, 255, 255, 254, 97] = [97] ∧ unE [255, 255, 255, 255, 255, 255, 255, 254, 97] = 0 := by decide +kernel

set_option maxHeartbeats 1600000 in
theorem alive_any (w : World) :
    Calls Tryd.prog 37 #[] w fun e w' => e = .returned (.bool true) ∧ Below w.heap.size w w' := by
  have kc := fun (w : World) (C : Array Value) (n c : Nat) => Lib.run_convert_bytes_const (P := Tryd.prog) w 32 5 C n c Tryd.underlying32 Tryd.underlying5
  go_enter Tryd.func37, Tryd.ntmps37
  go_upto_region 2 with (first
    | (go_at_call 40; go_must (refine (decode_any [90, 109, 57, 118] _ (by decide)).mono ?_); rintro e w1 h1; rw [dec_foo] at h1; obtain ⟨v1, rfl, ho1, hb1⟩ := h1))
  obtain ⟨A1, n1, c1, rfl, hn1⟩ := own_form ho1
  have hn1' : n1 = 3 := hn1
  subst hn1'
  go_upto_region 3 with (first
    | (go_at_call 45; go_must (refine (pack_any 258 [120] _ (by omega) (by decide)).mono ?_); rintro e w2 h2; unfold PackPost at h2; rw [if_neg (by decide), pack_x] at h2; obtain ⟨v2, rfl, ho2, hb2⟩ := h2))
  obtain ⟨A2, n2, c2, rfl, hn2⟩ := own_form ho2
  have hn2' : n2 = 9 := hn2
  subst hn2'
  generalize hH2 : w2.heap.size = H2 at *
  go_upto_region 4 with (first
    | ((with_reducible show wpList _ _ _ (⟨some 15, _, _, _, _, _⟩ :: _) _ _); go_must (refine wpList_build1 _ _ _ _ _ _ _ _ _ ?_))
    | (go_at_call 43
       go_must (refine (unpack_any _ 9 9 [255, 255, 255, 255, 255, 255, 255, 254, 97] _ ?_ rfl (by omega) (by decide)).mono ?_)
       · exact (Blk.rb (l := [255, 255, 255, 255, 255, 255, 255, 254, 97]) (hH2 ▸ Blk.new w2 _ _) 0 9)
       rintro e w3 ⟨rfl, hb3⟩; rw [un_a.1, un_a.2.1, un_a.2.2, show claimV (-2) [97] = .agg #[.int .i64 (-2), .string ⟨#[97]⟩] from rfl]))
  have hB4 := Blk.new w3 72 [.int .i64 (-2), .string ⟨#[97]⟩]
  have hb4 := (((hb1.trans (hb2.mono hb1.size)).trans ((ga (gr w2) _).mono (Nat.le_trans hb1.size hb2.size))).trans (hb3.mono (Nat.le_trans (Nat.le_trans hb1.size hb2.size) (ga (gr w2) _).size))).trans ((ga (gr w3) (.cells #[.int .i64 (-2), .string ⟨#[97]⟩] 72)).mono (Nat.le_trans (Nat.le_trans (Nat.le_trans hb1.size hb2.size) (ga (gr w2) _).size) hb3.size))
  have hg2 := ((ga (gr w2) _).trans (hb3.mono (ga (gr w2) _).size)).trans ((ga (gr w3) (.cells #[.int .i64 (-2), .string ⟨#[97]⟩] 72)).mono (Nat.le_trans (ga (gr w2) _).size hb3.size))
  have ho1' := own_belowB (own_belowB ho1 hb2) hg2
  have ho2' := own_belowB ho2 hg2
  clear hg2 ho1 ho2 hb3 hn1 hn2 hb1 hb2 kc
  generalize hH3 : w3.heap.size = H3 at *
  obtain ⟨w4, hw4⟩ : ∃ x, x = w3.alloc (.cells #[.int .i64 (-2), .string ⟨#[97]⟩] 72) := ⟨_, rfl⟩
  rw [← hw4]
  change Blk (w3.alloc (.cells #[.int .i64 (-2), .string ⟨#[97]⟩] 72)) _ _ _ at hB4
  rw [← hw4] at hB4 hb4 ho1' ho2'
  have kc1 := own_str ho1' rfl (r := [102, 111, 111]) rfl
  have HX := Lib.hid (And.intro hB4 (And.intro hb4 ho2'))
  clear hB4 hb4 ho1' ho2' hH3 hw4 hH2
  go_upto_region 6 with (first
    | (go_at_call 42
       go_must (refine (encode_any _ _ [251] _ ?_ (by decide)).mono ?_)
       · exact (Blk.rb (l := [251]) (Blk.new w4 _ _) 0 1)
       rintro e w5 ⟨rfl, hb5⟩; rw [enc_251]))
  have hg := (ga (gr w4) (.cells #[.int .u8 251] 5)).trans (hb5.mono (ga (gr w4) (.cells #[.int .u8 251] 5)).size)
  have hB5 := HX.out.1.grow hg
  have hb5' := HX.out.2.1.trans (hg.mono HX.out.2.1.size)
  have kc2 := own_str (own_belowB HX.out.2.2 hg) rfl (r := [0, 0, 0, 0, 0, 0, 1, 2, 120]) rfl
  have c0 := hB5.cell 0
  have c1 := hB5.cell 1
  simp only [List.getElem?_cons_succ, List.getElem?_cons_zero] at c0 c1
  have HY := Lib.hid hb5'
  clear hg hB5 hb5' HX kc1 hb5
  go_wp2
  go_ret
  exact ⟨rfl, HY.out⟩
end Go.Proofs.YtoemceehmiaigaaDoor.Seal
