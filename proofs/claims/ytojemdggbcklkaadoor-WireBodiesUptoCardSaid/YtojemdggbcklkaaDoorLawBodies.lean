/- weirlaw28.WireBodies: the walk. (Printed by mklbodies.py.) -/
import Derived.Test.YtojemdggbcklkaaDoorWHex
import Derived.Test.YtojemdggbcklkaaDoorLawStays
import Derived.Test.YtojemdggbcklkaaDoorLawTwice
import Derived.Deep.CutBlock
namespace Go.Proofs.YtojemdggbcklkaaDoor.WireR
open Go.RowKit Go.Proofs.YtojemdggbcklkaaDoor.Mem Go.Proofs.YtojemdggbcklkaaDoor.Wire Go.Proofs.YtojemdggbcklkaaDoor.Strs Go.Proofs.YtojemdggbcklkaaDoor.Heads
set_option linter.unusedVariables false
set_option linter.unusedSimpArgs false
set_option maxRecDepth 8000

theorem cat_eq {a b c : List UInt8} (h : a ++ b = c) : (⟨a.toArray⟩ : ByteArray) ++ ⟨b.toArray⟩ = ⟨c.toArray⟩ := by
  rw [← h, ByteArray.mk_append_mk]; try simp
theorem s1_parts (l : Bytes) : [80, 85, 84, 32, 47, 121, 32, 72, 84, 84, 80, 47, 49, 46, 49, 13, 10, 104, 111, 115, 116, 58, 13, 10, 67, 111, 110, 116, 101, 110, 116, 45, 76, 69, 78, 71, 84, 72, 58, 32] ++ Lib.decDigits l.length ++ [13, 10, 13, 10] ++ l = s1 l := by
  simp [s1, L1, Lh, nL, crlf]
theorem head2_is : head2 = [80, 85, 84, 32, 47, 121, 32, 72, 84, 84, 80, 47, 49, 46, 49, 13, 10, 104, 111, 115, 116, 58, 13, 10, 84, 114, 97, 110, 115, 102, 101, 114, 45, 101, 110, 99, 111, 100, 105, 110, 103, 58, 32, 32, 99, 104, 117, 110, 107, 101, 68, 9, 13, 10, 13, 10] := rfl
structure BdSt (w3 wr : World) (l : Bytes) (cn i : Nat) (e x y : Bytes) : Prop where
  hx : l = x ++ y
  enc : Enc e x
  el : e.length ≤ x.length + 10 * i
  ile : i ≤ cn
  low : Below w3.heap.size w3 wr
set_option maxHeartbeats 16000000 in
theorem law_bodies (A : Option Addr) (n c : Nat) (l : List UInt8) (C : Option Addr) (cn cc : Nat) (zs : List UInt8) (bh : List UInt8) (w : World) (hA : RB w A l) (hn : n = l.length) (hc : n ≤ c) (hl : n ≤ 1073741824)
    (hz : RB w C zs) (hcn : cn = zs.length) (hcl : cn ≤ 1073741824) (hbh : bh.length ≤ 1073741824) :
    Calls Tryd.prog 7 #[.slice A n c, .slice C cn cc, .string ⟨bh.toArray⟩] w fun e w' => e = .returned (.bool true) ∧ Below w.heap.size w w' := by
  have HA := Lib.hid (And.intro hA (And.intro hn hc))
  have HZ := Lib.hid (And.intro hz hcn)
  have HB := Lib.hid hbh
  have hll : (n : Int) ≤ 1073741824 := by omega
  have hcll : (cn : Int) ≤ 1073741824 := by omega
  clear hA hn hc hz hcn hbh
  by_cases h1 : 30000 < n
  · have b3 : decide ((30000 : Int) < (n : Int)) = true := by rw [decide_eq_true_eq]; omega
    clear h1
    go_enter Tryd.func7, Tryd.ntmps7
    go_wp2_with (first
      | (go_at_call 14; go_must (refine (awake_any _).mono ?_); rintro e w1 ⟨rfl, hb1⟩; have B1 := Lib.hid hb1; clear hb1))
    go_ret
    exact ⟨rfl, B1.out⟩
  · by_cases h2 : 1000 < cn
    · have b3 : decide ((30000 : Int) < (n : Int)) = false := by rw [decide_eq_false_iff_not]; omega
      have b4 : decide ((1000 : Int) < (cn : Int)) = true := by rw [decide_eq_true_eq]; omega
      clear h1 h2
      go_enter Tryd.func7, Tryd.ntmps7
      go_wp2_with (first
        | (go_at_call 14; go_must (refine (awake_any _).mono ?_); rintro e w1 ⟨rfl, hb1⟩; have B1 := Lib.hid hb1; clear hb1))
      go_ret
      exact ⟨rfl, B1.out⟩
    · have b3 : decide ((30000 : Int) < (n : Int)) = false := by rw [decide_eq_false_iff_not]; omega
      have b4 : decide ((1000 : Int) < (cn : Int)) = false := by rw [decide_eq_false_iff_not]; omega
      have HN := Lib.hid (And.intro (show n ≤ 30000 by omega) (show cn ≤ 1000 by omega))
      obtain ⟨sd, hsd⟩ : ∃ s, s = (⟨(Lib.decDigits n).toArray⟩ : ByteArray) := ⟨_, rfl⟩
      obtain ⟨d, hd⟩ : ∃ s, s = Lib.decDigits n := ⟨_, rfl⟩
      have hdl : d.length ≤ 30001 := by rw [hd]; have := WireW.dec_len n n (Nat.le_refl _); omega
      have cdec := fun (W : World) => WireW.ldec_any n n W (Nat.le_refl _) (by omega)
      rw [← hsd] at cdec
      obtain ⟨x1, hx1⟩ : ∃ x, x = [80, 85, 84, 32, 47, 121, 32, 72, 84, 84, 80, 47, 49, 46, 49, 13, 10, 104, 111, 115, 116, 58, 13, 10, 67, 111, 110, 116, 101, 110, 116, 45, 76, 69, 78, 71, 84, 72, 58, 32] ++ d := ⟨_, rfl⟩
      obtain ⟨x2, hx2⟩ : ∃ x, x = x1 ++ [13, 10, 13, 10] := ⟨_, rfl⟩
      obtain ⟨x3, hx3⟩ : ∃ x, x = x2 ++ l := ⟨_, rfl⟩
      obtain ⟨x4, hx4⟩ : ∃ x, x = x3 ++ bh := ⟨_, rfl⟩
      have hx3s : x3 = s1 l := by rw [hx3, hx2, hx1, hd, HA.out.2.1, s1_parts]
      have hread : readAll x4 = .ok (rq1 l, x3.length) := by rw [hx4, hx3s]; exact stays_ok (read1 l (by have := HA.out.2.1; have := HN.out.1; omega)) bh
      have l1 : x1.length ≤ 30100 := by rw [hx1, List.length_append]; simp; omega
      have l2 : x2.length ≤ 30104 := by rw [hx2, List.length_append]; simp; omega
      have l3 : x3.length ≤ 60104 := by rw [hx3, List.length_append]; have := HA.out.2.1; have := HN.out.1; omega
      have l4 : x4.length ≤ 1073741824 + 60104 := by rw [hx4, List.length_append]; have := HB.out; omega
      have q1 : (⟨#[80, 85, 84, 32, 47, 121, 32, 72, 84, 84, 80, 47, 49, 46, 49, 13, 10, 104, 111, 115, 116, 58, 13, 10, 67, 111, 110, 116, 101, 110, 116, 45, 76, 69, 78, 71, 84, 72, 58, 32]⟩ : ByteArray) ++ sd = ⟨x1.toArray⟩ := by rw [hsd, ← hd]; exact cat_eq hx1.symm
      have q2 : (⟨x1.toArray⟩ : ByteArray) ++ ⟨#[13, 10, 13, 10]⟩ = ⟨x2.toArray⟩ := cat_eq hx2.symm
      have q3 : (⟨x2.toArray⟩ : ByteArray) ++ ⟨l.toArray⟩ = ⟨x3.toArray⟩ := cat_eq hx3.symm
      have q4 : (⟨x3.toArray⟩ : ByteArray) ++ ⟨bh.toArray⟩ = ⟨x4.toArray⟩ := cat_eq hx4.symm
      have n1 : ¬ (9223372036854775807 < 40 + sd.size) := by rw [hsd, ← hd]; simp [ByteArray.size]; omega
      have n2 : ¬ (9223372036854775807 < x1.length + 4) := by omega
      have n3 : ¬ (9223372036854775807 < x2.length + l.length) := by have := HA.out.2.1; omega
      have n4 : ¬ (9223372036854775807 < x3.length + bh.length) := by have := HB.out; omega
      have CD := Lib.hid cdec
      have HX := Lib.hid (And.intro hread (And.intro l3 l4))
      clear h1 h2 hsd hd hdl cdec hx1 hx2 hx3 hx4 hx3s hread l1 l2 l3 l4
      go_enter Tryd.func7, Tryd.ntmps7
      go_upto_region 5 with (first
        | (go_at_call 14; go_must (refine (awake_any _).mono ?_); rintro e w1 ⟨rfl, hb1⟩; have B1 := Lib.hid hb1; clear hb1))
      try simp only [Act.put, List.setIfInBounds_toArray, List.set_cons_succ, List.set_cons_zero]
      refine wp_region_qb (by kernel_rfl) (by kernel_rfl) ?_
      refine wq_val (o := ⟨some 24, _, _, _, _, _⟩) (v := .slice A n c) rfl (fun w' hC => by go_simp) ?_
      simp only [Act.put, List.setIfInBounds_toArray, List.set_cons_succ, List.set_cons_zero]
      refine wq_val (o := ⟨some 25, _, _, _, _, _⟩) (v := .int .i64 (n : Int)) rfl (fun w' hC => by go_simp) ?_
      simp only [Act.put, List.setIfInBounds_toArray, List.set_cons_succ, List.set_cons_zero]
      refine wq_call (f := 19) (args := #[.int .i64 (n : Int)]) (v := .string sd) rfl (fun w' _ => by go_simp) (fun w' hC => CD.out w') ?_
      simp only [Act.put, List.setIfInBounds_toArray, List.set_cons_succ, List.set_cons_zero]
      refine wq_val (o := ⟨some 27, _, _, _, _, _⟩) (v := .string ⟨x1.toArray⟩) rfl (fun w' hC => by go_simp) ?_
      simp only [Act.put, List.setIfInBounds_toArray, List.set_cons_succ, List.set_cons_zero]
      refine wq_val (o := ⟨some 28, _, _, _, _, _⟩) (v := .string ⟨x2.toArray⟩) rfl (fun w' hC => by go_simp) ?_
      simp only [Act.put, List.setIfInBounds_toArray, List.set_cons_succ, List.set_cons_zero]
      go_big_quiet_step (fail)
      refine wq_val (o := ⟨some 30, _, _, _, _, _⟩) (v := .string ⟨l.toArray⟩) rfl (fun w' hC => by
        have k := conv_s w' HA.out.2.1 ((HA.out.1.below B1.out).below hC) c
        simp [execOp, Act.eval, k, Result.andThen]) ?_
      simp only [Act.put, List.setIfInBounds_toArray, List.set_cons_succ, List.set_cons_zero]
      refine wq_val (o := ⟨some 31, _, _, _, _, _⟩) (v := .string ⟨x3.toArray⟩) rfl (fun w' hC => by go_simp) ?_
      simp only [Act.put, List.setIfInBounds_toArray, List.set_cons_succ, List.set_cons_zero]
      go_big_quiet_step (fail)
      refine wpQuiet_nil ?_
      intro w2 h2
      have B2 := Lib.hid (gt B1.out h2)
      clear h2 q1 q2 q3 n1 n2 n3
      have cm := fun (S : Option Addr) (k : Nat) (W : World) (h : RB W S x4) (hk : x4.length ≤ k) => read_any S x4.length k x4 W h rfl hk (by have := HX.out.2.2; omega)
      simp only [HX.out.1] at cm
      unfold ReadPost at cm
      simp only [rq1] at cm
      rw [← HA.out.2.1] at cm
      have CM := Lib.hid cm
      clear cm
      go_upto_region 7 with (first
        | ((with_reducible show wpList _ _ _ (⟨some 36, _, _, _, _, _⟩ :: _) _ _); go_must (refine WireW.wpList_conv rfl (.tmp 35) rfl x4 rfl (by have := HX.out.2.2; unfold maxLen; omega) ?_); intro v6 w2a ho6 hb6; obtain ⟨A6, k6, rfl, hk6⟩ := OwnB.form ho6 rfl; have H2 := Lib.hid (And.intro (OwnB.rd ho6) hk6); have B2a := Lib.hid (gt B2.out hb6); clear ho6 hb6 hk6)
        | (go_at_call 16; (with_reducible show Calls _ _ #[_] _ _); go_must (refine (CM.out _ _ _ H2.out.1 H2.out.2).mono ?_); rintro e w3 hp; obtain ⟨hb, A1, k1, P1, q1, K1, rfl, ho1, hK1, hw1, hob1⟩ := hp; have A3 := Lib.hid (gt B2a.out hb); have E3 := Lib.hid hb; have R1 := Lib.hid (And.intro ho1 hob1); clear ho1 hK1 hw1 hob1; clear hb)
        | ((with_reducible show wpList _ _ _ (⟨some 8, .alloc _, _, _, _, _⟩ :: _) _ _); go_must (refine wpList_allocB AR rfl rfl w3.heap.size rfl ?_); intro w3a hBx hbx hzx; have H3 := Lib.hid (And.intro hBx hbx); clear hBx hbx hzx)
        | ((with_reducible show wpList _ _ _ (⟨none, .store _ (.tmp 8) _, _, _, _, _⟩ :: _) _ _); go_must (refine wpList_storeB AR rfl (.tmp 8) (.tmp 38) rfl w3.heap.size 0 rfl [.string ⟨#[80, 85, 84]⟩, .string ⟨#[47, 121]⟩, .slice A1 2 k1, .slice P1 n q1, .bool false] rfl rfl _ _ H3.out.1 (by simp) (by simp [Value.oneCell']) ?_); intro w3b hBy hgy hzy
           simp only [splice, List.take_zero, List.nil_append, List.length_cons, List.length_nil, List.drop_succ_cons, List.drop_zero, List.append_nil, Nat.zero_add, List.drop_nil] at hBy
           have D3 := Lib.hid (H3.out.2.grown hgy H3.out.2.size (fun j hj => by injection hj with hj; omega))
           have C3 := Lib.hid hBy
           have B3 := Lib.hid (gt A3.out D3.out)
           clear hBy hgy hzy))
      obtain ⟨h8, hh8⟩ : ∃ x, x = w3.heap.size := ⟨_, rfl⟩
      have C8 : Blk w3b h8 30 [.string ⟨#[80, 85, 84]⟩, .string ⟨#[47, 121]⟩, .slice A1 2 k1, .slice P1 n q1, .bool false] := hh8 ▸ C3.out
      have hw8 : w.heap.size ≤ h8 := by rw [hh8]; have := A3.out.size; exact this
      have u0 := C8.cell 0
      have u3 := C8.cell 3
      simp only [List.getElem?_cons_succ, List.getElem?_cons_zero] at u0 u3
      have HC8 := Lib.hid (And.intro C8 hw8)
      rw [← hh8]
      have kc1 := conv_s w3b HA.out.2.1 ((own_rv R1.out.2).rb.below D3.out) q1
      have kc2 := conv_s w3b HA.out.2.1 (HA.out.1.below B3.out) c
      clear C8 hw8 hh8 q4 n4
      go_upto_region 11 with fail
      clear kc1 kc2 u0 u3
      have HB3 := Lib.hid B3.out
      clear B3 A3 H3 E3 D3 C3 R1 H2 B2a B2 CM B1 CD HX
      go_wp2
      go_loopw [7, 11, 12] (fun v7 v11 v12 wr => ∃ (i : Nat) (e x y : Bytes), v7 = .string ⟨(head2 ++ e).toArray⟩ ∧ v11 = .string ⟨y.toArray⟩ ∧ v12 = .int .i64 i ∧ BdSt w3b wr l cn i e x y) (fun _ _ v12 _ => cn - (intOf v12).toNat)
      case atStart => exact ⟨0, [], [], l, rfl, rfl, rfl, ⟨rfl, Enc.nil, by simp, Nat.zero_le _, Below.refl _ _⟩⟩
      case round =>
        obtain ⟨i, e, x, y, rfl, rfl, rfl, BS⟩ := hrel
        replace BS := Lib.hid BS
        obtain ⟨S, hS⟩ : ∃ S, S = head2 ++ e := ⟨_, rfl⟩
        rw [← hS]
        have HS := Lib.hid hS
        clear hS
        obtain ⟨yn, hyn⟩ : ∃ n, n = y.length := ⟨_, rfl⟩
        have hyl : yn ≤ 30000 := by have := HN.out.1; have := HA.out.2.1; rw [BS.out.hx, List.length_append] at this; omega
        have hSl : S.length ≤ 40056 := by
          rw [HS.out, List.length_append, show head2.length = 56 from by decide]
          have h1 := BS.out.el
          have h2 := BS.out.ile
          have h3 := HN.out.2
          have h4 := HN.out.1
          have h5 := HA.out.2.1
          rw [BS.out.hx, List.length_append] at h5
          omega
        by_cases hy : y = []
        · have hye : List.isEmpty y = true := by rw [hy]; rfl
          have henc : Enc e l := by have := BS.out.enc; have h5 := BS.out.hx; rw [hy, List.append_nil] at h5; rw [h5]; exact this
          have HE := Lib.hid (And.intro henc (And.intro (show S.length ≤ 70100 by omega) (show e.length ≤ 65000 by rw [HS.out, List.length_append] at hSl; omega)))
          clear hy henc hyn hyl
          by_cases hlt : i < cn
          · have b1 : decide ((i : Int) < (cn : Int)) = true := by rw [decide_eq_true_eq]; omega
            go_upto_region 19 with fail
            have HLOW := Lib.hid BS.out.low
            obtain ⟨y5, hy5⟩ : ∃ x, x = S ++ [48, 48, 13, 10, 72, 111, 115, 116, 58, 32, 122, 13, 10, 13, 10] := ⟨_, rfl⟩
            obtain ⟨y6, hy6⟩ : ∃ x, x = y5 ++ bh := ⟨_, rfl⟩
            have hread : readAll y6 = .ok (rq2 l, y5.length) := by
              rw [hy6, hy5, HS.out]
              exact stays_ok (read2 HE.out.1 HE.out.2.2) bh
            have l5 : y5.length = S.length + 15 := by rw [hy5, List.length_append]; rfl
            have l6 : y6.length = y5.length + bh.length := by rw [hy6, List.length_append]
            have q5 : (⟨S.toArray⟩ : ByteArray) ++ ⟨#[48, 48, 13, 10, 72, 111, 115, 116, 58, 32, 122, 13, 10, 13, 10]⟩ = ⟨y5.toArray⟩ := cat_eq hy5.symm
            have q6 : (⟨y5.toArray⟩ : ByteArray) ++ ⟨bh.toArray⟩ = ⟨y6.toArray⟩ := cat_eq hy6.symm
            have hSL := HE.out.2.1
            have hBL := HB.out
            have n5 : ¬ (9223372036854775807 < S.length + 15) := by omega
            have n6 : ¬ (9223372036854775807 < y5.length + bh.length) := by omega
            have cm := fun (S : Option Addr) (k : Nat) (W : World) (h : RB W S y6) (hk : y6.length ≤ k) => read_any S y6.length k y6 W h rfl hk (by omega)
            simp only [hread] at cm
            unfold ReadPost at cm
            simp only [rq2] at cm
            rw [← HA.out.2.1] at cm
            have CM := Lib.hid cm
            have HL6 := Lib.hid (show y6.length ≤ 1073841824 by omega)
            clear cm hread hy5 hy6 l5 l6 hSL hBL
            go_upto_region 21 with (first
              | ((with_reducible show wpList _ _ _ (⟨some 114, _, _, _, _, _⟩ :: _) _ _); go_must (refine WireW.wpList_conv rfl (.tmp 113) rfl y6 rfl (by have := HL6.out; unfold maxLen; omega) ?_); intro v6 w6 ho6 hb6; obtain ⟨A6, k6, rfl, hk6⟩ := OwnB.form ho6 rfl; have O6 := Lib.hid (And.intro (OwnB.rd ho6) hk6); have L6 := Lib.hid (gt HLOW.out hb6); clear ho6 hb6 hk6)
              | (go_at_call 16; (with_reducible show Calls _ _ #[_] _ _); go_must (refine (CM.out _ _ _ O6.out.1 O6.out.2).mono ?_); rintro e w7 hp; obtain ⟨hb, A2, k2, P2, q2, K2, rfl, ho2, hK2, hw2, hob2⟩ := hp; have L7 := Lib.hid (gt L6.out hb); have R2 := Lib.hid (And.intro hw2 hob2); clear ho2 hK2 hw2 hob2; clear hb)
              | ((with_reducible show wpList _ _ _ (⟨none, .store _ (.tmp 8) _, _, _, _, _⟩ :: _) _ _); go_must (refine wpList_storeB AR rfl (.tmp 8) (.tmp 116) rfl h8 0 rfl [.string ⟨#[80, 85, 84]⟩, .string ⟨#[47, 121]⟩, .slice A2 2 k2, .slice P2 n q2, .bool false] rfl rfl _ _ (HC8.out.1.grow L7.out) (by simp) (by simp [Value.oneCell']) ?_); intro w8 hBy hgy hzy
                 simp only [splice, List.take_zero, List.nil_append, List.length_cons, List.length_nil, List.drop_succ_cons, List.drop_zero, List.append_nil, Nat.zero_add, List.drop_nil] at hBy
                 have C9 := Lib.hid (And.intro hBy hgy)
                 clear hBy hgy hzy))
            have hh8 : h8 < K2 := by have := HC8.out.1.lt; have := L6.out.size; have := R2.out.1; omega
            have hb8 : Below w.heap.size w w8 := (HB3.out.trans (L7.out.mono HB3.out.size)).grown C9.out.2 (Nat.le_trans HB3.out.size L7.out.size) (fun j hj => by injection hj with hj; have := HC8.out.2; omega)
            have u2 := C9.out.1.cell 2
            have u3 := C9.out.1.cell 3
            simp only [List.getElem?_cons_succ, List.getElem?_cons_zero] at u2 u3
            have kc1 := conv_s w8 HA.out.2.1 (own_rv (own_line R2.out.2 C9.out.2 hh8)).rb q2
            have kc2 := conv_s w8 HA.out.2.1 (HA.out.1.below hb8) c
            have HB8 := Lib.hid hb8
            clear hb8 hh8 q5 q6 n5 n6
            go_wp2
            go_ret
            exact ⟨rfl, HB8.out⟩
          · have b1 : decide ((i : Int) < (cn : Int)) = false := by rw [decide_eq_false_iff_not]; omega
            go_upto_region 19 with fail
            have HLOW := Lib.hid BS.out.low
            obtain ⟨y5, hy5⟩ : ∃ x, x = S ++ [48, 48, 13, 10, 72, 111, 115, 116, 58, 32, 122, 13, 10, 13, 10] := ⟨_, rfl⟩
            obtain ⟨y6, hy6⟩ : ∃ x, x = y5 ++ bh := ⟨_, rfl⟩
            have hread : readAll y6 = .ok (rq2 l, y5.length) := by
              rw [hy6, hy5, HS.out]
              exact stays_ok (read2 HE.out.1 HE.out.2.2) bh
            have l5 : y5.length = S.length + 15 := by rw [hy5, List.length_append]; rfl
            have l6 : y6.length = y5.length + bh.length := by rw [hy6, List.length_append]
            have q5 : (⟨S.toArray⟩ : ByteArray) ++ ⟨#[48, 48, 13, 10, 72, 111, 115, 116, 58, 32, 122, 13, 10, 13, 10]⟩ = ⟨y5.toArray⟩ := cat_eq hy5.symm
            have q6 : (⟨y5.toArray⟩ : ByteArray) ++ ⟨bh.toArray⟩ = ⟨y6.toArray⟩ := cat_eq hy6.symm
            have hSL := HE.out.2.1
            have hBL := HB.out
            have n5 : ¬ (9223372036854775807 < S.length + 15) := by omega
            have n6 : ¬ (9223372036854775807 < y5.length + bh.length) := by omega
            have cm := fun (S : Option Addr) (k : Nat) (W : World) (h : RB W S y6) (hk : y6.length ≤ k) => read_any S y6.length k y6 W h rfl hk (by omega)
            simp only [hread] at cm
            unfold ReadPost at cm
            simp only [rq2] at cm
            rw [← HA.out.2.1] at cm
            have CM := Lib.hid cm
            have HL6 := Lib.hid (show y6.length ≤ 1073841824 by omega)
            clear cm hread hy5 hy6 l5 l6 hSL hBL
            go_upto_region 21 with (first
              | ((with_reducible show wpList _ _ _ (⟨some 114, _, _, _, _, _⟩ :: _) _ _); go_must (refine WireW.wpList_conv rfl (.tmp 113) rfl y6 rfl (by have := HL6.out; unfold maxLen; omega) ?_); intro v6 w6 ho6 hb6; obtain ⟨A6, k6, rfl, hk6⟩ := OwnB.form ho6 rfl; have O6 := Lib.hid (And.intro (OwnB.rd ho6) hk6); have L6 := Lib.hid (gt HLOW.out hb6); clear ho6 hb6 hk6)
              | (go_at_call 16; (with_reducible show Calls _ _ #[_] _ _); go_must (refine (CM.out _ _ _ O6.out.1 O6.out.2).mono ?_); rintro e w7 hp; obtain ⟨hb, A2, k2, P2, q2, K2, rfl, ho2, hK2, hw2, hob2⟩ := hp; have L7 := Lib.hid (gt L6.out hb); have R2 := Lib.hid (And.intro hw2 hob2); clear ho2 hK2 hw2 hob2; clear hb)
              | ((with_reducible show wpList _ _ _ (⟨none, .store _ (.tmp 8) _, _, _, _, _⟩ :: _) _ _); go_must (refine wpList_storeB AR rfl (.tmp 8) (.tmp 116) rfl h8 0 rfl [.string ⟨#[80, 85, 84]⟩, .string ⟨#[47, 121]⟩, .slice A2 2 k2, .slice P2 n q2, .bool false] rfl rfl _ _ (HC8.out.1.grow L7.out) (by simp) (by simp [Value.oneCell']) ?_); intro w8 hBy hgy hzy
                 simp only [splice, List.take_zero, List.nil_append, List.length_cons, List.length_nil, List.drop_succ_cons, List.drop_zero, List.append_nil, Nat.zero_add, List.drop_nil] at hBy
                 have C9 := Lib.hid (And.intro hBy hgy)
                 clear hBy hgy hzy))
            have hh8 : h8 < K2 := by have := HC8.out.1.lt; have := L6.out.size; have := R2.out.1; omega
            have hb8 : Below w.heap.size w w8 := (HB3.out.trans (L7.out.mono HB3.out.size)).grown C9.out.2 (Nat.le_trans HB3.out.size L7.out.size) (fun j hj => by injection hj with hj; have := HC8.out.2; omega)
            have u2 := C9.out.1.cell 2
            have u3 := C9.out.1.cell 3
            simp only [List.getElem?_cons_succ, List.getElem?_cons_zero] at u2 u3
            have kc1 := conv_s w8 HA.out.2.1 (own_rv (own_line R2.out.2 C9.out.2 hh8)).rb q2
            have kc2 := conv_s w8 HA.out.2.1 (HA.out.1.below hb8) c
            have HB8 := Lib.hid hb8
            clear hb8 hh8 q5 q6 n5 n6
            go_wp2
            go_ret
            exact ⟨rfl, HB8.out⟩
        · have hye : List.isEmpty y = false := by cases y with | nil => exact absurd rfl hy | cons a b => rfl
          by_cases hlt : i < cn
          · have b1 : decide ((i : Int) < (cn : Int)) = true := by rw [decide_eq_true_eq]; omega
            have hil : i < zs.length := by rw [← HZ.out.2]; exact hlt
            have hlowr : Below w.heap.size w wr := HB3.out.trans (BS.out.low.mono HB3.out.size)
            obtain ⟨ad, hAd, hcell⟩ := (HZ.out.1.below hlowr) i hil
            obtain ⟨zn, hzn⟩ : ∃ z, z = (zs[i]).toNat := ⟨_, rfl⟩
            unfold bv at hcell
            rw [← hzn] at hcell
            have hz1 : zn ≤ 255 := by rw [hzn]; have := (zs[i]).toNat_lt; omega
            have hi0 : (0 : Int) ≤ (i : Int) := by omega
            have hz0 : (0 : Int) ≤ (zn : Int) := by omega
            have hz2 : (zn : Int) ≤ 255 := by omega
            have hlt' : (i : Int) < (cn : Int) := by omega
            subst hAd
            have HY := Lib.hid (And.intro hy (And.intro hyn (And.intro hyl (And.intro hSl (And.intro hz1 (And.intro hlt hlowr))))))
            clear hil hzn hlowr hy hyl hSl hlt hyn hz1
            go_upto_region 15 with fail
            rw [← HY.out.2.1]
            obtain ⟨k, hk⟩ : ∃ k, k = min (zn + 1) yn := ⟨_, rfl⟩
            have hki : min ((zn : Int) + 1) (yn : Int) = (k : Int) := by omega
            have hky : k ≤ yn := by omega
            have hk1 : 1 ≤ k := by
              have : yn ≠ 0 := fun e0 => HY.out.1 (List.length_eq_zero_iff.1 (by rw [← HY.out.2.1]; exact e0))
              omega
            have hk256 : k ≤ 256 := by have := HY.out.2.2.2.2.1; omega
            rw [hki]
            clear hki hk
            obtain ⟨yk, hyk⟩ : ∃ x, x = y.take k := ⟨_, rfl⟩
            obtain ⟨yd, hyd⟩ : ∃ x, x = y.drop k := ⟨_, rfl⟩
            obtain ⟨H, hH⟩ : ∃ x, x = hexD k := ⟨_, rfl⟩
            have hHl : H.length ≤ 3 := by rw [hH]; have := hexD_len 2 k (by omega); omega
            have chex := fun (W : World) => hex_any k k W (Nat.le_refl _) (by omega)
            rw [← hH] at chex
            obtain ⟨t1, ht1⟩ : ∃ x, x = H ++ [59, 32, 120, 13, 10] := ⟨_, rfl⟩
            obtain ⟨t2, ht2⟩ : ∃ x, x = t1 ++ yk := ⟨_, rfl⟩
            obtain ⟨t3, ht3⟩ : ∃ x, x = t2 ++ [13, 10] := ⟨_, rfl⟩
            obtain ⟨S2, hS2⟩ : ∃ x, x = S ++ t3 := ⟨_, rfl⟩
            have hykl : yk.length = k := by rw [hyk, List.length_take]; have := HY.out.2.1; omega
            have hykn : yk ≠ [] := by intro e0; rw [e0] at hykl; simp at hykl; omega
            have henc : Enc t3 yk := by
              have := Enc.cut hykn (by omega)
              rw [hykl, ← hH] at this
              rw [ht3, ht2, ht1]
              simpa [crlf] using this
            have ht3l : t3.length ≤ k + 10 := by rw [ht3, ht2, ht1]; simp; omega
            have hye2 : y = yk ++ yd := by rw [hyk, hyd, List.take_append_drop]
            have q1 : (⟨H.toArray⟩ : ByteArray) ++ ⟨#[59, 32, 120, 13, 10]⟩ = ⟨t1.toArray⟩ := cat_eq ht1.symm
            have q2 : (⟨t1.toArray⟩ : ByteArray) ++ ⟨yk.toArray⟩ = ⟨t2.toArray⟩ := cat_eq ht2.symm
            have q3 : (⟨t2.toArray⟩ : ByteArray) ++ ⟨#[13, 10]⟩ = ⟨t3.toArray⟩ := cat_eq ht3.symm
            have q4 : (⟨S.toArray⟩ : ByteArray) ++ ⟨t3.toArray⟩ = ⟨S2.toArray⟩ := cat_eq hS2.symm
            have t1l : t1.length ≤ 8 := by rw [ht1]; simp; omega
            have t2l : t2.length ≤ 264 := by rw [ht2, List.length_append]; omega
            have n1 : ¬ (9223372036854775807 < H.length + 5) := by omega
            have n2 : ¬ (9223372036854775807 < t1.length + yk.length) := by omega
            have n3 : ¬ (9223372036854775807 < t2.length + 2) := by omega
            have n4 : ¬ (9223372036854775807 < S.length + t3.length) := by have := HY.out.2.2.2.1; omega
            have ex1 : (⟨y.toArray⟩ : ByteArray).extract 0 k = ⟨yk.toArray⟩ := by rw [Lib.extract_eq, hyk]; simp
            have ex2 : (⟨y.toArray⟩ : ByteArray).extract k yn = ⟨yd.toArray⟩ := by
              rw [Lib.extract_eq, hyd]
              simp only [List.toList_toArray]
              rw [List.take_of_length_le (by rw [List.length_drop, ← HY.out.2.1]; exact Nat.le_refl _)]
            have hyn0 : y.length = yn := HY.out.2.1.symm
            have i1 : (0 : Int) ≤ (k : Int) := by omega
            have i2 : (k : Int) ≤ (yn : Int) := by omega
            have CH := Lib.hid chex
            have HT := Lib.hid (And.intro henc (And.intro ht3l (And.intro hye2 (And.intro hS2 (And.intro hykl hk1)))))
            clear hye henc ht3l hye2 hS2 ht1 ht2 ht3 hH hyk hyd hHl chex hykl hykn t1l t2l hky hk1 hk256 hcell
            try simp only [Act.put, List.setIfInBounds_toArray, List.set_cons_succ, List.set_cons_zero]
            refine wp_region_qb (by kernel_rfl) (by kernel_rfl) ?_
            go_big_quiet_step (fail)
            go_big_quiet_step (fail)
            refine wq_call (f := 20) (args := #[.int .i64 (k : Int)]) (v := .string ⟨H.toArray⟩) rfl (fun w' _ => by go_simp) (fun w' hC => CH.out w') ?_
            simp only [Act.put, List.setIfInBounds_toArray, List.set_cons_succ, List.set_cons_zero]
            refine wq_val (o := ⟨some 86, _, _, _, _, _⟩) (v := .string ⟨t1.toArray⟩) rfl (fun w' hC => by go_simp) ?_
            simp only [Act.put, List.setIfInBounds_toArray, List.set_cons_succ, List.set_cons_zero]
            go_big_quiet_step (fail)
            go_big_quiet_step (fail)
            refine wq_val (o := ⟨some 89, _, _, _, _, _⟩) (v := .string ⟨yk.toArray⟩) rfl (fun w' hC => by go_simp) ?_
            simp only [Act.put, List.setIfInBounds_toArray, List.set_cons_succ, List.set_cons_zero]
            refine wq_val (o := ⟨some 90, _, _, _, _, _⟩) (v := .string ⟨t2.toArray⟩) rfl (fun w' hC => by go_simp) ?_
            simp only [Act.put, List.setIfInBounds_toArray, List.set_cons_succ, List.set_cons_zero]
            refine wq_val (o := ⟨some 91, _, _, _, _, _⟩) (v := .string ⟨t3.toArray⟩) rfl (fun w' hC => by go_simp) ?_
            simp only [Act.put, List.setIfInBounds_toArray, List.set_cons_succ, List.set_cons_zero]
            refine wq_val (o := ⟨some 92, _, _, _, _, _⟩) (v := .string ⟨S2.toArray⟩) rfl (fun w' hC => by go_simp) ?_
            simp only [Act.put, List.setIfInBounds_toArray, List.set_cons_succ, List.set_cons_zero]
            go_big_quiet_step (fail)
            refine wpQuiet_nil ?_
            intro w4 h4
            have L4 := Lib.hid h4
            clear h4 q1 q2 q3 q4 n1 n2 n3 n4 ex1
            go_wp2
            refine ⟨⟨i + 1, e ++ t3, x ++ yk, yd, by rw [HT.out.2.2.2.1, HS.out, List.append_assoc], rfl, by rw [Int.natCast_add]; rfl, ?_⟩, by simp only [intOf]; have := HY.out.2.2.2.2.2.1; omega⟩
            refine ⟨by rw [BS.out.hx, HT.out.2.2.1, List.append_assoc], BS.out.enc.join HT.out.1, ?_, by have := HY.out.2.2.2.2.2.1; omega, gt BS.out.low L4.out⟩
            have h1 := BS.out.el
            have h2 := HT.out.2.1
            have h3 := HT.out.2.2.2.2.1
            rw [List.length_append, List.length_append]
            omega
          · have b1 : decide ((i : Int) < (cn : Int)) = false := by rw [decide_eq_false_iff_not]; omega
            go_upto_region 18 with fail
            have hT := Enc.tail hy (by rw [← hyn]; omega)
            rw [← hyn] at hT
            obtain ⟨H, hH⟩ : ∃ x, x = hexD yn := ⟨_, rfl⟩
            have hHl : H.length ≤ 4 := by rw [hH]; have := hexD_len 3 yn (by omega); omega
            have chex := fun (W : World) => hex_any yn yn W (Nat.le_refl _) (by omega)
            rw [← hH] at chex hT
            obtain ⟨t1, ht1⟩ : ∃ x, x = [48] ++ H := ⟨_, rfl⟩
            obtain ⟨t2, ht2⟩ : ∃ x, x = t1 ++ [13, 10] := ⟨_, rfl⟩
            obtain ⟨t3, ht3⟩ : ∃ x, x = t2 ++ y := ⟨_, rfl⟩
            obtain ⟨t4, ht4⟩ : ∃ x, x = t3 ++ [13, 10] := ⟨_, rfl⟩
            obtain ⟨S2, hS2⟩ : ∃ x, x = S ++ t4 := ⟨_, rfl⟩
            have henc : Enc t4 y := by
              rw [ht4, ht3, ht2, ht1]
              simpa [crlf] using hT
            have q1 : (⟨#[48]⟩ : ByteArray) ++ ⟨H.toArray⟩ = ⟨t1.toArray⟩ := cat_eq ht1.symm
            have q2 : (⟨t1.toArray⟩ : ByteArray) ++ ⟨#[13, 10]⟩ = ⟨t2.toArray⟩ := cat_eq ht2.symm
            have q3 : (⟨t2.toArray⟩ : ByteArray) ++ ⟨y.toArray⟩ = ⟨t3.toArray⟩ := cat_eq ht3.symm
            have q4 : (⟨t3.toArray⟩ : ByteArray) ++ ⟨#[13, 10]⟩ = ⟨t4.toArray⟩ := cat_eq ht4.symm
            have q5 : (⟨S.toArray⟩ : ByteArray) ++ ⟨t4.toArray⟩ = ⟨S2.toArray⟩ := cat_eq hS2.symm
            have t1l : t1.length ≤ 5 := by rw [ht1]; simp; omega
            have t2l : t2.length ≤ 7 := by rw [ht2]; simp; omega
            have t3l : t3.length ≤ 30007 := by rw [ht3, List.length_append, ← hyn]; omega
            have t4l : t4.length ≤ yn + 9 := by rw [ht4, ht3, List.length_append, List.length_append, ← hyn]; simp; omega
            have n1 : ¬ (9223372036854775807 < 1 + H.length) := by omega
            have n2 : ¬ (9223372036854775807 < t1.length + 2) := by omega
            have n3 : ¬ (9223372036854775807 < t2.length + y.length) := by omega
            have n4 : ¬ (9223372036854775807 < t3.length + 2) := by omega
            have n5 : ¬ (9223372036854775807 < S.length + t4.length) := by omega
            have hS3 : S2 = head2 ++ (e ++ t4) := by rw [hS2, HS.out, List.append_assoc]
            have henc2 : Enc (e ++ t4) l := by rw [BS.out.hx]; exact BS.out.enc.join henc
            have hel : (e ++ t4).length ≤ 65000 := by
              have h1 := BS.out.el
              have h2 := BS.out.ile
              have h3 := HN.out.2
              have h4 := HN.out.1
              have h5 := HA.out.2.1
              rw [BS.out.hx, List.length_append, ← hyn] at h5
              rw [List.length_append]
              omega
            have hS2l : S2.length ≤ 70100 := by rw [hS2, List.length_append]; omega
            have hyn0 : y.length = yn := hyn.symm
            have CH := Lib.hid chex
            have HE := Lib.hid (And.intro henc2 (And.intro hS2l hel))
            have HS2 := Lib.hid hS3
            clear hT hHl chex hH ht1 ht2 ht3 ht4 hS2 henc t1l t2l t3l t4l hS3 henc2 hel hS2l hy hyn hyl hSl HS
            go_upto_region 19 with (first
              | (go_at_call 20; go_must (refine (CH.out _).mono ?_); rintro e w4 ⟨rfl, hb4⟩; have L4 := Lib.hid hb4; clear hb4))
            have HLOW := Lib.hid (gt BS.out.low L4.out)
            have HS := HS2
            clear HS2 q1 q2 q3 q4 q5 n1 n2 n3 n4 n5 hyn0 hye
            obtain ⟨e0, he0⟩ : ∃ x, x = e ++ t4 := ⟨_, rfl⟩
            rw [← he0] at HE HS
            obtain ⟨y5, hy5⟩ : ∃ x, x = S2 ++ [48, 48, 13, 10, 72, 111, 115, 116, 58, 32, 122, 13, 10, 13, 10] := ⟨_, rfl⟩
            obtain ⟨y6, hy6⟩ : ∃ x, x = y5 ++ bh := ⟨_, rfl⟩
            have hread : readAll y6 = .ok (rq2 l, y5.length) := by
              rw [hy6, hy5, HS.out]
              exact stays_ok (read2 HE.out.1 HE.out.2.2) bh
            have l5 : y5.length = S2.length + 15 := by rw [hy5, List.length_append]; rfl
            have l6 : y6.length = y5.length + bh.length := by rw [hy6, List.length_append]
            have q5 : (⟨S2.toArray⟩ : ByteArray) ++ ⟨#[48, 48, 13, 10, 72, 111, 115, 116, 58, 32, 122, 13, 10, 13, 10]⟩ = ⟨y5.toArray⟩ := cat_eq hy5.symm
            have q6 : (⟨y5.toArray⟩ : ByteArray) ++ ⟨bh.toArray⟩ = ⟨y6.toArray⟩ := cat_eq hy6.symm
            have hSL := HE.out.2.1
            have hBL := HB.out
            have n5 : ¬ (9223372036854775807 < S2.length + 15) := by omega
            have n6 : ¬ (9223372036854775807 < y5.length + bh.length) := by omega
            have cm := fun (S : Option Addr) (k : Nat) (W : World) (h : RB W S y6) (hk : y6.length ≤ k) => read_any S y6.length k y6 W h rfl hk (by omega)
            simp only [hread] at cm
            unfold ReadPost at cm
            simp only [rq2] at cm
            rw [← HA.out.2.1] at cm
            have CM := Lib.hid cm
            have HL6 := Lib.hid (show y6.length ≤ 1073841824 by omega)
            clear cm hread hy5 hy6 l5 l6 hSL hBL
            go_upto_region 21 with (first
              | ((with_reducible show wpList _ _ _ (⟨some 114, _, _, _, _, _⟩ :: _) _ _); go_must (refine WireW.wpList_conv rfl (.tmp 113) rfl y6 rfl (by have := HL6.out; unfold maxLen; omega) ?_); intro v6 w6 ho6 hb6; obtain ⟨A6, k6, rfl, hk6⟩ := OwnB.form ho6 rfl; have O6 := Lib.hid (And.intro (OwnB.rd ho6) hk6); have L6 := Lib.hid (gt HLOW.out hb6); clear ho6 hb6 hk6)
              | (go_at_call 16; (with_reducible show Calls _ _ #[_] _ _); go_must (refine (CM.out _ _ _ O6.out.1 O6.out.2).mono ?_); rintro e w7 hp; obtain ⟨hb, A2, k2, P2, q2, K2, rfl, ho2, hK2, hw2, hob2⟩ := hp; have L7 := Lib.hid (gt L6.out hb); have R2 := Lib.hid (And.intro hw2 hob2); clear ho2 hK2 hw2 hob2; clear hb)
              | ((with_reducible show wpList _ _ _ (⟨none, .store _ (.tmp 8) _, _, _, _, _⟩ :: _) _ _); go_must (refine wpList_storeB AR rfl (.tmp 8) (.tmp 116) rfl h8 0 rfl [.string ⟨#[80, 85, 84]⟩, .string ⟨#[47, 121]⟩, .slice A2 2 k2, .slice P2 n q2, .bool false] rfl rfl _ _ (HC8.out.1.grow L7.out) (by simp) (by simp [Value.oneCell']) ?_); intro w8 hBy hgy hzy
                 simp only [splice, List.take_zero, List.nil_append, List.length_cons, List.length_nil, List.drop_succ_cons, List.drop_zero, List.append_nil, Nat.zero_add, List.drop_nil] at hBy
                 have C9 := Lib.hid (And.intro hBy hgy)
                 clear hBy hgy hzy))
            have hh8 : h8 < K2 := by have := HC8.out.1.lt; have := L6.out.size; have := R2.out.1; omega
            have hb8 : Below w.heap.size w w8 := (HB3.out.trans (L7.out.mono HB3.out.size)).grown C9.out.2 (Nat.le_trans HB3.out.size L7.out.size) (fun j hj => by injection hj with hj; have := HC8.out.2; omega)
            have u2 := C9.out.1.cell 2
            have u3 := C9.out.1.cell 3
            simp only [List.getElem?_cons_succ, List.getElem?_cons_zero] at u2 u3
            have kc1 := conv_s w8 HA.out.2.1 (own_rv (own_line R2.out.2 C9.out.2 hh8)).rb q2
            have kc2 := conv_s w8 HA.out.2.1 (HA.out.1.below hb8) c
            have HB8 := Lib.hid hb8
            clear hb8 hh8 q5 q6 n5 n6
            go_wp2
            go_ret
            exact ⟨rfl, HB8.out⟩
end Go.Proofs.YtojemdggbcklkaaDoor.WireR
