/- weirlaw04.ShaPieces: the walk. -/
import Derived.Test.YtoemceehmiaigaaDoorLawSums
import Derived.Test.YtoemceehmiaigaaDoorShaAid
namespace Go.Proofs.YtoemceehmiaigaaDoor.LawPieces
open Go.RowKit Go.Proofs.YtoemceehmiaigaaDoor.Mem Go.Proofs.YtoemceehmiaigaaDoor.Loan Go.Proofs.YtoemceehmiaigaaDoor.Sha Go.Proofs.YtoemceehmiaigaaDoor.LawSums

def intsV (zs : List Int) : List Value := zs.map fun z => .int .i64 z

theorem write_n (b q r : List UInt8) (A : Option Addr) (n c : Nat) (w : World) (hn : n = q.length) (hq : RB w A q) (hcap : n ≤ c) (hG : GB w) (hlen : b.length + n < 4611686018427387904) (hr : b ++ q = r) :
    Calls Tryd.prog 26 #[.agg (hashCells b).toArray, .slice A n c] w fun e w' => e = .returned (.agg (hashCells r).toArray) ∧ Below w.heap.size w w' := by
  subst hn hr; exact write_any b q A c w hq hcap hG hlen

/-- what lies in memory between the pieces -/
def PX (w : World) (b5 : Nat) (h : List UInt8) (W : World) : Prop := Blk W b5 43 (hashCells h) ∧ w.heap.size ≤ b5 ∧ Below w.heap.size w W

set_option maxHeartbeats 3200000 in
set_option maxRecDepth 40000 in
theorem law_any (A : Option Addr) (c : Nat) (l : List UInt8) (C : Option Addr) (cc : Nat) (zs : List Int) (w : World) (ha : RB w A l) (hcap : l.length ≤ c) (hA : A = none → c = 0) (hc : c ≤ maxLen) (hl : l.length ≤ 1048576)
    (hz : RV w C (intsV zs)) (hzb : ∀ z ∈ zs, -9223372036854775808 ≤ z ∧ z ≤ 9223372036854775807) (hzl : zs.length ≤ 1048576) (hG : GB w) :
    Calls Tryd.prog 6 #[.slice A l.length c, .slice C zs.length cc] w fun e w' => e = .returned (.bool true) ∧ Below w.heap.size w w' := by
  have HA := Lib.hid (And.intro ha (And.intro hcap (And.intro hA hc)))
  have HZ := Lib.hid (And.intro hz hzb)
  have HG := Lib.hid hG
  clear ha hcap hA hz hzb hG
  have hidx := abc_index
  have kc := fun (w : World) (C : Array Value) (n c : Nat) => Lib.run_convert_bytes_const (P := Tryd.prog) w 32 5 C n c Tryd.underlying32 Tryd.underlying5
  obtain ⟨d0, hd0⟩ : ∃ d, d = (sumf [97, 98, 99]).map bv := ⟨_, rfl⟩
  rw [← hd0] at hidx
  have HD0 := Lib.hid hd0
  clear hd0
  obtain ⟨h0, hh0⟩ : ∃ h, h = hashCells [] := ⟨_, rfl⟩
  have hh0l : h0.length = (hashCells []).length := by rw [hh0]
  have hh01 : ∀ v ∈ h0, v.oneCell' = true := by rw [hh0]; exact hash_one _
  have HH0 := Lib.hid hh0
  clear hh0
  obtain ⟨L, hL⟩ : ∃ L, L = l.length := ⟨_, rfl⟩
  rw [← hL] at hl ⊢
  have HL := Lib.hid hL
  clear hL
  have hll : (zs.length : Int) ≤ 9223372036854775807 := by omega
  go_enter Tryd.func6, Tryd.ntmps6
  go_wp2_with (first
    | (go_at_call 19; go_must (refine (psum_any [97, 98, 99] _ _ _ ((rvm_new w [bv 97, bv 98, bv 99] _ _).rb' [97, 98, 99] rfl) (by decide) (by decide) (HG.out.grow (ga (gr w) _))).mono ?_); rintro e w1 ⟨he, hb1⟩; rw [← HD0.out] at he; subst he)
    | (go_at_call 25; go_must (refine (new_any _).mono ?_); rintro e w2 ⟨he, hb2⟩; rw [← HH0.out] at he; subst he)
    | ((with_reducible show wpList _ _ _ (⟨some 5, _, _, _, _, _⟩ :: _) _ _); go_must (refine wpList_allocB (op := ⟨some 5, _, _, _, _, _⟩) A43 rfl rfl w2.heap.size rfl ?_); intro w3 hB3 hb3 hz3)
    | ((with_reducible show wpList _ _ _ (⟨none, .store 43 _ _, _, _, _, _⟩ :: _) _ _); go_must (refine wpList_storeB (op := ⟨none, _, _, _, _, _⟩) A43 rfl _ _ rfl w2.heap.size 0 rfl h0 rfl hh0l _ _ hB3 (Nat.le_of_eq ((Nat.zero_add _).trans hh0l)) hh01 ?_); intro w4 hB4 hg4 hz4))
  have hb0 : Below w.heap.size w w1 := gt (ga (gr w) _) hb1
  have h14 : Below w1.heap.size w1 w4 := gst hb2 hb3 hg4 hb2.size
  rw [splice_all _ _ hh0l, HH0.out] at hB4
  have hX : PX w w2.heap.size (l.take 0) w4 := by
    refine ⟨by rw [List.take_zero]; exact hB4, ?_, hb0.trans (h14.mono hb0.size)⟩
    have := hb0.size; have := hb2.size; omega
  obtain ⟨b5, hb5⟩ : ∃ b, b = w2.heap.size := ⟨_, rfl⟩
  rw [← hb5] at hX ⊢
  have HX := Lib.hid hX
  clear hb1 hb2 hB3 hb3 hz3 hB4 hg4 hz4 hb0 h14 hX hb5 kc hidx
  go_loopw [6, 18] (fun v i wr => ∃ at_ k : Nat, at_ ≤ L ∧ k ≤ zs.length ∧ v = .int .i64 at_ ∧ i = .int .i64 k ∧ PX w b5 (l.take at_) wr) (fun _ i _ => zs.length - (intOf i).toNat)
  case atStart => exact ⟨0, 0, by omega, by omega, rfl, rfl, HX.out⟩
  case round =>
    clear HX
    obtain ⟨at_, k, hat, hk, rfl, rfl, X⟩ := hrel
    have HX := Lib.hid X
    clear X
    by_cases hlt : k < zs.length
    -- A>
    · have hlenz : k < (intsV zs).length := by rw [intsV, List.length_map]; exact hlt
      obtain ⟨ad, hC, hc'⟩ := HZ.out.1 k hlenz
      obtain ⟨z, hz⟩ : ∃ z, z = zs[k] := ⟨_, rfl⟩
      have hzz := HZ.out.2 z (by rw [hz]; exact List.getElem_mem _)
      have hcell : ∀ W, Below w.heap.size w W → W.cell? (ad.add k) = some (.int .i64 z) := fun W hW => (HZ.out.1.below hW).cells hC k _ (by rw [intsV, List.getElem?_map, List.getElem?_eq_getElem hlt, hz]; rfl)
      have hcell0 := hcell _ HX.out.2.2
      obtain ⟨n, hn⟩ : ∃ n, n = placeN z (L - at_ + 1) := ⟨_, rfl⟩
      have hnle : n ≤ L - at_ := by have := placeN_lt z (L - at_ + 1) (by omega); omega
      have HN := Lib.hid (And.intro hn (And.intro hzz (And.intro hcell HX.out.1)))
      subst hC
      clear hz hn hzz hc' hlenz hcell
      have x1 : (at_ : Int) ≤ (L : Int) := by omega
      have x2 : (L : Int) ≤ 1048576 := by omega
      have x3 : (n : Int) ≤ (L : Int) - (at_ : Int) := by omega
      have y1 : (0 : Int) ≤ (at_ : Int) := by omega
      have e1 : (L : Int) - (at_ : Int) + 1 = ((L - at_ + 1 : Nat) : Int) := by omega
      obtain ⟨M, hM⟩ : ∃ M, M = L - at_ + 1 := ⟨_, rfl⟩
      rw [← hM] at e1
      have HM := Lib.hid hM
      clear hM
      go_upto_region 9 with (first
        | (go_at_call 28; go_must (refine (place_any z M HN.out.2.1 (by have := HM.out; omega) (by have := HM.out; omega) _).mono ?_); rintro e w5 ⟨he, rfl⟩; rw [HM.out, ← HN.out.1] at he; subst he))
      obtain ⟨at2, hat2⟩ : ∃ x, x = at_ + n := ⟨_, rfl⟩
      have hat2L : at2 ≤ L := by omega
      have e2 : (at_ : Int) + (n : Int) = (at2 : Int) := by omega
      have m2 : IntKind.i64.wrap (at2 : Int) = (at2 : Int) := by rw [IntKind.wrap_i64]; omega
      obtain ⟨ha, hha⟩ : ∃ x, x = hashCells (l.take at_) := ⟨_, rfl⟩
      have hal : ha.length = (hashCells []).length := by rw [hha, hashCells_length, hashCells_length]
      obtain ⟨hb, hhb⟩ : ∃ x, x = hashCells (l.take at2) := ⟨_, rfl⟩
      have hbl : hb.length = (hashCells []).length := by rw [hhb, hashCells_length, hashCells_length]
      have hb1 : ∀ v ∈ hb, v.oneCell' = true := by rw [hhb]; exact hash_one _
      have hsub : n = ((l.drop at_).take n).length := by rw [List.length_take, List.length_drop]; have := HL.out; omega
      have hjoin : l.take at_ ++ (l.drop at_).take n = l.take at2 := by rw [hat2, List.take_add]
      have HAB := Lib.hid (And.intro hha (And.intro hhb (And.intro hsub hjoin)))
      have hBa : Blk w5 b5 43 ha := by rw [hha]; exact HX.out.1
      have HBa := Lib.hid hBa
      have HAT := Lib.hid hat2
      clear hha hhb hat2 hBa hsub hjoin
      refine wp_region_qbT 8 (by kernel_rfl) (by kernel_rfl) ?_
      simp only [List.take_succ_cons, List.take_zero, List.drop_succ_cons, List.drop_zero]
      refine wq_loadB (o := ⟨some 29, _, _, _, _, _⟩) A43 rfl _ rfl b5 0 rfl _ _ (fun w' hC => From.blk hC HBa.out) ha ((congrArg (List.take _) List.drop_zero).trans (List.take_of_length_le (Nat.le_of_eq hal))) hal ?_
      simp only [Act.put, List.setIfInBounds_toArray, List.set_cons_succ, List.set_cons_zero]
      go_big_quiet_step (fail)
      go_big_quiet_step (fail)
      go_big_quiet_step (fail)
      go_big_quiet_step (fail)
      refine wq_val (o := ⟨some 34, _, _, _, _, _⟩) (v := .int .i64 (at2 : Int)) rfl (fun w' _ => by go_simp) ?_
      simp only [Act.put, List.setIfInBounds_toArray, List.set_cons_succ, List.set_cons_zero]
      refine wq_val (o := ⟨some 35, _, _, _, _, _⟩) (v := .slice (subA A c at_) (at2 - at_) (c - at_)) rfl (fun w' _ => slice_op2 rfl rfl rfl rfl HA.out.2.2.1 (by have := HAT.out; omega) (by have := HA.out.2.1; have := HL.out; omega) HA.out.2.2.2 w') ?_
      simp only [Act.put, List.setIfInBounds_toArray, List.set_cons_succ, List.set_cons_zero]
      rw [show at2 - at_ = n by have := HAT.out; omega]
      refine wq_call (f := 26) (args := #[.agg ha.toArray, .slice (subA A c at_) n (c - at_)]) (v := .agg hb.toArray) rfl (fun w' _ => by go_simp) (fun w' hC => ?_) ?_
      · have hlow : Below w.heap.size w w' := HX.out.2.2.trans (hC.mono HX.out.2.2.size)
        rw [HAB.out.1, HAB.out.2.1]
        exact write_n (l.take at_) ((l.drop at_).take n) (l.take at2) _ n _ w' HAB.out.2.2.1 (subA_rb (HA.out.1.below hlow) c at_ n HA.out.2.1) (by have := HA.out.2.1; have := HL.out; omega) (HG.out.grow hlow) (by rw [List.length_take]; omega) HAB.out.2.2.2
      simp only [Act.put, List.setIfInBounds_toArray, List.set_cons_succ, List.set_cons_zero]
      refine wpQuiet_nil ?_
      intro w6 h6
      go_upto_region 11 with (first
        | ((with_reducible show wpList _ _ _ (⟨none, .store 43 _ _, _, _, _, _⟩ :: _) _ _); go_must (refine wpList_storeB (op := ⟨none, _, _, _, _, _⟩) A43 rfl _ _ rfl b5 0 rfl hb rfl hbl _ _ (HBa.out.grow h6) (by rw [hbl, hal]; exact Nat.le_of_eq (Nat.zero_add _)) hb1 ?_); intro w7 hB7 hg7 hz7))
      have h57 : Below b5 w5 w7 := (Below.mono h6 (Nat.le_of_lt HBa.out.lt)).grown hg7 (by have := h6.size; have := HBa.out.lt; omega) (fun j hj => by simp at hj; omega)
      have hX7 : PX w b5 (l.take at2) w7 := ⟨by rw [splice_all _ _ (hbl.trans hal.symm), HAB.out.2.1] at hB7; exact hB7, HX.out.2.1, HX.out.2.2.trans (h57.mono HX.out.2.1)⟩
      replace HX := Lib.hid hX7
      have hB7' : Blk w7 b5 43 hb := by rw [splice_all _ _ (hbl.trans hal.symm)] at hB7; exact hB7
      have HB7 := Lib.hid hB7'
      clear hX7 hB7' hB7 hg7 hz7 h57 h6
      have hneq := dig_eql (l.take at2)
      have heqi := dig_eqi (l.take at2)
      obtain ⟨d, hd⟩ : ∃ d, d = (sumf (l.take at2)).map bv := ⟨_, rfl⟩
      rw [← hd] at hneq heqi
      have HD := Lib.hid hd
      clear hd
      refine wp_region_qb (by kernel_rfl) (by kernel_rfl) ?_
      refine wq_loadB (o := ⟨some 40, _, _, _, _, _⟩) A43 rfl _ rfl b5 0 rfl _ _ (fun w' hC => From.blk hC HB7.out) hb ((congrArg (List.take _) List.drop_zero).trans (List.take_of_length_le (Nat.le_of_eq hbl))) hbl ?_
      simp only [Act.put, List.setIfInBounds_toArray, List.set_cons_succ, List.set_cons_zero]
      refine wq_call (f := 27) (args := #[.agg hb.toArray]) (v := .agg d.toArray) rfl (fun w' _ => by go_simp) (fun w' hC => ?_) ?_
      · have hlow : Below w.heap.size w w' := HX.out.2.2.trans (hC.mono HX.out.2.2.size)
        rw [HAB.out.2.1, HD.out]
        exact sum_any (l.take at2) w' (HG.out.grow hlow) (by rw [List.length_take]; omega)
      simp only [Act.put, List.setIfInBounds_toArray, List.set_cons_succ, List.set_cons_zero]
      go_big_quiet_step (fail)
      go_big_quiet_step (fail)
      refine wq_val (o := ⟨some 44, _, _, _, _, _⟩) (v := .slice A at2 c) rfl (fun w' _ => slice_op1 rfl rfl rfl (by have := HA.out.2.1; have := HL.out; omega) HA.out.2.2.2 w') ?_
      simp only [Act.put, List.setIfInBounds_toArray, List.set_cons_succ, List.set_cons_zero]
      refine wq_call (f := 19) (args := #[.slice A at2 c]) (v := .agg d.toArray) rfl (fun w' _ => by go_simp) (fun w' hC => ?_) ?_
      · have hlow : Below w.heap.size w w' := HX.out.2.2.trans (hC.mono HX.out.2.2.size)
        rw [HD.out]
        exact psum_n (l.take at2) A at2 c w' (by rw [List.length_take]; have := HL.out; omega) ((HA.out.1.below hlow).take at2) (by have := HA.out.2.1; have := HL.out; omega) (by omega) (HG.out.grow hlow)
      simp only [Act.put, List.setIfInBounds_toArray, List.set_cons_succ, List.set_cons_zero]
      refine wq_val (o := ⟨some 46, _, _, _, _, _⟩) (v := .bool false) rfl (fun w' _ => by go_simp) ?_
      simp only [Act.put, List.setIfInBounds_toArray, List.set_cons_succ, List.set_cons_zero]
      go_big_quiet_step (fail)
      refine wq_loadB (o := ⟨some 48, _, _, _, _, _⟩) A43 rfl _ rfl b5 0 rfl _ _ (fun w' hC => From.blk hC HB7.out) hb ((congrArg (List.take _) List.drop_zero).trans (List.take_of_length_le (Nat.le_of_eq hbl))) hbl ?_
      simp only [Act.put, List.setIfInBounds_toArray, List.set_cons_succ, List.set_cons_zero]
      refine wq_call (f := 29) (args := #[.agg hb.toArray]) (v := .int .i64 (at2 : Int)) rfl (fun w' _ => by go_simp) (fun w' hC => ?_) ?_
      · rw [HAB.out.2.1]
        refine (len_any (l.take at2) w').mono fun e w'' h => ⟨?_, h.2⟩
        rw [h.1, List.length_take]
        have := HL.out
        rw [Nat.min_eq_left (by omega)]
      simp only [Act.put, List.setIfInBounds_toArray, List.set_cons_succ, List.set_cons_zero]
      go_big_quiet_step (fail)
      refine wq_val (o := ⟨some 51, _, _, _, _, _⟩) (v := .bool false) rfl (fun w' _ => by go_simp) ?_
      simp only [Act.put, List.setIfInBounds_toArray, List.set_cons_succ, List.set_cons_zero]
      refine wq_val (o := ⟨some 52, _, _, _, _, _⟩) (v := .bool false) rfl (fun w' _ => by go_simp) ?_
      simp only [Act.put, List.setIfInBounds_toArray, List.set_cons_succ, List.set_cons_zero]
      refine wpQuiet_nil ?_
      intro w8 h8
      have hX8 : PX w b5 (l.take at2) w8 := ⟨HX.out.1.grow h8, HX.out.2.1, HX.out.2.2.trans (h8.mono HX.out.2.2.size)⟩
      clear heqi hneq h8 e1 e2
      go_wp2
      exact ⟨⟨at2, k + 1, by omega, by omega, rfl, by go_num, hX8⟩, by simp [intOf]; omega⟩
    -- <A
    · have hkz : (k : Int) = (zs.length : Int) := by omega
      have hcut : l.take at_ ++ l.drop at_ = l := List.take_append_drop at_ l
      obtain ⟨ha, hha⟩ : ∃ x, x = hashCells (l.take at_) := ⟨_, rfl⟩
      have hal : ha.length = (hashCells []).length := by rw [hha, hashCells_length, hashCells_length]
      have hheq := hash_eqi l
      obtain ⟨hb, hhb⟩ : ∃ x, x = hashCells l := ⟨_, rfl⟩
      have hbl : hb.length = (hashCells []).length := by rw [hhb, hashCells_length, hashCells_length]
      have hb1 : ∀ v ∈ hb, v.oneCell' = true := by rw [hhb]; exact hash_one _
      rw [← hhb] at hheq
      have hBa : Blk wr b5 43 ha := by rw [hha]; exact HX.out.1
      have HBa := Lib.hid hBa
      have HAB := Lib.hid (And.intro hha hhb)
      have heqi := dig_eqi l
      obtain ⟨d, hd⟩ : ∃ d, d = (sumf l).map bv := ⟨_, rfl⟩
      rw [← hd] at heqi
      have HD := Lib.hid hd
      clear hd hha hhb hBa
      go_upto_region 14 with fail
      refine wp_region_qbT 5 (by kernel_rfl) (by kernel_rfl) ?_
      simp only [List.take_succ_cons, List.take_zero, List.drop_succ_cons, List.drop_zero]
      refine wq_loadB (o := ⟨some 54, _, _, _, _, _⟩) A43 rfl _ rfl b5 0 rfl _ _ (fun w' hC => From.blk hC HBa.out) ha ((congrArg (List.take _) List.drop_zero).trans (List.take_of_length_le (Nat.le_of_eq hal))) hal ?_
      simp only [Act.put, List.setIfInBounds_toArray, List.set_cons_succ, List.set_cons_zero]
      go_big_quiet_step (fail)
      go_big_quiet_step (fail)
      refine wq_val (o := ⟨some 57, _, _, _, _, _⟩) (v := .slice (subA A c at_) (L - at_) (c - at_)) rfl (fun w' _ => slice_op0 rfl rfl rfl HA.out.2.2.1 hat (by have := HA.out.2.1; have := HL.out; omega) HA.out.2.2.2 w') ?_
      simp only [Act.put, List.setIfInBounds_toArray, List.set_cons_succ, List.set_cons_zero]
      refine wq_call (f := 26) (args := #[.agg ha.toArray, .slice (subA A c at_) (L - at_) (c - at_)]) (v := .agg hb.toArray) rfl (fun w' _ => by go_simp) (fun w' hC => ?_) ?_
      · have hlow : Below w.heap.size w w' := HX.out.2.2.trans (hC.mono HX.out.2.2.size)
        rw [HAB.out.1, HAB.out.2]
        exact write_n (l.take at_) (l.drop at_) l _ (L - at_) _ w' (by rw [List.length_drop]; have := HL.out; omega) (by have h := subA_rb (HA.out.1.below hlow) c at_ (l.length - at_) HA.out.2.1; rwa [List.take_of_length_le (by rw [List.length_drop]; omega)] at h) (by have := HA.out.2.1; have := HL.out; omega) (HG.out.grow hlow) (by rw [List.length_take]; omega) hcut
      simp only [Act.put, List.setIfInBounds_toArray, List.set_cons_succ, List.set_cons_zero]
      refine wpQuiet_nil ?_
      intro w6 h6
      go_upto_region 15 with (first
        | ((with_reducible show wpList _ _ _ (⟨none, .store 43 _ _, _, _, _, _⟩ :: _) _ _); go_must (refine wpList_storeB (op := ⟨none, _, _, _, _, _⟩) A43 rfl _ _ rfl b5 0 rfl hb rfl hbl _ _ (HBa.out.grow h6) (by rw [hbl, hal]; exact Nat.le_of_eq (Nat.zero_add _)) hb1 ?_); intro w7 hB7 hg7 hz7))
      have h57 : Below b5 wr w7 := (Below.mono h6 (Nat.le_of_lt HBa.out.lt)).grown hg7 (by have := h6.size; have := HBa.out.lt; omega) (fun j hj => by simp at hj; omega)
      rw [splice_all _ _ (hbl.trans hal.symm)] at hB7
      have hX7 : PX w b5 l w7 := ⟨by rw [HAB.out.2] at hB7; exact hB7, HX.out.2.1, HX.out.2.2.trans (h57.mono HX.out.2.1)⟩
      replace HX := Lib.hid hX7
      have HB7 := Lib.hid hB7
      clear hX7 hB7 hg7 hz7 h57 h6
      refine wp_region_qb (by kernel_rfl) (by kernel_rfl) ?_
      refine wq_loadB (o := ⟨some 59, _, _, _, _, _⟩) A43 rfl _ rfl b5 0 rfl _ _ (fun w' hC => From.blk hC HB7.out) hb ((congrArg (List.take _) List.drop_zero).trans (List.take_of_length_le (Nat.le_of_eq hbl))) hbl ?_
      simp only [Act.put, List.setIfInBounds_toArray, List.set_cons_succ, List.set_cons_zero]
      refine wq_call (f := 27) (args := #[.agg hb.toArray]) (v := .agg d.toArray) rfl (fun w' _ => by go_simp) (fun w' hC => ?_) ?_
      · have hlow : Below w.heap.size w w' := HX.out.2.2.trans (hC.mono HX.out.2.2.size)
        rw [HAB.out.2, HD.out]
        exact sum_any l w' (HG.out.grow hlow) (by have := HL.out; omega)
      simp only [Act.put, List.setIfInBounds_toArray, List.set_cons_succ, List.set_cons_zero]
      go_big_quiet_step (fail)
      refine wq_call (f := 19) (args := #[.slice A L c]) (v := .agg d.toArray) rfl (fun w' _ => by go_simp) (fun w' hC => ?_) ?_
      · have hlow : Below w.heap.size w w' := HX.out.2.2.trans (hC.mono HX.out.2.2.size)
        rw [HD.out]
        exact psum_n l A L c w' HL.out (HA.out.1.below hlow) (by have := HA.out.2.1; have := HL.out; omega) (by omega) (HG.out.grow hlow)
      simp only [Act.put, List.setIfInBounds_toArray, List.set_cons_succ, List.set_cons_zero]
      refine wq_val (o := ⟨some 63, _, _, _, _, _⟩) (v := .bool true) rfl (fun w' _ => by go_simp) ?_
      simp only [Act.put, List.setIfInBounds_toArray, List.set_cons_succ, List.set_cons_zero]
      go_big_quiet_step (fail)
      refine wq_loadB (o := ⟨some 65, _, _, _, _, _⟩) A43 rfl _ rfl b5 0 rfl _ _ (fun w' hC => From.blk hC HB7.out) hb ((congrArg (List.take _) List.drop_zero).trans (List.take_of_length_le (Nat.le_of_eq hbl))) hbl ?_
      simp only [Act.put, List.setIfInBounds_toArray, List.set_cons_succ, List.set_cons_zero]
      refine wq_call (f := 29) (args := #[.agg hb.toArray]) (v := .int .i64 (L : Int)) rfl (fun w' _ => by go_simp) (fun w' hC => ?_) ?_
      · have hlow : Below w.heap.size w w' := HX.out.2.2.trans (hC.mono HX.out.2.2.size)
        rw [HAB.out.2, HL.out]
        exact len_any l w'
      simp only [Act.put, List.setIfInBounds_toArray, List.set_cons_succ, List.set_cons_zero]
      go_big_quiet_step (fail)
      refine wq_val (o := ⟨some 68, _, _, _, _, _⟩) (v := .int .i64 (L : Int)) rfl (fun w' _ => by go_simp) ?_
      simp only [Act.put, List.setIfInBounds_toArray, List.set_cons_succ, List.set_cons_zero]
      refine wq_val (o := ⟨some 69, _, _, _, _, _⟩) (v := .bool true) rfl (fun w' _ => by go_simp) ?_
      simp only [Act.put, List.setIfInBounds_toArray, List.set_cons_succ, List.set_cons_zero]
      refine wq_val (o := ⟨some 70, _, _, _, _, _⟩) (v := .bool true) rfl (fun w' _ => by go_simp) ?_
      simp only [Act.put, List.setIfInBounds_toArray, List.set_cons_succ, List.set_cons_zero]
      go_big_quiet_step (fail)
      refine wq_loadB (o := ⟨some 72, _, _, _, _, _⟩) A43 rfl _ rfl b5 0 rfl _ _ (fun w' hC => From.blk hC HB7.out) hb ((congrArg (List.take _) List.drop_zero).trans (List.take_of_length_le (Nat.le_of_eq hbl))) hbl ?_
      simp only [Act.put, List.setIfInBounds_toArray, List.set_cons_succ, List.set_cons_zero]
      refine wq_call (f := 25) (args := #[]) (v := .agg h0.toArray) rfl (fun w' _ => by go_simp) (fun w' hC => ?_) ?_
      · have hlow : Below w.heap.size w w' := HX.out.2.2.trans (hC.mono HX.out.2.2.size)
        rw [HH0.out]
        exact new_any w'
      simp only [Act.put, List.setIfInBounds_toArray, List.set_cons_succ, List.set_cons_zero]
      go_big_quiet_step (fail)
      refine wq_call (f := 26) (args := #[.agg h0.toArray, .slice A L c]) (v := .agg hb.toArray) rfl (fun w' _ => by go_simp) (fun w' hC => ?_) ?_
      · have hlow : Below w.heap.size w w' := HX.out.2.2.trans (hC.mono HX.out.2.2.size)
        rw [HH0.out, HAB.out.2]
        exact write_n [] l l A L c w' HL.out (HA.out.1.below hlow) (by have := HA.out.2.1; have := HL.out; omega) (HG.out.grow hlow) (by simp; omega) (List.nil_append l)
      simp only [Act.put, List.setIfInBounds_toArray, List.set_cons_succ, List.set_cons_zero]
      refine wq_val (o := ⟨some 76, _, _, _, _, _⟩) (v := .bool true) rfl (fun w' _ => by go_simp) ?_
      simp only [Act.put, List.setIfInBounds_toArray, List.set_cons_succ, List.set_cons_zero]
      refine wq_val (o := ⟨some 77, _, _, _, _, _⟩) (v := .bool true) rfl (fun w' _ => by go_simp) ?_
      simp only [Act.put, List.setIfInBounds_toArray, List.set_cons_succ, List.set_cons_zero]
      go_big_quiet_step (fail)
      refine wpQuiet_nil ?_
      intro w8 h8
      have hlow : Below w.heap.size w w8 := HX.out.2.2.trans (h8.mono HX.out.2.2.size)
      go_wp2
      go_ret
      exact ⟨rfl, hlow⟩
end Go.Proofs.YtoemceehmiaigaaDoor.LawPieces
