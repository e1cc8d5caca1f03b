/- weirlaw04.ShaHashes: the walk. -/
import Derived.Test.YtoemceehmiaigaaDoorRgAid
import Derived.Test.YtoemceehmiaigaaDoorLawSums
import Derived.Deep.DeepCutAuto
import Derived.Lib.SmallJoins
namespace Go.Proofs.YtoemceehmiaigaaDoor.LawHashes
open Go.RowKit Go.Proofs.YtoemceehmiaigaaDoor.Mem Go.Proofs.YtoemceehmiaigaaDoor.Loan Go.Proofs.YtoemceehmiaigaaDoor.Sha Go.Proofs.YtoemceehmiaigaaDoor.LawSums
set_option linter.unusedVariables false

theorem E47 : Elt Tryd.prog 47 43 (hashCells []) 104 := Elt.mkN (z := .agg (hashCells []).toArray) Tryd.underlying47 (by kernel_rfl) (by kernel_rfl) (by rw [hashCells_length]; decide)
theorem E48 : Elt Tryd.prog 48 9 [strV []] 16 := Elt.mk1 Tryd.underlying48 (by kernel_rfl) rfl

/-- A step as it lies in memory. -/
structure StepD where
  kind : Int
  fr : Int
  tt : Int
  A : Option Addr
  c : Nat
  p : List UInt8
def StepD.cells (s : StepD) : List Value := [.int .i64 s.kind, .int .i64 s.fr, .int .i64 s.tt, .slice s.A s.p.length s.c]
def StepD.ok (w : World) (s : StepD) : Prop := RB w s.A s.p ∧ s.p.length ≤ s.c ∧ s.p.length ≤ 1048576 ∧ (-9223372036854775808 ≤ s.fr ∧ s.fr ≤ 9223372036854775807) ∧ (-9223372036854775808 ≤ s.tt ∧ s.tt ≤ 9223372036854775807)
theorem StepD.ok.below {w w' : World} {s : StepD} (h : s.ok w) (hb : Below w.heap.size w w') : s.ok w' := ⟨h.1.below hb, h.2⟩

/-- what lies in memory between the steps -/
structure HH (w : World) (v3 v5 : Value) (bs : List (List UInt8)) (lim : Nat) (W : World) : Prop where
  own3 : W.ownsRow w.heap.size 43 73 v3 bs.length (bs.flatMap hashCells)
  own5 : W.ownsRow w.heap.size 9 1 v5 bs.length (bs.map strV)
  ap : Ap v3 v5
  low : Below w.heap.size w W
  len : ∀ b ∈ bs, b.length ≤ lim
  pos : 0 < bs.length
theorem HH.grow {w W W' : World} {v3 v5 : Value} {bs : List (List UInt8)} {lim : Nat} (h : HH w v3 v5 bs lim W) (hb : Below W.heap.size W W') : HH w v3 v5 bs lim W' :=
  ⟨own_below' h.own3 hb, own_below' h.own5 hb, h.ap, gt h.low hb, h.len, h.pos⟩
theorem HH.more {w W : World} {v3 v5 : Value} {bs : List (List UInt8)} {lim l2 : Nat} (h : HH w v3 v5 bs lim W) (hl : lim ≤ l2) : HH w v3 v5 bs l2 W :=
  ⟨h.own3, h.own5, h.ap, h.low, fun b hb => Nat.le_trans (h.len b hb) hl, h.pos⟩

theorem HH.by_ {w W W' : World} {v3 v5 : Value} {bs : List (List UInt8)} {lim g : Nat} (h : HH w v3 v5 bs lim W) (hg : W.grownBy W' (some g)) (hb : w.heap.size ≤ g) (n3 : v3.ownBlock ≠ some g) (n5 : v5.ownBlock ≠ some g) : HH w v3 v5 bs lim W' :=
  ⟨h.own3.kept hg (.inr n3), h.own5.kept hg (.inr n5), h.ap, h.low.grown hg h.low.size (fun j hj => by simp at hj; omega), h.len, h.pos⟩

set_option maxHeartbeats 3200000 in
set_option maxRecDepth 40000 in
theorem law_any (A : Option Addr) (c : Nat) (ss : List StepD) (w : World) (hr : RV w A (ss.flatMap StepD.cells)) (hp : ∀ s ∈ ss, s.ok w) (hl : ss.length ≤ 1048576) (hG : GB w) :
    Calls Tryd.prog 5 #[.slice A ss.length c] w fun e w' => e = .returned (.bool true) ∧ Below w.heap.size w w' := by
  have HR := Lib.hid hr
  have HP := Lib.hid hp
  have HG := Lib.hid hG
  clear hr hp hG
  have hidx := abc_index
  have kc := fun (w : World) (C : Array Value) (n c : Nat) => Lib.run_convert_bytes_const (P := Tryd.prog) w 32 5 C n c Tryd.underlying32 Tryd.underlying5
  obtain ⟨d0, hd0⟩ : ∃ d, d = (sumf [97, 98, 99]).map bv := ⟨_, rfl⟩
  rw [← hd0] at hidx
  obtain ⟨h0, hh0⟩ : ∃ h, h = hashCells [] := ⟨_, rfl⟩
  have hneq0 := hash_neq []
  have heqi0 := hash_eqi []
  obtain ⟨h1, hh1⟩ : ∃ h, h = hashCells [97, 98, 99] := ⟨_, rfl⟩
  rw [← hh0] at hneq0 heqi0
  have hh0l : h0.length = (hashCells []).length := by rw [hh0]
  have hh01 : ∀ v ∈ h0, v.oneCell' = true := by rw [hh0]; exact hash_one _
  have cW := Lib.hid (show ∀ W A c, RB W A [97, 98, 99] → 3 ≤ c → GB W → Calls Tryd.prog 26 #[.agg h0.toArray, .slice A 3 c] W fun e w' => e = .returned (.agg h1.toArray) ∧ Below W.heap.size W w' from fun W A c x1 x2 x3 => by
    rw [hh0, hh1]; exact Sha.write_n [] [97, 98, 99] [97, 98, 99] A 3 c W rfl x1 x2 x3 (by decide) rfl)
  have cS := Lib.hid (show ∀ W, GB W → Calls Tryd.prog 27 #[.agg h1.toArray] W fun e w' => e = .returned (.agg d0.toArray) ∧ Below W.heap.size W w' from fun W x => by
    rw [hh1, hd0]; exact sum_any [97, 98, 99] W x (by decide))
  have HD0 := Lib.hid (And.intro hd0 (And.intro hh0 hh1))
  clear hd0 hh0 hh1
  obtain ⟨L, hL⟩ : ∃ L, L = ss.length := ⟨_, rfl⟩
  rw [← hL] at hl ⊢
  have HL := Lib.hid hL
  clear hL
  have hll : (L : Int) ≤ 9223372036854775807 := by omega
  go_enter Tryd.func5, Tryd.ntmps5
  go_upto_region 5 with (first
    | (go_at_call 25; first | (refine (new_any w4).mono ?_; rintro e w5 ⟨he, hb5⟩; rw [← HD0.out.2.1] at he; subst he) | (refine (new_any w).mono ?_; rintro e w1 ⟨he, hb1⟩; rw [← HD0.out.2.1] at he; subst he))
    | (go_at_call 26; go_must (refine (cW.out _ _ _ ((rvm_new w1 [bv 97, bv 98, bv 99] _ _).rb' [97, 98, 99] rfl) (by decide) (HG.out.grow (ga hb1 _))).mono ?_); rintro e w3 ⟨rfl, hb3⟩)
    | (go_at_call 27; go_must (refine (cS.out _ (HG.out.grow (gt (ga hb1 _) hb3))).mono ?_); rintro e w4 ⟨rfl, hb4⟩)
    | ((with_reducible show wpList _ _ _ (⟨some 23, _, _, _, _, _⟩ :: _) _ _); go_must (refine wpList_build1 E47 rfl (.tmp 22) rfl (by rw [hashCells_length]; decide) h0 rfl hh0l w5.heap.size rfl ?_); intro w6 hB6 hb6 hz6)
    | ((with_reducible show wpList _ _ _ (⟨some 4, _, _, _, _, _⟩ :: _) _ _); go_must (refine wpList_allocB (op := ⟨some 4, _, _, _, _, _⟩) A43 rfl rfl w6.heap.size rfl ?_); intro w7 hB7 hb7 hz7))

  have h05 : Below w.heap.size w w5 := gt (gt (gt (ga hb1 _) hb3) hb4) hb5
  have hB6' : Blk w7 w5.heap.size 43 h0 := hB6.grow (hz6 ▸ hb7)
  have h57 : Below w5.heap.size w5 w7 := gt hb6 (show Below w6.heap.size w6 w7 from hb7)
  obtain ⟨g3, hg3⟩ : ∃ g, g = w5.heap.size := ⟨_, rfl⟩
  obtain ⟨g4, hg4⟩ : ∃ g, g = w6.heap.size := ⟨_, rfl⟩
  rw [← hg3] at hB6' hz6 ⊢
  rw [← hg4] at hB7 hz6 ⊢
  have hg3w : w.heap.size ≤ g3 := by rw [hg3]; exact h05.size
  have HX := Lib.hid (And.intro hB6' (And.intro (HD0.out.2.1 ▸ hB7) (And.intro (gt h05 h57) (And.intro hg3w hz6))))
  clear h05 hB6 hB6' h57 hg3 hB7 hb7 hz7 hb6 hz6 hb5 hb4 hb3 hb1 kc hidx hg3w hg4
  simp only [Act.put, List.setIfInBounds_toArray, List.set_cons_succ, List.set_cons_zero]
  refine wp_region_qb (by kernel_rfl) (by kernel_rfl) ?_
  go_big_quiet_step (fail)
  refine wq_val (o := ⟨some 25, _, _, _, _, _⟩) (v := .pointer (some ⟨g3, 0, none⟩)) rfl (fun w' hC => by go_simp) ?_
  simp only [Act.put, List.setIfInBounds_toArray, List.set_cons_succ, List.set_cons_zero]
  refine wq_loadB (o := ⟨some 26, _, _, _, _, _⟩) A43 rfl _ rfl g3 0 rfl _ _ (fun w' hC => From.blk hC HX.out.1) h0 (full hh0l) hh0l ?_
  simp only [Act.put, List.setIfInBounds_toArray, List.set_cons_succ, List.set_cons_zero]
  refine wq_loadB (o := ⟨some 27, _, _, _, _, _⟩) A43 rfl _ rfl g4 0 rfl _ _ (fun w' hC => From.blk hC HX.out.2.1) h0 (full hh0l) hh0l ?_
  simp only [Act.put, List.setIfInBounds_toArray, List.set_cons_succ, List.set_cons_zero]
  refine wq_val (o := ⟨some 28, _, _, _, _, _⟩) (v := .bool false) rfl (fun w' hC => by go_simp) ?_
  simp only [Act.put, List.setIfInBounds_toArray, List.set_cons_succ, List.set_cons_zero]
  refine wpQuiet_nil ?_
  intro w8 h8
  have hX8 := And.intro (HX.out.1.grow h8) (gt HX.out.2.2.1 h8)
  have HY := Lib.hid (And.intro hX8 HX.out.2.2.2.1)
  clear HX hX8 h8 heqi0 hneq0
  go_wp2_with (first
    | ((with_reducible show wpList _ _ _ (⟨some 29, _, _, _, _, _⟩ :: _) _ _); go_must (refine wpList_build1 E48 rfl _ rfl (by decide) [strV []] rfl rfl w8.heap.size rfl ?_); intro w9 hB9 hb9 hz9))
  have hX9 : HH w (.slice (some ⟨g3, 0, none⟩) 1 1) (.slice (some ⟨w8.heap.size, 0, none⟩) 1 1) [[]] 0 w9 := by
    have hlow := gt HY.out.1.2 hb9
    have hbk : Blk w9 g3 43 ([([] : List UInt8)].flatMap hashCells) := by
      have := HY.out.1.1.grow hb9
      rw [HD0.out.2.1] at this
      simpa using this
    refine ⟨own_made hbk HY.out.2 (by simp [hashCells_length]) (by decide), own_made hB9 HY.out.1.2.size rfl (by decide), .inr (.inr ?_), hlow, by simp, by simp⟩
    have := HY.out.1.1.lt
    simp [Value.ownBlock]
    omega
  obtain ⟨v3, hv3⟩ : ∃ v, v = (.slice (some ⟨g3, 0, none⟩) 1 1 : Value) := ⟨_, rfl⟩
  obtain ⟨v5, hv5⟩ : ∃ v, v = (.slice (some ⟨w8.heap.size, 0, none⟩) 1 1 : Value) := ⟨_, rfl⟩
  rw [← hv3, ← hv5] at hX9 ⊢
  have HX := Lib.hid hX9
  clear hX9 HY hB9 hb9 hz9 hv3 hv5 hh0l hh01
  go_loopw [3, 5, 32] (fun v3 v5 v wr => ∃ (k : Nat) (bs : List (List UInt8)), k ≤ L ∧ v = .int .i64 k ∧ bs.length ≤ k + 1 ∧ HH w v3 v5 bs (k * 1048576) wr) (fun _ _ v _ => L - (intOf v).toNat)
  case atStart => exact ⟨0, [[]], by omega, rfl, by simp, HX.out⟩
  case round =>
    clear HX
    obtain ⟨k, bs, hk, rfl, hbl, X⟩ := hrel
    by_cases hlt : k < L
    -- A>
    · have hs4 : ∀ s ∈ ss, (StepD.cells s).length = 4 := fun _ _ => rfl
      have hks : k < ss.length := by have := HL.out; omega
      obtain ⟨s, hsk⟩ : ∃ s, s = ss[k] := ⟨_, rfl⟩
      have hrv := HR.out.below X.low
      have f0 := flat_at StepD.cells 4 ss k 0 hks hs4 (by decide)
      have f1 := flat_at StepD.cells 4 ss k (0 + 1) hks hs4 (by decide)
      have f2 := flat_at StepD.cells 4 ss k (1 + 1) hks hs4 (by decide)
      have f3 := flat_at StepD.cells 4 ss k (2 + 1) hks hs4 (by decide)
      rw [← hsk] at f0 f1 f2 f3
      obtain ⟨ad, hA⟩ : ∃ ad, A = some ad := by obtain ⟨ad, e, _⟩ := hrv (k * 4 + 0) (List.getElem?_eq_some_iff.1 f0).1; exact ⟨ad, e⟩
      have hok0 := HP.out s (by rw [hsk]; exact List.getElem_mem _)
      have hok := hok0.below X.low
      have HOK0 := Lib.hid hok0
      clear hok0
      have c0 := hrv.cells hA _ _ f0
      have c1 := cell_next (hrv.cells hA _ _ f1)
      have c2 := cell_next (hrv.cells hA _ _ f2)
      have c3 := cell_next (hrv.cells hA _ _ f3)
      subst hA
      obtain ⟨kind, fr, tt, sA, sc, p⟩ := s
      simp only [Nat.add_zero, Nat.zero_add, Nat.reduceAdd] at c0 c1 c2 c3
      have h0k : (0 : Int) ≤ (k : Int) := by omega
      have hkl : (k : Int) < (L : Int) := by omega
      obtain ⟨m, hm⟩ : ∃ m, m = bs.length := ⟨_, rfl⟩
      obtain ⟨i, hi⟩ : ∃ i, i = placeN fr m := ⟨_, rfl⟩
      obtain ⟨j, hj⟩ : ∃ j, j = placeN tt m := ⟨_, rfl⟩
      have hpos := X.pos
      have him : i < m := by rw [hi]; exact placeN_lt _ _ (by omega)
      have hjm : j < m := by rw [hj]; exact placeN_lt _ _ (by omega)
      obtain ⟨g3, cap3, cur3, rfl, hg3, hB3, hcur3, hc3, hcm3, hcl3⟩ := own_blk X.own3 hpos
      obtain ⟨g5, cap5, cur5, rfl, hg5, hB5, hcur5, hc5, hcm5, hcl5⟩ := own_blk X.own5 hpos
      rw [← hm] at hcur3 hcur5 hc3 hc5 hcl3 hcl5 X ⊢
      have HX := Lib.hid X
      have HM := Lib.hid (And.intro hm (And.intro hi hj))
      have HOK := Lib.hid hok
      have HB3 := Lib.hid (And.intro hB3 hcur3)
      have HB5 := Lib.hid (And.intro hB5 hcur5)
      have hmx : m ≤ 1048577 := by omega
      clear hrv f0 f1 f2 f3 hs4 hks hsk hok hm hi hj X hB3 hcur3 hB5 hcur5 hpos hlt
      go_upto_region 11 with fail
      obtain ⟨w4, hw4⟩ : ∃ x, x = wr.alloc (.cells #[.int .i64 kind, .int .i64 fr, .int .i64 tt, .slice sA p.length sc] 50) := ⟨_, rfl⟩
      rw [← hw4]
      have hb4 : Below wr.heap.size wr w4 := by rw [hw4]; exact ga (gr wr) _
      obtain ⟨b7, hb7⟩ : ∃ b, b = wr.heap.size := ⟨_, rfl⟩
      have hB7 : Blk w4 b7 50 [.int .i64 kind, .int .i64 fr, .int .i64 tt, .slice sA p.length sc] := by rw [hw4, hb7]; exact Blk.new wr _ _
      have X4 := HX.out.grow hb4
      have hk7 : g3 ≠ b7 ∧ g5 ≠ b7 ∧ w.heap.size ≤ b7 := by
        have := HB3.out.1.lt; have := HB5.out.1.lt; have := HX.out.low.size; omega
      rw [← hb7]
      replace HX := Lib.hid (And.intro X4 (And.intro hB7 (And.intro hk7 (HOK.out.below hb4))))
      have HK := Lib.hid hk7
      replace HB3 := Lib.hid (And.intro (HB3.out.1.grow hb4) HB3.out.2)
      replace HB5 := Lib.hid (And.intro (HB5.out.1.grow hb4) HB5.out.2)
      clear hw4 hb4 hb7 hB7 X4 hk7 c0 c1 c2 c3 HOK
      refine wp_region_qb (by kernel_rfl) (by kernel_rfl) ?_
      refine wq_val (o := ⟨some 36, _, _, _, _, _⟩) (v := .pointer (some ⟨b7, 1, none⟩)) rfl (fun w' hC => by go_simp) ?_
      simp only [Act.put, List.setIfInBounds_toArray, List.set_cons_succ, List.set_cons_zero]
      refine wq_val (o := ⟨some 37, _, _, _, _, _⟩) (v := .int .i64 fr) rfl (fun w' hC => by have c := (From.blk hC HX.out.2.1).cell 1; simp only [List.getElem?_cons_succ, List.getElem?_cons_zero] at c; go_simp) ?_
      simp only [Act.put, List.setIfInBounds_toArray, List.set_cons_succ, List.set_cons_zero]
      go_big_quiet_step (fail)
      refine wq_val (o := ⟨some 39, _, _, _, _, _⟩) (v := .int .i64 (m : Int)) rfl (fun w' hC => by go_simp) ?_
      simp only [Act.put, List.setIfInBounds_toArray, List.set_cons_succ, List.set_cons_zero]
      refine wq_call (f := 28) (args := #[.int .i64 fr, .int .i64 (m : Int)]) (v := .int .i64 (i : Int)) rfl (fun w' _ => by go_simp) (fun w' hC => ?_) ?_
      · rw [HM.out.2.1]
        exact (place_any fr m HX.out.2.2.2.2.2.2.1 (by omega) (by omega) w').mono fun e w'' h => ⟨h.1, by rw [h.2]; exact gr _⟩
      simp only [Act.put, List.setIfInBounds_toArray, List.set_cons_succ, List.set_cons_zero]
      refine wq_val (o := ⟨some 41, _, _, _, _, _⟩) (v := .pointer (some ⟨b7, 2, none⟩)) rfl (fun w' hC => by go_simp) ?_
      simp only [Act.put, List.setIfInBounds_toArray, List.set_cons_succ, List.set_cons_zero]
      refine wq_val (o := ⟨some 42, _, _, _, _, _⟩) (v := .int .i64 tt) rfl (fun w' hC => by have c := (From.blk hC HX.out.2.1).cell 2; simp only [List.getElem?_cons_succ, List.getElem?_cons_zero] at c; go_simp) ?_
      simp only [Act.put, List.setIfInBounds_toArray, List.set_cons_succ, List.set_cons_zero]
      go_big_quiet_step (fail)
      refine wq_val (o := ⟨some 44, _, _, _, _, _⟩) (v := .int .i64 (m : Int)) rfl (fun w' hC => by go_simp) ?_
      simp only [Act.put, List.setIfInBounds_toArray, List.set_cons_succ, List.set_cons_zero]
      refine wq_call (f := 28) (args := #[.int .i64 tt, .int .i64 (m : Int)]) (v := .int .i64 (j : Int)) rfl (fun w' _ => by go_simp) (fun w' hC => ?_) ?_
      · rw [HM.out.2.2]
        exact (place_any tt m HX.out.2.2.2.2.2.2.2 (by omega) (by omega) w').mono fun e w'' h => ⟨h.1, by rw [h.2]; exact gr _⟩
      simp only [Act.put, List.setIfInBounds_toArray, List.set_cons_succ, List.set_cons_zero]
      go_big_quiet_step (fail)
      go_big_quiet_step (fail)
      refine wpQuiet_nil ?_
      intro w5 h5
      replace HX := Lib.hid (And.intro (HX.out.1.grow h5) (And.intro (HX.out.2.1.grow h5) (And.intro HX.out.2.2.1 (HX.out.2.2.2.below h5))))
      replace HB3 := Lib.hid (And.intro (HB3.out.1.grow h5) HB3.out.2)
      replace HB5 := Lib.hid (And.intro (HB5.out.1.grow h5) HB5.out.2)
      clear h5
      have hi0 : (0 : Int) ≤ (i : Int) := by omega
      have hix : (i : Int) < (m : Int) := by omega
      have hj0 : (0 : Int) ≤ (j : Int) := by omega
      have hjx : (j : Int) < (m : Int) := by omega
      have hbi0 : i < bs.length := by have := HM.out.1; omega
      obtain ⟨bi, hbi⟩ : ∃ x, x = bs[i] := ⟨_, rfl⟩
      obtain ⟨ci, hci⟩ : ∃ x, x = hashCells bi := ⟨_, rfl⟩
      have hcil : ci.length = (hashCells []).length := by rw [hci, hashCells_length, hashCells_length]
      have hci1 : ∀ v ∈ ci, v.oneCell' = true := by rw [hci]; exact hash_one _
      have hq3 : (cur3.drop (i * 73)).take (hashCells []).length = ci := by
        rw [hashCells_length, take_part HB3.out.2 him, flat_part hashCells 73 bs i hbi0 (fun b _ => hashCells_length b), ← hbi, hci]
      have hq5 : w5.cell? ⟨g5, i, none⟩ = some (strV bi) := by
        have := HB5.out.1.cell i
        rw [this, hbi]
        have h := congrArg (fun l => l[i]?) HB5.out.2
        simp only [Nat.mul_one, List.getElem?_take, if_pos him, List.getElem?_map, List.getElem?_eq_getElem hbi0, Option.map_some] at h
        exact h
      have hbil : bi.length ≤ k * 1048576 := HX.out.1.len bi (by rw [hbi]; exact List.getElem_mem _)
      have HBI := Lib.hid (And.intro hbi (And.intro hci hq5))
      have HQ3 := Lib.hid hq3
      clear hbi hci hq5 hq3
      go_upto_region 13 with (first
        | ((with_reducible show wpList _ _ _ (⟨some 49, _, _, _, _, _⟩ :: _) _ _); go_must (refine wpList_loadB (op := ⟨some 49, _, _, _, _, _⟩) A43 rfl _ rfl g3 (i * 73) rfl _ _ HB3.out.1 ci HQ3.out hcil ?_))
        | ((with_reducible show wpList _ _ _ (⟨some 10, _, _, _, _, _⟩ :: _) _ _); go_must (refine wpList_allocB (op := ⟨some 10, _, _, _, _, _⟩) A43 rfl rfl w5.heap.size rfl ?_); intro w6 hB6 hb6 hz6)
        | ((with_reducible show wpList _ _ _ (⟨none, .store 43 _ _, _, _, _, _⟩ :: _) _ _); go_must (refine wpList_storeB (op := ⟨none, _, _, _, _, _⟩) A43 rfl _ _ rfl w5.heap.size 0 rfl ci rfl hcil _ _ hB6 (Nat.le_of_eq ((Nat.zero_add _).trans hcil)) hci1 ?_); intro w7 hB10 hg7 hz7; rw [splice_all _ _ hcil] at hB10))
      have h57 : Below w5.heap.size w5 w7 := gst (gr w5) hb6 hg7 (Nat.le_refl _)
      obtain ⟨b10, hb10⟩ : ∃ b, b = w5.heap.size := ⟨_, rfl⟩
      rw [← hb10] at hB10 ⊢
      have q5 : w7.cell? ⟨g5, i, none⟩ = some (strV bi) := cell_grow HBI.out.2.2 h57
      have hk10 : g3 ≠ b10 ∧ g5 ≠ b10 ∧ b7 ≠ b10 ∧ w.heap.size ≤ b10 := by
        have := HB3.out.1.lt; have := HB5.out.1.lt; have := HX.out.2.1.lt; have := HX.out.1.low.size; omega
      replace HX := Lib.hid (And.intro (HX.out.1.grow h57) (And.intro (HX.out.2.1.grow h57) (And.intro HX.out.2.2.1 (HX.out.2.2.2.below h57))))
      replace HB3 := Lib.hid (And.intro (HB3.out.1.grow h57) HB3.out.2)
      replace HB5 := Lib.hid (And.intro (HB5.out.1.grow h57) HB5.out.2)
      have HB10 := Lib.hid (And.intro hB10 hk10)
      replace HBI := Lib.hid (And.intro HBI.out.1 (And.intro HBI.out.2.1 q5))
      clear hB6 hb6 hz6 hg7 hz7 hB10 hk10 h57 hb10 q5 HQ3
      have c0 := HX.out.2.1.cell 0
      simp only [List.getElem?_cons_zero] at c0
      go_upto_region 14 with fail
      clear c0
      by_cases k0 : kind = 0
      · subst k0
        have c3 := HX.out.2.1.cell 3
        simp only [List.getElem?_cons_succ, List.getElem?_cons_zero] at c3
        have hpl : p.length ≤ 1048576 := HX.out.2.2.2.2.2.1
        go_upto_region 16 with (first
          | (go_at_call 20; go_must (refine (lend_any sA sc p _ HX.out.2.2.2.1 (by omega)).mono ?_); rintro e w8 ⟨g, rfl, hgg, hBg, hb8⟩)
          | ((with_reducible show wpList _ _ _ (⟨some 11, _, _, _, _, _⟩ :: _) _ _); go_must (refine wpList_allocB (op := ⟨some 11, _, _, _, _, _⟩) A34 rfl rfl w8.heap.size rfl ?_); intro w9 hBw9 hbw9 hzw9)
          | ((with_reducible show wpList _ _ _ (⟨none, .store 34 (.tmp 11) _, _, _, _, _⟩ :: _) _ _); go_must (refine wpList_storeB (op := ⟨none, _, _, _, _, _⟩) A34 rfl _ _ rfl w8.heap.size 0 rfl (lcell g p.length) rfl rfl _ _ hBw9 (Nat.le_refl 2) (lcell_one _ _) ?_); intro w10 hBw10 hgw10 hzw10))
        obtain ⟨b11, hb11⟩ : ∃ b, b = w8.heap.size := ⟨_, rfl⟩
        rw [← hb11] at hBw10 ⊢
        have h710 : Below w7.heap.size w7 w10 := gst hb8 hbw9 hgw10 hb8.size
        have X : CX w b11 g sA p w10 := by
          have hb24 : Below w8.heap.size w8 w10 := (gt hbw9 (gr _)).grown hgw10 (by have := hbw9.size; omega) (fun j hj => by simp at hj; omega)
          exact ⟨by rw [splice_all [.slice none 0 0, .int .i64 0] (lcell g p.length) rfl] at hBw10; exact hBw10, hBg.grow hb24, HX.out.2.2.2.1.below h710, (HG.out.grow HX.out.1.low).grow h710, HX.out.1.low.trans (h710.mono HX.out.1.low.size), Nat.le_trans HX.out.1.low.size hgg, by rw [hb11]; exact hBg.lt⟩
        have hkg : g3 ≠ g ∧ g5 ≠ g ∧ b7 ≠ g := by
          have := HB3.out.1.lt; have := HB5.out.1.lt; have := HX.out.2.1.lt; omega
        have q5 := cell_grow HBI.out.2.2 h710
        replace HX := Lib.hid (And.intro (HX.out.1.grow h710) (And.intro (HX.out.2.1.grow h710) (And.intro (HB10.out.1.grow h710) q5)))
        have HC := Lib.hid (And.intro X hkg)
        obtain ⟨nc, hnc⟩ : ∃ x, x = hashCells (bi ++ p) := ⟨_, rfl⟩
        have hncl : nc.length = (hashCells []).length := by rw [hnc, hashCells_length, hashCells_length]
        have hnc1 : ∀ v ∈ nc, v.oneCell' = true := by rw [hnc]; exact hash_one _
        have HN := Lib.hid hnc
        clear hgg hBg hb8 hBw9 hbw9 hzw9 hBw10 hgw10 hzw10 hb11 h710 X hkg hnc q5 c3
        try simp only [Act.put, List.setIfInBounds_toArray, List.set_cons_succ, List.set_cons_zero]
        refine wp_region_rrT (fun a b => Below a.heap.size a b) (fun _ _ _ h g => gt h g) (fun _ _ h => h.size) (fun a => (gr a).drew) 5
          [.eq 57 (.agg ci.toArray), .eq 58 (.agg (lcell g p.length).toArray), .eq 59 (.slice (some ⟨g, 0, none⟩) p.length (p.length + 200)), .eq 60 (.agg nc.toArray), .new 12 (NewPtr w10.heap.size 43 (hashCells []))]
          (by kernel_rfl) (by kernel_rfl) (by kernel_rfl) (by kernel_rfl) ?hstc ?hobc ?hfinc
        case hstc =>
          intro s hs
          simp only [List.mem_cons, List.not_mem_nil, or_false] at hs
          rcases hs with rfl | rfl | rfl | rfl | rfl
          · exact fun _ _ _ h _ => h
          · exact fun _ _ _ h _ => h
          · exact fun _ _ _ h _ => h
          · exact fun _ _ _ h _ => h
          · rintro vs w1 w2 ⟨v, rfl, h⟩ hb
            exact ⟨_, rfl, NewPtr.stable h hb⟩
        case hobc =>
          simp only [List.take_succ_cons, List.take_zero]
          refine rrs_cons ?_ (rrs_cons ?_ (rrs_cons ?_ (rrs_cons ?_ (rrs_cons ?_ rrs_nil))))
          · refine rr_wp (by decide) (by rfl) fun x w' A hg hp hA K' hK' => ?_
            have e10 := hA 10
            simp [rgDsts] at e10
            refine wp_loadB A43 _ rfl b10 0 ?_ _ _ (HX.out.2.2.1.grow hg) ci (full hcil) hcil ?_
            · simpa [Act.eval] using e10
            · exact hK' _ _ (gr _) (by simp) (by simp)
          · refine rr_wp (by decide) (by rfl) fun x w' A hg hp hA K' hK' => ?_
            have e11 := hA 11
            simp [rgDsts] at e11
            refine wp_loadB A34 _ rfl b11 0 ?_ _ _ (HC.out.1.loan.grow hg) (lcell g p.length) rfl rfl ?_
            · simpa [Act.eval] using e11
            · exact hK' _ _ (gr _) (by simp) (by simp)
          · refine rr_call (by decide) (by rfl) fun x w' A hg hp hA => ?_
            have h58 := rg_pred_eq (d := 58) hp 0 rfl rfl rfl
            have e58 := (hA.at_ 58 rfl).trans h58
            refine ⟨22, #[.agg (lcell g p.length).toArray], ?_, ?_⟩
            · go_simp
            · refine (show Calls Tryd.prog 22 #[.agg (lcell g p.length).toArray] w' fun e w'' => e = .returned (.slice (some ⟨g, 0, none⟩) p.length (p.length + 200)) ∧ Below w'.heap.size w' w'' from in_any (some ⟨g, 0, none⟩) (p.length + 200) (p.length + 200) p.length w' (by omega) (by unfold maxLen; omega)).mono ?_
              rintro e w'' ⟨rfl, hb⟩
              exact ⟨_, rfl, hb, by simp, by simp⟩
          · refine rr_call (by decide) (by rfl) fun x w' A hg hp hA => ?_
            have h57 := rg_pred_eq (d := 57) hp 0 rfl rfl rfl
            have h59 := rg_pred_eq (d := 59) hp 1 rfl rfl rfl
            have e57 := (hA.at_ 57 rfl).trans h57
            have e59 := (hA.at_ 59 rfl).trans h59
            refine ⟨26, #[.agg ci.toArray, .slice (some ⟨g, 0, none⟩) p.length (p.length + 200)], ?_, ?_⟩
            · go_simp
            · refine (show Calls Tryd.prog 26 #[.agg ci.toArray, .slice (some ⟨g, 0, none⟩) p.length (p.length + 200)] w' fun e w'' => e = .returned (.agg nc.toArray) ∧ Below w'.heap.size w' w'' from by rw [HBI.out.2.1, HN.out]; exact Sha.write_n bi p (bi ++ p) (some ⟨g, 0, none⟩) p.length (p.length + 200) w' rfl (marked_rb (HC.out.1.grow hg).bytes) (by omega) (HC.out.1.grow hg).gb (by omega) rfl).mono ?_
              rintro e w'' ⟨rfl, hb⟩
              exact ⟨_, rfl, hb, by simp, by simp⟩
          · exact rr_alloc A43 (by decide) rfl rfl rfl
        case hfinc =>
        intro x w11 hg hall hap
        simp only [RgAll, holds_eq, holds_new, holds_one, and_true] at hall
        obtain ⟨h57, h58, h59, h60, h12⟩ := hall
        obtain ⟨b12, h12, hb12, hB12⟩ := h12
        simp only [rgDsts, List.take_succ_cons, List.take_zero, List.filterMap_cons, List.filterMap_nil, putMany, List.foldl_cons, List.foldl_nil, List.setIfInBounds_toArray, List.set_cons_succ, List.set_cons_zero, List.drop_succ_cons, List.drop_zero, h57, h58, h59, h60, h12]
        clear h57 h58 h59 h60 h12
        go_upto_region 17 with (first
          | ((with_reducible show wpList _ _ _ (⟨none, .store 43 (.tmp 12) _, _, _, _, _⟩ :: _) _ _); go_must (refine wpList_storeB (op := ⟨none, _, _, _, _, _⟩) A43 rfl _ _ rfl b12 0 rfl nc rfl hncl _ _ hB12 (Nat.le_of_eq ((Nat.zero_add _).trans hncl)) hnc1 ?_); intro w12 hBw12 hgw12 hzw12; rw [splice_all _ _ hncl] at hBw12))
        have h1012 : Below w10.heap.size w10 w12 := hg.grown hgw12 hg.size (fun j hj => by simp at hj; omega)
        replace HX := Lib.hid (And.intro (HX.out.1.grow h1012) (And.intro (HX.out.2.1.grow h1012) (And.intro hBw12 (cell_grow HX.out.2.2.2 h1012))))
        have hb12g : b12 ≠ g := by have := HC.out.1.bytes.lt; omega
        replace HC := Lib.hid (And.intro (HC.out.1.grow h1012) HC.out.2)
        have c3 := HX.out.2.1.cell 3
        simp only [List.getElem?_cons_succ, List.getElem?_cons_zero] at c3
        clear hg hap hb12 hB12 hBw12 hgw12 hzw12 h1012
        go_upto_region 20 with (first
          | ((with_reducible show wpList _ _ _ (⟨some 61, _, _, _, _, _⟩ :: _) _ _); go_must (refine wpList_loadB (op := ⟨some 61, _, _, _, _, _⟩) A34 rfl _ rfl b11 0 rfl _ _ HC.out.1.loan (lcell g p.length) rfl rfl ?_))
          | (go_at_call 23; go_must (refine (whole_any g (p.length + 200) p mtail sA sc p _ HC.out.1.bytes (by rw [List.length_append, mtail_length]) (by unfold maxLen; omega) marked_tail HC.out.1.arg (by unfold maxLen; omega)).mono ?_); rintro e w13 ⟨rfl, hb13⟩)
          | ((with_reducible show wpList _ _ _ (⟨some 66, _, _, _, _, _⟩ :: _) _ _); go_must (refine wpList_loadB (op := ⟨some 66, _, _, _, _, _⟩) A34 rfl _ rfl b11 0 rfl _ _ (HC.out.1.grow hb13).loan (lcell g p.length) rfl rfl ?_))
          | (go_at_call 24; go_must (refine (spoil_any g (p.length + 200) p mtail _ (HC.out.1.grow hb13).bytes (by omega) (by unfold maxLen; omega)).mono ?_); rintro e w14 ⟨rfl, hB14, hg14⟩))
        have X14 := (HX.out.1.grow hb13).by_ hg14 HC.out.1.hg (by simp [Value.ownBlock]; exact HC.out.2.1) (by simp [Value.ownBlock]; exact HC.out.2.2.1)
        have hB7 := (HX.out.2.1.grow hb13).grown hg14 (by simp; exact HC.out.2.2.2)
        have hB12 := (HX.out.2.2.1.grow hb13).grown hg14 (by simp; exact hb12g)
        have q5 := hg14.cell (cell_grow HX.out.2.2.2 hb13) (by simp; exact HC.out.2.2.1)
        replace HX := Lib.hid (And.intro X14 (And.intro hB7 (And.intro hB12 q5)))
        clear X14 hB7 hB12 q5 hb13 hB14 hg14 c3 hb12g HC HB3 HB5 HB10
        go_upto_region 21 with (first
          | ((with_reducible show wpList _ _ _ (⟨some 69, _, _, _, _, _⟩ :: _) _ _); go_must (refine wpList_loadB (op := ⟨some 69, _, _, _, _, _⟩) A43 rfl _ rfl b12 0 rfl _ _ HX.out.2.2.1 nc (full hncl) hncl ?_))
          | ((with_reducible show wpList _ _ _ (⟨some 70, _, _, _, _, _⟩ :: _) _ _); go_must (refine wpList_build1 E47 rfl (.tmp 69) rfl (by rw [hashCells_length]; decide) nc rfl hncl w14.heap.size rfl ?_); intro w15 hB15 hb15 hz15; have ho15 : w15.ownsRow w.heap.size 43 (hashCells []).length (.slice (some ⟨g3, 0, none⟩) m cap3) bs.length (bs.flatMap hashCells) := (by rw [hashCells_length]; exact (HX.out.1.grow hb15).own3))
          | ((with_reducible show wpList _ _ _ (⟨some 71, _, _, _, _, _⟩ :: _) _ _); go_must (refine wpList_app E47 rfl (.tmp 68) (.tmp 70) rfl w.heap.size (.slice (some ⟨g3, 0, none⟩) m cap3) bs.length (bs.flatMap hashCells) rfl ho15 (some ⟨w14.heap.size, 0, none⟩) 1 1 nc rfl hB15.rv (by rw [hncl, Nat.one_mul]) hnc1 (by have := HM.out.1; unfold maxLen; omega) (by have := HM.out.1; omega) (HX.out.1.grow hb15).low.size ?_); intro v3' w16 hown16 hg16 hv16))
        have X15 := HX.out.1.grow hb15
        have hap16 : Ap v3' (.slice (some ⟨g5, 0, none⟩) m cap5) := Ap.next' X15.ap X15.own5 hv16
        have ho5 := own_kept X15.own5 X15.ap hg16
        have hlow16 := below_own X15.low ho15 hg16 X15.low.size
        rw [hashCells_length] at hown16
        have hB7 : Blk w16 b7 50 [.int .i64 0, .int .i64 fr, .int .i64 tt, .slice sA p.length sc] := (HX.out.2.1.grow hb15).grown hg16 (by simp [Value.ownBlock]; have := HK.out; omega)
        have hap35 := X15.ap
        simp [Sha.Ap, Value.ownBlock] at hap35
        have q5 := hg16.cell (cell_grow HX.out.2.2.2 hb15) (by simp [Value.ownBlock]; omega)
        have hrb16 := HOK0.out.1.below hlow16
        have HY := Lib.hid (And.intro hown16 (And.intro ho5 (And.intro hap16 hlow16)))
        have HZ := Lib.hid (And.intro hB7 (And.intro q5 hrb16))
        have HXL := Lib.hid (And.intro HX.out.1.len HX.out.1.pos)
        clear X15 hap16 ho5 hlow16 hB7 q5 hrb16 hB15 hb15 hz15 ho15 hown16 hg16 hv16 HX
        try simp only [Act.put, List.setIfInBounds_toArray, List.set_cons_succ, List.set_cons_zero]
        refine wp_region_rrT (fun a b => Below a.heap.size a b) (fun _ _ _ h g => gt h g) (fun _ _ h => h.size) (fun a => (gr a).drew) 10
          [.eq 72 (.slice (some ⟨g5, 0, none⟩) m cap5), .eq 73 (.slice (some ⟨g5, 0, none⟩) m cap5), .eq 74 (.int .i64 (i : Int)), .eq 75 (.pointer (some ⟨g5, i, none⟩)), .eq 76 (.string ⟨bi.toArray⟩), .eq 77 (.pointer (some ⟨b7, 3, none⟩)), .eq 78 (.slice sA p.length sc), .eq 79 (.string ⟨p.toArray⟩), .eq 80 (.string ⟨(bi ++ p).toArray⟩), .new 81 (NewRow w16.heap.size 9 [strV (bi ++ p)] 1)]
          (by kernel_rfl) (by kernel_rfl) (by kernel_rfl) (by kernel_rfl) ?hstd ?hobd ?hfind
        case hstd =>
          intro s hs
          simp only [List.mem_cons, List.not_mem_nil, or_false] at hs
          rcases hs with rfl | rfl | rfl | rfl | rfl | rfl | rfl | rfl | rfl | rfl
          · exact fun _ _ _ h _ => h
          · exact fun _ _ _ h _ => h
          · exact fun _ _ _ h _ => h
          · exact fun _ _ _ h _ => h
          · exact fun _ _ _ h _ => h
          · exact fun _ _ _ h _ => h
          · exact fun _ _ _ h _ => h
          · exact fun _ _ _ h _ => h
          · exact fun _ _ _ h _ => h
          · rintro vs w1 w2 ⟨v, rfl, h⟩ hb
            exact ⟨_, rfl, NewRow.stable h hb⟩
        case hobd =>
          simp only [List.take_succ_cons, List.take_zero]
          refine rrs_cons ?_ (rrs_cons ?_ (rrs_cons ?_ (rrs_cons ?_ (rrs_cons ?_ (rrs_cons ?_ (rrs_cons ?_ (rrs_cons ?_ (rrs_cons ?_ (rrs_cons ?_ rrs_nil)))))))))
          · refine rr_eq gr (by decide) (by rfl) (by rfl) fun x w' A hg hp hA => ?_
            have e5 := hA 5
            simp [rgDsts] at e5
            go_simp
          · refine rr_eq gr (by decide) (by rfl) (by rfl) fun x w' A hg hp hA => ?_
            have e5 := hA 5
            simp [rgDsts] at e5
            go_simp
          · refine rr_eq gr (by decide) (by rfl) (by rfl) fun x w' A hg hp hA => ?_
            have e8 := hA 8
            simp [rgDsts] at e8
            go_simp
          · refine rr_eq gr (by decide) (by rfl) (by rfl) fun x w' A hg hp hA => ?_
            have h73 := rg_pred_eq (d := 73) hp 0 rfl rfl rfl
            have h74 := rg_pred_eq (d := 74) hp 1 rfl rfl rfl
            have e73 := (hA.at_ 73 rfl).trans h73
            have e74 := (hA.at_ 74 rfl).trans h74
            go_simp
          · refine rr_eq gr (by decide) (by rfl) (by rfl) fun x w' A hg hp hA => ?_
            have h75 := rg_pred_eq (d := 75) hp 0 rfl rfl rfl
            have e75 := (hA.at_ 75 rfl).trans h75
            have cc := cell_grow HZ.out.2.1 hg
            simp only [strV] at cc
            go_simp
          · refine rr_eq gr (by decide) (by rfl) (by rfl) fun x w' A hg hp hA => ?_
            have e7 := hA 7
            simp [rgDsts] at e7
            go_simp
          · refine rr_eq gr (by decide) (by rfl) (by rfl) fun x w' A hg hp hA => ?_
            have h77 := rg_pred_eq (d := 77) hp 0 rfl rfl rfl
            have e77 := (hA.at_ 77 rfl).trans h77
            have cc := (HZ.out.1.grow hg).cell 3
            simp only [List.getElem?_cons_succ, List.getElem?_cons_zero] at cc
            go_simp
          · refine rr_eq gr (by decide) (by rfl) (by rfl) fun x w' A hg hp hA => ?_
            have h78 := rg_pred_eq (d := 78) hp 0 rfl rfl rfl
            have e78 := (hA.at_ 78 rfl).trans h78
            have cc := conv_rb (P := Tryd.prog) (src := 32) (dst := 9) (e := 5) Tryd.underlying32 Tryd.underlying5 Tryd.underlying9 (HZ.out.2.2.below hg) sc
            go_simp
          · refine rr_eq gr (by decide) (by rfl) (by rfl) fun x w' A hg hp hA => ?_
            have h76 := rg_pred_eq (d := 76) hp 0 rfl rfl rfl
            have h79 := rg_pred_eq (d := 79) hp 1 rfl rfl rfl
            have e76 := (hA.at_ 76 rfl).trans h76
            have e79 := (hA.at_ 79 rfl).trans h79
            have hn : ¬ (9223372036854775807 < bi.length + p.length) := by omega
            have ha : ((⟨bi.toArray⟩ : ByteArray) ++ ⟨p.toArray⟩) = ⟨(bi ++ p).toArray⟩ := by rw [ByteArray.mk_append_mk]
            go_simp
          · refine rr_build1 E48 (by decide) rfl rfl (.tmp 80) rfl (by decide) ([strV (bi ++ p)]) (by rfl) fun x w' A hg hp hA => ?_
            have h80 := rg_pred_eq (d := 80) hp 0 rfl rfl rfl
            have e80 := (hA.at_ 80 rfl).trans h80
            simp [Act.eval, e80, Value.cells, strV]
        case hfind =>
        intro x w17 hg hall hap
        simp only [RgAll, holds_eq, holds_new, holds_one, and_true] at hall
        obtain ⟨h72, h73, h74, h75, h76, h77, h78, h79, h80, h81⟩ := hall
        obtain ⟨b81, h81, hb81, hB81⟩ := h81
        simp only [rgDsts, List.take_succ_cons, List.take_zero, List.filterMap_cons, List.filterMap_nil, putMany, List.foldl_cons, List.foldl_nil, List.setIfInBounds_toArray, List.set_cons_succ, List.set_cons_zero, List.drop_succ_cons, List.drop_zero, h72, h73, h74, h75, h76, h77, h78, h79, h80, h81]
        clear h72 h73 h74 h75 h76 h77 h78 h79 h80 h81
        go_wp2_with (first
          | ((with_reducible show wpList _ _ _ (⟨some 82, _, _, _, _, _⟩ :: _) _ _); go_must (refine wpList_app E48 rfl (.tmp 72) (.tmp 81) rfl w.heap.size (.slice (some ⟨g5, 0, none⟩) m cap5) bs.length (bs.map strV) rfl (own_below' HY.out.2.1 hg) (some ⟨b81, 0, none⟩) 1 1 [strV (bi ++ p)] rfl hB81.rv rfl (by simp [strV, Value.oneCell']) (by have := HM.out.1; unfold maxLen; omega) (by have := HM.out.1; omega) (by have := HY.out.2.2.2.size; have := hg.size; omega) ?_); intro v5' w18 hown18 hg18 hv18))
        have hlow17 := gt HY.out.2.2.2 hg
        have ho3 := own_below' HY.out.1 hg
        have XX : HH w v3' v5' (bs ++ [bi ++ p]) ((k + 1) * 1048576) w18 := by
          refine ⟨?_, ?_, (Ap.next' HY.out.2.2.1.symm ho3 hv18).symm, below_own hlow17 (own_below' HY.out.2.1 hg) hg18 hlow17.size, ?_, by simp⟩
          · have := own_kept ho3 HY.out.2.2.1.symm hg18
            rw [HN.out] at this
            simpa using this
          · simpa using hown18
          · intro b hb
            rcases List.mem_append.1 hb with hb | hb
            · exact Nat.le_trans (HXL.out.1 b hb) (Nat.mul_le_mul_right 1048576 (Nat.le_succ k))
            · simp at hb
              subst hb
              rw [List.length_append, Nat.add_mul]
              omega
        exact ⟨⟨k + 1, bs ++ [bi ++ p], by omega, by go_num, by simp; omega, XX⟩, by simp [intOf]; omega⟩
      · by_cases k1 : kind = 1
        · subst k1
          have HXX := Lib.hid (HX.out.1.more (Nat.mul_le_mul_right 1048576 (Nat.le_succ k)))
          have hneq : ∀ W, (binOp .neq 30 (.agg ((sumf bi).map bv).toArray) (.agg ((sumf bi).map bv).toArray)).run Tryd.prog W = .ok (.bool false) W := fun W => dig_eql _ W
          have heqi : ∀ W, (Op.equalIn 10000 30 (.agg ((sumf bi).map bv).toArray) (.agg ((sumf bi).map bv).toArray)).run Tryd.prog W = .ok true W := fun W => dig_eqi _ W
          obtain ⟨d, hd⟩ : ∃ d, d = (sumf bi).map bv := ⟨_, rfl⟩
          rw [← hd] at hneq heqi
          have HD := Lib.hid hd
          clear hd
          go_upto_region 23 with fail
          try simp only [Act.put, List.setIfInBounds_toArray, List.set_cons_succ, List.set_cons_zero]
          refine wp_region_rrT (fun a b => Below a.heap.size a b) (fun _ _ _ h g => gt h g) (fun _ _ h => h.size) (fun a => (gr a).drew) 8
            [.eq 85 (.agg ci.toArray), .eq 86 (.agg d.toArray), .eq 87 (.slice (some ⟨g5, 0, none⟩) m cap5), .eq 88 (.int .i64 (i : Int)), .eq 89 (.pointer (some ⟨g5, i, none⟩)), .eq 90 (.string ⟨bi.toArray⟩), .new 91 (fun v W => ∃ g c, v = .slice (some ⟨g, 0, none⟩) bi.length c ∧ RB W (some ⟨g, 0, none⟩) bi), .eq 92 (.agg d.toArray)]
            (by kernel_rfl) (by kernel_rfl) (by kernel_rfl) (by kernel_rfl) ?hsta ?hoba ?hfina
          case hsta =>
            intro s hs
            simp only [List.mem_cons, List.not_mem_nil, or_false] at hs
            rcases hs with rfl | rfl | rfl | rfl | rfl | rfl | rfl | rfl
            · exact fun _ _ _ h _ => h
            · exact fun _ _ _ h _ => h
            · exact fun _ _ _ h _ => h
            · exact fun _ _ _ h _ => h
            · exact fun _ _ _ h _ => h
            · exact fun _ _ _ h _ => h
            · rintro vs w1 w2 ⟨v, rfl, g, c', rfl, h⟩ hb
              exact ⟨_, rfl, g, c', rfl, h.below hb⟩
            · exact fun _ _ _ h _ => h
          case hoba =>
            simp only [List.take_succ_cons, List.take_zero]
            refine rrs_cons ?_ (rrs_cons ?_ (rrs_cons ?_ (rrs_cons ?_ (rrs_cons ?_ (rrs_cons ?_ (rrs_cons ?_ (rrs_cons ?_ rrs_nil)))))))
            · refine rr_wp (by decide) (by rfl) fun x w' A hg hp hA K' hK' => ?_
              have e10 := hA 10
              simp [rgDsts] at e10
              refine wp_loadB A43 _ rfl b10 0 ?_ _ _ (HB10.out.1.grow hg) ci (full hcil) hcil ?_
              · simpa [Act.eval] using e10
              · exact hK' _ _ (gr _) (by simp) (by simp)
            · refine rr_call (by decide) (by rfl) fun x w' A hg hp hA => ?_
              try simp [RgPreds, Region.binds] at hp
              refine ⟨27, #[.agg ci.toArray], ?_, ?_⟩
              · have e85 := hA 85
                simp [rgDsts] at e85
                try simp only [hp] at e85
                go_simp
              · refine (show Calls Tryd.prog 27 #[.agg ci.toArray] w' fun e w'' => e = .returned (.agg d.toArray) ∧ Below w'.heap.size w' w'' from by rw [HBI.out.2.1, HD.out]; exact sum_any bi w' (HG.out.grow (gt HXX.out.low hg)) (by omega)).mono ?_
                rintro e w'' ⟨rfl, hb⟩
                exact ⟨_, rfl, hb, by simp, by simp⟩
            · refine rr_eq gr (by decide) (by rfl) (by rfl) fun x w' A hg hp hA => ?_
              have e5 := hA 5
              simp [rgDsts] at e5
              try simp [RgPreds, Region.binds] at hp
              try obtain ⟨h1, h2⟩ := hp
              try simp only [h1, h2] at e5
              go_simp
            · refine rr_eq gr (by decide) (by rfl) (by rfl) fun x w' A hg hp hA => ?_
              have e8 := hA 8
              simp [rgDsts] at e8
              try simp [RgPreds, Region.binds] at hp
              try obtain ⟨h1, h2⟩ := hp
              try simp only [h1, h2] at e8
              go_simp
            · refine rr_eq gr (by decide) (by rfl) (by rfl) fun x w' A hg hp hA => ?_
              have e87 := hA 87
              have e88 := hA 88
              simp [rgDsts] at e87 e88
              try simp [RgPreds, Region.binds] at hp
              try obtain ⟨h1, h2⟩ := hp
              try simp only [h1, h2] at e87 e88
              go_simp
            · refine rr_eq gr (by decide) (by rfl) (by rfl) fun x w' A hg hp hA => ?_
              have e89 := hA 89
              simp [rgDsts] at e89
              try simp [RgPreds, Region.binds] at hp
              try obtain ⟨h1, h2⟩ := hp
              try simp only [h1, h2] at e89
              have cc := cell_grow HBI.out.2.2 hg
              simp only [strV] at cc
              go_simp
            · refine rr_val (by decide) (by rfl) fun x w' A hg hp hA => ?_
              have e90 := hA 90
              simp [rgDsts] at e90
              simp [RgPreds, Region.binds] at hp
              simp only [hp] at e90
              obtain ⟨c', w'', hrun, hb, hrb, hz⟩ := conv_bytes (P := Tryd.prog) (w := w') (src := 9) (dst := 32) Tryd.underlying9 Tryd.underlying32 Tryd.underlying5 bi
              refine ⟨.slice (some ⟨w'.heap.size, 0, none⟩) bi.length c', w'', ?_, hb, ?_, ?_⟩
              · simp only [strV] at hrun
                simp [execOp, Act.eval, e90, hrun, Result.andThen]
              · simp
                exact hrb
              · simp [blockOf]
                omega
            · refine rr_call (by decide) (by rfl) fun x w' A hg hp hA => ?_
              try simp [RgPreds, Region.binds] at hp
              obtain ⟨⟨g, ⟨c', e91'⟩, hrb⟩, _⟩ := hp
              refine ⟨21, #[.slice (some ⟨g, 0, none⟩) bi.length c'], ?_, ?_⟩
              · have e91 := hA 91
                simp [rgDsts] at e91
                try simp only [e91'] at e91
                go_simp
              · refine (rsum_any bi _ c' w' hrb (by omega)).mono ?_
                rintro e w'' ⟨rfl, hb⟩
                exact ⟨_, rfl, hb, by simp [HD.out], by simp⟩
          case hfina =>
          intro x w8 hg hall hap
          simp only [RgAll, holds_eq, holds_new, and_true] at hall
          obtain ⟨e85, e86, e87, e88, e89, e90, ⟨g, c', e91, hrb⟩, e92⟩ := hall
          simp only [rgDsts, List.take_succ_cons, List.take_zero, List.filterMap_cons, List.filterMap_nil, putMany, List.foldl_cons, List.foldl_nil, List.setIfInBounds_toArray, List.set_cons_succ, List.set_cons_zero, List.drop_succ_cons, List.drop_zero, e85, e86, e87, e88, e89, e90, e91, e92]
          clear e85 e86 e87 e88 e89 e90 e91 e92
          replace HXX := Lib.hid (HXX.out.grow hg)
          clear hg hap hrb
          go_wp2
          exact ⟨⟨k + 1, bs, by omega, by go_num, by omega, HXX.out⟩, by simp [intOf]; omega⟩
        · by_cases k2 : kind = 2
          · subst k2
            have hsz : (⟨bi.toArray⟩ : ByteArray).size = bi.length := by simp [ByteArray.size]
            go_upto_region 26 with fail
            refine wp_region_qb (by kernel_rfl) (by kernel_rfl) ?_
            refine wq_loadB (o := ⟨some 96, _, _, _, _, _⟩) A43 rfl _ rfl b10 0 rfl _ _ (fun w' hC => From.blk hC HB10.out.1) ci (full hcil) hcil ?_
            simp only [Act.put, List.setIfInBounds_toArray, List.set_cons_succ, List.set_cons_zero]
            refine wq_call (f := 29) (args := #[.agg ci.toArray]) (v := .int .i64 (bi.length : Int)) rfl (fun w' _ => by go_simp) (fun w' hC => ?_) ?_
            · rw [HBI.out.2.1]
              exact len_any bi w'
            simp only [Act.put, List.setIfInBounds_toArray, List.set_cons_succ, List.set_cons_zero]
            go_big_quiet_step (fail)
            go_big_quiet_step (fail)
            refine wq_val (o := ⟨some 100, _, _, _, _, _⟩) (v := .pointer (some ⟨g5, i, none⟩)) rfl (fun w' hC => by go_simp) ?_
            simp only [Act.put, List.setIfInBounds_toArray, List.set_cons_succ, List.set_cons_zero]
            refine wq_val (o := ⟨some 101, _, _, _, _, _⟩) (v := .string ⟨bi.toArray⟩) rfl (fun w' hC => by have cc := cell_grow HBI.out.2.2 hC; simp only [strV] at cc; go_simp) ?_
            simp only [Act.put, List.setIfInBounds_toArray, List.set_cons_succ, List.set_cons_zero]
            refine wq_val (o := ⟨some 102, _, _, _, _, _⟩) (v := .int .i64 (bi.length : Int)) rfl (fun w' hC => by go_simp) ?_
            simp only [Act.put, List.setIfInBounds_toArray, List.set_cons_succ, List.set_cons_zero]
            refine wq_val (o := ⟨some 103, _, _, _, _, _⟩) (v := .bool false) rfl (fun w' hC => by go_simp) ?_
            simp only [Act.put, List.setIfInBounds_toArray, List.set_cons_succ, List.set_cons_zero]
            refine wpQuiet_nil ?_
            intro w8 h8
            have HXX := Lib.hid ((HX.out.1.grow h8).more (Nat.mul_le_mul_right 1048576 (Nat.le_succ k)))
            clear hsz h8
            go_wp2
            exact ⟨⟨k + 1, bs, by omega, by go_num, by omega, HXX.out⟩, by simp [intOf]; omega⟩
          · by_cases k3 : kind = 3
            · subst k3
              have hbj0 : j < bs.length := by have := HM.out.1; omega
              obtain ⟨bj, hbj⟩ : ∃ x, x = bs[j] := ⟨_, rfl⟩
              obtain ⟨cj, hcj⟩ : ∃ x, x = hashCells bj := ⟨_, rfl⟩
              have hcjl : cj.length = (hashCells []).length := by rw [hcj, hashCells_length, hashCells_length]
              have hq3 : (cur3.drop (j * 73)).take (hashCells []).length = cj := by
                rw [hashCells_length, take_part HB3.out.2 hjm, flat_part hashCells 73 bs j hbj0 (fun b _ => hashCells_length b), ← hbj, hcj]
              have hq5 : w7.cell? ⟨g5, j, none⟩ = some (strV bj) := by
                rw [HB5.out.1.cell j, hbj]
                have h := congrArg (fun l => l[j]?) HB5.out.2
                simp only [Nat.mul_one, List.getElem?_take, if_pos hjm, List.getElem?_map, List.getElem?_eq_getElem hbj0, Option.map_some] at h
                exact h
              have HBJ := Lib.hid (And.intro hcj (And.intro hq5 hq3))
              clear hbj hcj hq3 hq5
              go_upto_region 29 with fail
              have HXX := Lib.hid (HX.out.1.more (Nat.mul_le_mul_right 1048576 (Nat.le_succ k)))
              refine wp_region_qb (by kernel_rfl) (by kernel_rfl) ?_
              go_big_quiet_step (fail)
              go_big_quiet_step (fail)
              refine wq_val (o := ⟨some 108, _, _, _, _, _⟩) (v := .pointer (some ⟨g5, i, none⟩)) rfl (fun w' hC => by go_simp) ?_
              simp only [Act.put, List.setIfInBounds_toArray, List.set_cons_succ, List.set_cons_zero]
              refine wq_val (o := ⟨some 109, _, _, _, _, _⟩) (v := .string ⟨bi.toArray⟩) rfl (fun w' hC => by have cc := cell_grow HBI.out.2.2 hC; simp only [strV] at cc; go_simp) ?_
              simp only [Act.put, List.setIfInBounds_toArray, List.set_cons_succ, List.set_cons_zero]
              go_big_quiet_step (fail)
              go_big_quiet_step (fail)
              refine wq_val (o := ⟨some 112, _, _, _, _, _⟩) (v := .pointer (some ⟨g5, j, none⟩)) rfl (fun w' hC => by go_simp) ?_
              simp only [Act.put, List.setIfInBounds_toArray, List.set_cons_succ, List.set_cons_zero]
              refine wq_val (o := ⟨some 113, _, _, _, _, _⟩) (v := .string ⟨bj.toArray⟩) rfl (fun w' hC => by have cc := cell_grow HBJ.out.2.1 hC; simp only [strV] at cc; go_simp) ?_
              simp only [Act.put, List.setIfInBounds_toArray, List.set_cons_succ, List.set_cons_zero]
              by_cases hbb : bi = bj
              · have hcc : cj = ci := by rw [HBJ.out.1, HBI.out.2.1, hbb]
                have hneq : ∀ W, (binOp .neq 43 (.agg ci.toArray) (.agg ci.toArray)).run Tryd.prog W = .ok (.bool false) W := fun W => by rw [HBI.out.2.1]; exact hash_neq bi W
                have heqi : ∀ W, (Op.equalIn 10000 43 (.agg ci.toArray) (.agg ci.toArray)).run Tryd.prog W = .ok true W := fun W => by rw [HBI.out.2.1]; exact hash_eqi bi W
                have hq3 := HBJ.out.2.2
                rw [hcc] at hq3
                have HQ3 := Lib.hid hq3
                clear hcc hq3
                subst hbb
                refine wq_val (o := ⟨some 114, _, _, _, _, _⟩) (v := .bool true) rfl (fun w' hC => by go_simp) ?_
                simp only [Act.put, List.setIfInBounds_toArray, List.set_cons_succ, List.set_cons_zero]
                go_big_quiet_step (fail)
                refine wq_loadB (o := ⟨some 116, _, _, _, _, _⟩) A43 rfl _ rfl b10 0 rfl _ _ (fun w' hC => From.blk hC HB10.out.1) ci (full hcil) hcil ?_
                simp only [Act.put, List.setIfInBounds_toArray, List.set_cons_succ, List.set_cons_zero]
                go_big_quiet_step (fail)
                go_big_quiet_step (fail)
                refine wq_val (o := ⟨some 119, _, _, _, _, _⟩) (v := .pointer (some ⟨g3, j * 73, none⟩)) rfl (fun w' hC => by go_simp) ?_
                simp only [Act.put, List.setIfInBounds_toArray, List.set_cons_succ, List.set_cons_zero]
                refine wq_loadB (o := ⟨some 120, _, _, _, _, _⟩) A43 rfl _ rfl g3 (j * 73) rfl _ _ (fun w' hC => From.blk hC HB3.out.1) ci HQ3.out hcil ?_
                simp only [Act.put, List.setIfInBounds_toArray, List.set_cons_succ, List.set_cons_zero]
                refine wq_val (o := ⟨some 121, _, _, _, _, _⟩) (v := .bool false) rfl (fun w' hC => by go_simp) ?_
                simp only [Act.put, List.setIfInBounds_toArray, List.set_cons_succ, List.set_cons_zero]
                refine wq_val (o := ⟨some 122, _, _, _, _, _⟩) (v := .bool false) rfl (fun w' hC => by go_simp) ?_
                simp only [Act.put, List.setIfInBounds_toArray, List.set_cons_succ, List.set_cons_zero]
                refine wpQuiet_nil ?_
                intro w8 h8
                replace HXX := Lib.hid (HXX.out.grow h8)
                clear h8 hneq heqi
                go_wp2
                exact ⟨⟨k + 1, bs, by omega, by go_num, by omega, HXX.out⟩, by simp [intOf]; omega⟩
              · have hne : ¬ ((⟨bi.toArray⟩ : ByteArray) = ⟨bj.toArray⟩) := fun h => hbb (bytes_eq.1 h)
                refine wq_val (o := ⟨some 114, _, _, _, _, _⟩) (v := .bool false) rfl (fun w' hC => by go_simp) ?_
                simp only [Act.put, List.setIfInBounds_toArray, List.set_cons_succ, List.set_cons_zero]
                go_big_quiet_step (fail)
                go_big_quiet_step (fail)
                go_big_quiet_step (fail)
                go_big_quiet_step (fail)
                go_big_quiet_step (fail)
                go_big_quiet_step (fail)
                go_big_quiet_step (fail)
                refine wq_val (o := ⟨some 122, _, _, _, _, _⟩) (v := .bool false) rfl (fun w' hC => by go_simp) ?_
                simp only [Act.put, List.setIfInBounds_toArray, List.set_cons_succ, List.set_cons_zero]
                refine wpQuiet_nil ?_
                intro w8 h8
                replace HXX := Lib.hid (HXX.out.grow h8)
                clear h8 hne
                go_wp2
                exact ⟨⟨k + 1, bs, by omega, by go_num, by omega, HXX.out⟩, by simp [intOf]; omega⟩
            · have HXX := Lib.hid (HX.out.1.more (Nat.mul_le_mul_right 1048576 (Nat.le_succ k)))
              go_wp2
              exact ⟨⟨k + 1, bs, by omega, by go_num, by omega, HXX.out⟩, by simp [intOf]; omega⟩
    -- <A
    · obtain rfl : k = L := by omega
      clear hlt hk
      have hpos := X.pos
      obtain ⟨m, hm⟩ : ∃ m, m = bs.length := ⟨_, rfl⟩
      obtain ⟨g3, cap3, cur3, rfl, hg3, hB3, hcur3, hc3, hcm3, hcl3⟩ := own_blk X.own3 hpos
      obtain ⟨g5, cap5, cur5, rfl, hg5, hB5, hcur5, hc5, hcm5, hcl5⟩ := own_blk X.own5 hpos
      rw [← hm] at hcur3 hcur5 hc3 hc5 hcl3 hcl5 X ⊢
      have HX := Lib.hid (And.intro X (And.intro hB3 hB5))
      have HM := Lib.hid (And.intro hm (And.intro hcur3 hcur5))
      have hmx : m ≤ 1048577 := by omega
      clear hm X hB3 hcur3 hB5 hcur5 hpos
      go_wp2_with fail
      go_loopw [126] (fun v wr => ∃ i : Nat, i ≤ m ∧ v = .int .i64 i ∧ HH w (.slice (some ⟨g3, 0, none⟩) m cap3) (.slice (some ⟨g5, 0, none⟩) m cap5) bs (k * 1048576) wr ∧ Blk wr g3 43 cur3 ∧ Blk wr g5 9 cur5) (fun v _ => m - (intOf v).toNat)
      case atStart => exact ⟨0, by omega, rfl, HX.out⟩
      case round =>
        clear HX
        obtain ⟨i, hi, rfl, X, hB3, hB5⟩ := hrel
        by_cases him : i < m
        · have hix : (i : Int) < (m : Int) := by omega
          have hi0 : (0 : Int) ≤ (i : Int) := by omega
          have hbi0 : i < bs.length := by have := HM.out.1; omega
          obtain ⟨bi, hbi⟩ : ∃ x, x = bs[i] := ⟨_, rfl⟩
          obtain ⟨ci, hci⟩ : ∃ x, x = hashCells bi := ⟨_, rfl⟩
          have hcil : ci.length = (hashCells []).length := by rw [hci, hashCells_length, hashCells_length]
          have hci1 : ∀ v ∈ ci, v.oneCell' = true := by rw [hci]; exact hash_one _
          have hq3 : (cur3.drop (i * 73)).take (hashCells []).length = ci := by
            rw [hashCells_length, take_part HM.out.2.1 him, flat_part hashCells 73 bs i hbi0 (fun b _ => hashCells_length b), ← hbi, hci]
          have hq5 : wr.cell? ⟨g5, i, none⟩ = some (strV bi) := by
            rw [hB5.cell i, hbi]
            have h := congrArg (fun l => l[i]?) HM.out.2.2
            simp only [Nat.mul_one, List.getElem?_take, if_pos him, List.getElem?_map, List.getElem?_eq_getElem hbi0, Option.map_some] at h
            exact h
          have hbil : bi.length ≤ k * 1048576 := X.len bi (by rw [hbi]; exact List.getElem_mem _)
          have HBI := Lib.hid (And.intro hci hq5)
          have HX := Lib.hid (And.intro X (And.intro hB3 hB5))
          have HQ3 := Lib.hid hq3
          clear hbi hci hq5 hq3 hB3 hB5 X him
          go_upto_region 35 with (first
            | ((with_reducible show wpList _ _ _ (⟨some 130, _, _, _, _, _⟩ :: _) _ _); go_must (refine wpList_loadB (op := ⟨some 130, _, _, _, _, _⟩) A43 rfl _ rfl g3 (i * 73) rfl _ _ HX.out.2.1 ci HQ3.out hcil ?_))
            | ((with_reducible show wpList _ _ _ (⟨some 14, _, _, _, _, _⟩ :: _) _ _); go_must (refine wpList_allocB (op := ⟨some 14, _, _, _, _, _⟩) A43 rfl rfl wr.heap.size rfl ?_); intro w6 hB6 hb6 hz6)
            | ((with_reducible show wpList _ _ _ (⟨none, .store 43 _ _, _, _, _, _⟩ :: _) _ _); go_must (refine wpList_storeB (op := ⟨none, _, _, _, _, _⟩) A43 rfl _ _ rfl wr.heap.size 0 rfl ci rfl hcil _ _ hB6 (Nat.le_of_eq ((Nat.zero_add _).trans hcil)) hci1 ?_); intro w7 hB10 hg7 hz7; rw [splice_all _ _ hcil] at hB10))
          have h57 : Below wr.heap.size wr w7 := gst (gr wr) hb6 hg7 (Nat.le_refl _)
          obtain ⟨b10, hb10⟩ : ∃ b, b = wr.heap.size := ⟨_, rfl⟩
          rw [← hb10] at hB10 ⊢
          have q5 : w7.cell? ⟨g5, i, none⟩ = some (strV bi) := cell_grow HBI.out.2 h57
          replace HX := Lib.hid (And.intro (HX.out.1.grow h57) (And.intro (HX.out.2.1.grow h57) (HX.out.2.2.grow h57)))
          have HB10 := Lib.hid hB10
          replace HBI := Lib.hid (And.intro HBI.out.1 q5)
          clear hB6 hb6 hz6 hg7 hz7 hB10 h57 hb10 q5 HQ3
          have hsz : (⟨bi.toArray⟩ : ByteArray).size = bi.length := by simp [ByteArray.size]
          have hneq : ∀ W, (binOp .neq 30 (.agg ((sumf bi).map bv).toArray) (.agg ((sumf bi).map bv).toArray)).run Tryd.prog W = .ok (.bool false) W := fun W => dig_eql _ W
          have heqi : ∀ W, (Op.equalIn 10000 30 (.agg ((sumf bi).map bv).toArray) (.agg ((sumf bi).map bv).toArray)).run Tryd.prog W = .ok true W := fun W => dig_eqi _ W
          obtain ⟨d, hd⟩ : ∃ d, d = (sumf bi).map bv := ⟨_, rfl⟩
          rw [← hd] at hneq heqi
          have HD := Lib.hid hd
          clear hd
          try simp only [Act.put, List.setIfInBounds_toArray, List.set_cons_succ, List.set_cons_zero]
          refine wp_region_rrT (fun a b => Below a.heap.size a b) (fun _ _ _ h g => gt h g) (fun _ _ h => h.size) (fun a => (gr a).drew) 18
            [.eq 131 (.agg ci.toArray), .eq 132 (.int .i64 (bi.length : Int)), .eq 133 (.slice (some ⟨g5, 0, none⟩) m cap5), .eq 134 (.int .i64 (i : Int)), .eq 135 (.pointer (some ⟨g5, i, none⟩)), .eq 136 (.string ⟨bi.toArray⟩), .eq 137 (.int .i64 (bi.length : Int)), .eq 138 (.bool false), .eq 139 (.bool false), .eq 140 (.agg ci.toArray), .eq 141 (.agg d.toArray), .eq 142 (.slice (some ⟨g5, 0, none⟩) m cap5), .eq 143 (.int .i64 (i : Int)), .eq 144 (.pointer (some ⟨g5, i, none⟩)), .eq 145 (.string ⟨bi.toArray⟩), .new 146 (fun v W => ∃ g c, v = .slice (some ⟨g, 0, none⟩) bi.length c ∧ RB W (some ⟨g, 0, none⟩) bi), .eq 147 (.agg d.toArray), .eq 148 (.bool false)]
            (by kernel_rfl) (by kernel_rfl) (by kernel_rfl) (by kernel_rfl) ?hstb ?hobb ?hfinb
          case hstb =>
            intro s hs
            simp only [List.mem_cons, List.not_mem_nil, or_false] at hs
            rcases hs with rfl | rfl | rfl | rfl | rfl | rfl | rfl | rfl | rfl | rfl | rfl | rfl | rfl | rfl | rfl | rfl | rfl | rfl
            · exact fun _ _ _ h _ => h
            · exact fun _ _ _ h _ => h
            · exact fun _ _ _ h _ => h
            · exact fun _ _ _ h _ => h
            · exact fun _ _ _ h _ => h
            · exact fun _ _ _ h _ => h
            · exact fun _ _ _ h _ => h
            · exact fun _ _ _ h _ => h
            · exact fun _ _ _ h _ => h
            · exact fun _ _ _ h _ => h
            · exact fun _ _ _ h _ => h
            · exact fun _ _ _ h _ => h
            · exact fun _ _ _ h _ => h
            · exact fun _ _ _ h _ => h
            · exact fun _ _ _ h _ => h
            · rintro vs w1 w2 ⟨v, rfl, g, c', rfl, h⟩ hb
              exact ⟨_, rfl, g, c', rfl, h.below hb⟩
            · exact fun _ _ _ h _ => h
            · exact fun _ _ _ h _ => h
          case hobb =>
            simp only [List.take_succ_cons, List.take_zero]
            refine rrs_cons ?_ (rrs_cons ?_ (rrs_cons ?_ (rrs_cons ?_ (rrs_cons ?_ (rrs_cons ?_ (rrs_cons ?_ (rrs_cons ?_ (rrs_cons ?_ (rrs_cons ?_ (rrs_cons ?_ (rrs_cons ?_ (rrs_cons ?_ (rrs_cons ?_ (rrs_cons ?_ (rrs_cons ?_ (rrs_cons ?_ (rrs_cons ?_ rrs_nil)))))))))))))))))
            · refine rr_wp (by decide) (by rfl) fun x w' A hg hp hA K' hK' => ?_
              have e14 := hA 14
              simp [rgDsts] at e14
              refine wp_loadB A43 _ rfl b10 0 ?_ _ _ (HB10.out.grow hg) ci (full hcil) hcil ?_
              · simpa [Act.eval] using e14
              · exact hK' _ _ (gr _) (by simp) (by simp)
            · refine rr_call (by decide) (by rfl) fun x w' A hg hp hA => ?_
              try simp [RgPreds, Region.binds] at hp
              refine ⟨29, #[.agg ci.toArray], ?_, ?_⟩
              · have e131 := hA 131
                simp [rgDsts] at e131
                try simp only [hp] at e131
                go_simp
              · refine (show Calls Tryd.prog 29 #[.agg ci.toArray] w' fun e w'' => e = .returned (.int .i64 (bi.length : Int)) ∧ Below w'.heap.size w' w'' from by rw [HBI.out.1]; exact len_any bi w').mono ?_
                rintro e w'' ⟨rfl, hb⟩
                exact ⟨_, rfl, hb, by simp, by simp⟩
            · refine rr_eq gr (by decide) (by rfl) (by rfl) fun x w' A hg hp hA => ?_
              have e5 := hA 5
              simp [rgDsts] at e5
              try simp [RgPreds, Region.binds] at hp
              try obtain ⟨h1, h2⟩ := hp
              try simp only [h1, h2] at e5
              go_simp
            · refine rr_eq gr (by decide) (by rfl) (by rfl) fun x w' A hg hp hA => ?_
              have e13 := hA 13
              simp [rgDsts] at e13
              try simp [RgPreds, Region.binds] at hp
              try obtain ⟨h1, h2⟩ := hp
              try simp only [h1, h2] at e13
              go_simp
            · refine rr_eq gr (by decide) (by rfl) (by rfl) fun x w' A hg hp hA => ?_
              have e133 := hA 133
              have e134 := hA 134
              simp [rgDsts] at e133 e134
              try simp [RgPreds, Region.binds] at hp
              try obtain ⟨h1, h2⟩ := hp
              try simp only [h1, h2] at e133 e134
              go_simp
            · refine rr_eq gr (by decide) (by rfl) (by rfl) fun x w' A hg hp hA => ?_
              have e135 := hA 135
              simp [rgDsts] at e135
              try simp [RgPreds, Region.binds] at hp
              try obtain ⟨h1, h2⟩ := hp
              try simp only [h1, h2] at e135
              have cc := cell_grow HBI.out.2 hg
              simp only [strV] at cc
              go_simp
            · refine rr_eq gr (by decide) (by rfl) (by rfl) fun x w' A hg hp hA => ?_
              have e136 := hA 136
              simp [rgDsts] at e136
              try simp [RgPreds, Region.binds] at hp
              try obtain ⟨h1, h2⟩ := hp
              try simp only [h1, h2] at e136
              go_simp
            · refine rr_eq gr (by decide) (by rfl) (by rfl) fun x w' A hg hp hA => ?_
              have e132 := hA 132
              have e137 := hA 137
              simp [rgDsts] at e132 e137
              try simp [RgPreds, Region.binds] at hp
              try obtain ⟨h1, h2⟩ := hp
              try simp only [h1, h2] at e132 e137
              go_simp
            · refine rr_eq gr (by decide) (by rfl) (by rfl) fun x w' A hg hp hA => ?_
              have e138 := hA 138
              simp [rgDsts] at e138
              try simp [RgPreds, Region.binds] at hp
              try obtain ⟨h1, h2⟩ := hp
              try simp only [h1, h2] at e138
              go_simp
            · refine rr_wpG (by decide) 8 139 false (by rfl) (by rfl) (by decide) (Nat.le_of_ble_eq_true rfl) (fun x w' hg hp => by simp [RgPreds, Region.binds] at hp; first | exact hp | exact hp.1 | exact hp.2 | exact hp.2.1 | exact hp.2.2 | simp_all) fun x w' A hg hp hA K' hK' => ?_
              have e14 := hA 14
              simp [rgDsts] at e14
              refine wp_loadB A43 _ rfl b10 0 ?_ _ _ (HB10.out.grow hg) ci (full hcil) hcil ?_
              · simpa [Act.eval] using e14
              · exact hK' _ _ (gr _) (by simp) (by simp)
            · refine rr_callG (by decide) 8 139 false (by rfl) (by rfl) (by decide) (Nat.le_of_ble_eq_true rfl) (fun x w' hg hp => by simp [RgPreds, Region.binds] at hp; first | exact hp | exact hp.1 | exact hp.2 | exact hp.2.1 | exact hp.2.2 | simp_all) fun x w' A hg hp hA => ?_
              try simp [RgPreds, Region.binds] at hp
              refine ⟨27, #[.agg ci.toArray], ?_, ?_⟩
              · have e140 := hA 140
                simp [rgDsts] at e140
                try simp only [hp] at e140
                go_simp
              · refine (show Calls Tryd.prog 27 #[.agg ci.toArray] w' fun e w'' => e = .returned (.agg d.toArray) ∧ Below w'.heap.size w' w'' from by rw [HBI.out.1, HD.out]; exact sum_any bi w' (HG.out.grow (gt HX.out.1.low hg)) (by omega)).mono ?_
                rintro e w'' ⟨rfl, hb⟩
                exact ⟨_, rfl, hb, by simp, by simp⟩
            · refine rr_eqG gr (by decide) (by rfl) 8 139 false (by rfl) (by rfl) (by decide) (Nat.le_of_ble_eq_true rfl) (fun x w' hg hp => by simp [RgPreds, Region.binds] at hp; first | exact hp | exact hp.1 | exact hp.2 | exact hp.2.1 | exact hp.2.2 | simp_all) fun x w' A hg hp hA => ?_
              have e5 := hA 5
              simp [rgDsts] at e5
              try simp [RgPreds, Region.binds] at hp
              try obtain ⟨h1, h2⟩ := hp
              try simp only [h1, h2] at e5
              go_simp
            · refine rr_eqG gr (by decide) (by rfl) 8 139 false (by rfl) (by rfl) (by decide) (Nat.le_of_ble_eq_true rfl) (fun x w' hg hp => by simp [RgPreds, Region.binds] at hp; first | exact hp | exact hp.1 | exact hp.2 | exact hp.2.1 | exact hp.2.2 | simp_all) fun x w' A hg hp hA => ?_
              have e13 := hA 13
              simp [rgDsts] at e13
              try simp [RgPreds, Region.binds] at hp
              try obtain ⟨h1, h2⟩ := hp
              try simp only [h1, h2] at e13
              go_simp
            · refine rr_eqG gr (by decide) (by rfl) 8 139 false (by rfl) (by rfl) (by decide) (Nat.le_of_ble_eq_true rfl) (fun x w' hg hp => by simp [RgPreds, Region.binds] at hp; first | exact hp | exact hp.1 | exact hp.2 | exact hp.2.1 | exact hp.2.2 | simp_all) fun x w' A hg hp hA => ?_
              have e142 := hA 142
              have e143 := hA 143
              simp [rgDsts] at e142 e143
              try simp [RgPreds, Region.binds] at hp
              try obtain ⟨h1, h2⟩ := hp
              try simp only [h1, h2] at e142 e143
              go_simp
            · refine rr_eqG gr (by decide) (by rfl) 8 139 false (by rfl) (by rfl) (by decide) (Nat.le_of_ble_eq_true rfl) (fun x w' hg hp => by simp [RgPreds, Region.binds] at hp; first | exact hp | exact hp.1 | exact hp.2 | exact hp.2.1 | exact hp.2.2 | simp_all) fun x w' A hg hp hA => ?_
              have e144 := hA 144
              simp [rgDsts] at e144
              try simp [RgPreds, Region.binds] at hp
              try obtain ⟨h1, h2⟩ := hp
              try simp only [h1, h2] at e144
              have cc := cell_grow HBI.out.2 hg
              simp only [strV] at cc
              go_simp
            · refine rr_valG (by decide) 8 139 false (by rfl) (by rfl) (by decide) (Nat.le_of_ble_eq_true rfl) (fun x w' hg hp => by simp [RgPreds, Region.binds] at hp; first | exact hp | exact hp.1 | exact hp.2 | exact hp.2.1 | exact hp.2.2 | simp_all) fun x w' A hg hp hA => ?_
              have e145 := hA 145
              simp [rgDsts] at e145
              simp [RgPreds, Region.binds] at hp
              simp only [hp] at e145
              obtain ⟨c', w'', hrun, hb, hrb, hz⟩ := conv_bytes (P := Tryd.prog) (w := w') (src := 9) (dst := 32) Tryd.underlying9 Tryd.underlying32 Tryd.underlying5 bi
              refine ⟨.slice (some ⟨w'.heap.size, 0, none⟩) bi.length c', w'', ?_, hb, ?_, ?_⟩
              · simp only [strV] at hrun
                simp [execOp, Act.eval, e145, hrun, Result.andThen]
              · simp
                exact hrb
              · simp [blockOf]
                omega
            · refine rr_callG (by decide) 8 139 false (by rfl) (by rfl) (by decide) (Nat.le_of_ble_eq_true rfl) (fun x w' hg hp => by simp [RgPreds, Region.binds] at hp; first | exact hp | exact hp.1 | exact hp.2 | exact hp.2.1 | exact hp.2.2 | simp_all) fun x w' A hg hp hA => ?_
              try simp [RgPreds, Region.binds] at hp
              obtain ⟨⟨g, ⟨c', e91'⟩, hrb⟩, _⟩ := hp
              refine ⟨21, #[.slice (some ⟨g, 0, none⟩) bi.length c'], ?_, ?_⟩
              · have e146 := hA 146
                simp [rgDsts] at e146
                try simp only [e91'] at e146
                go_simp
              · refine (rsum_any bi _ c' w' hrb (by omega)).mono ?_
                rintro e w'' ⟨rfl, hb⟩
                exact ⟨_, rfl, hb, by simp [HD.out], by simp⟩
            · refine rr_eqG gr (by decide) (by rfl) 8 139 false (by rfl) (by rfl) (by decide) (Nat.le_of_ble_eq_true rfl) (fun x w' hg hp => by simp [RgPreds, Region.binds] at hp; first | exact hp | exact hp.1 | exact hp.2 | exact hp.2.1 | exact hp.2.2 | simp_all) fun x w' A hg hp hA => ?_
              have e141 := hA 141
              have e147 := hA 147
              simp [rgDsts] at e141 e147
              try simp [RgPreds, Region.binds] at hp
              try obtain ⟨h1, h2⟩ := hp
              try simp only [h1, h2] at e141 e147
              go_simp
          case hfinb =>
          intro x w8 hg hall hap
          simp only [RgAll, holds_eq, holds_new, and_true] at hall
          obtain ⟨e131, e132, e133, e134, e135, e136, e137, e138, e139, e140, e141, e142, e143, e144, e145, ⟨g, c', e146, hrb⟩, e147, e148⟩ := hall
          simp only [rgDsts, List.take_succ_cons, List.take_zero, List.filterMap_cons, List.filterMap_nil, putMany, List.foldl_cons, List.foldl_nil, List.setIfInBounds_toArray, List.set_cons_succ, List.set_cons_zero, List.drop_succ_cons, List.drop_zero, e131, e132, e133, e134, e135, e136, e137, e138, e139, e140, e141, e142, e143, e144, e145, e146, e147, e148]
          clear e131 e132 e133 e134 e135 e136 e137 e138 e139 e140 e141 e142 e143 e144 e145 e146 e147 e148
          replace HX := Lib.hid (And.intro (HX.out.1.grow hg) (And.intro (HX.out.2.1.grow hg) (HX.out.2.2.grow hg)))
          clear hg hap hrb hneq heqi hsz
          go_wp2
          exact ⟨⟨i + 1, by omega, by go_num, HX.out⟩, by simp [intOf]; omega⟩
        · have hix : (i : Int) = (m : Int) := by omega
          have HX := Lib.hid X.low
          clear X hB3 hB5 him
          go_wp2
          go_ret
          exact ⟨rfl, HX.out⟩
end Go.Proofs.YtoemceehmiaigaaDoor.LawHashes
