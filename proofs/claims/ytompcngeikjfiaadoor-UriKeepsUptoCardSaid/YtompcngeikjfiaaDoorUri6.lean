/- uri: the program's Encode. -/
import Derived.Test.YtompcngeikjfiaaDoorUri5
namespace Go.Proofs.YtompcngeikjfiaaDoor.Uri
open Go.RowKit Go.Proofs.YtompcngeikjfiaaDoor.Mem Go.Proofs.YtompcngeikjfiaaDoor.Seal
set_option linter.unusedVariables false

theorem Bld.grow {w w' : World} {B b : Nat} {l : List UInt8} (h : Bld w B b l) (hb : Below w.heap.size w w') : Bld w' B b l := by
  rcases h with ⟨h1, v, h2, h3, h4⟩ | ⟨h1, v, h2, h3, h4⟩
  · exact .inl ⟨h1, v, (show Blk w b BT [_, v] from h2).grow hb, own_below' h3 hb, h4⟩
  · exact .inr ⟨h1, v, (show Blk w b BT [_, v] from h2).grow hb, own_below' h3 hb, h4⟩

set_option maxRecDepth 4000 in
set_option maxHeartbeats 3200000 in
theorem encode_any (A : Option Addr) (n c : Nat) (ps : List PD) (w : World) (hA : RV w A (ps.flatMap PD.cells)) (hn : n = ps.length) (hl : n ≤ 1048576) (hok : ∀ p ∈ ps, PD.ok p) :
    Calls Tryd.prog 24 #[.slice A n c] w fun e w' => e = .returned (.string ⟨(form ps).toArray⟩) ∧ Below w.heap.size w w' := by
  have HA := Lib.hid (And.intro hA (And.intro hn hok))
  have hni : (n : Int) ≤ 1048576 := by omega
  clear hA hn hok
  obtain ⟨w1, hw1⟩ : ∃ x, x = w.alloc (.cells #[.pointer none, .slice none 0 0] BT) := ⟨_, rfl⟩
  have hB1 : Bld w1 w.heap.size w.heap.size [] := hw1 ▸ bld_new w
  have hb1 : Below w.heap.size w w1 := hw1 ▸ ga (gr w) _
  have HX := Lib.hid (And.intro hB1 hb1)
  clear hB1 hb1
  generalize hH : w.heap.size = H at *
  go_enter Tryd.func24, Tryd.ntmps24
  go_upto_region 3 with fail
  rw [show w.alloc (.cells #[.pointer none, .slice none 0 0] 58) = w1 from hw1.symm]
  clear hw1
  go_wp2_with fail
  go_loopw [8] (fun v wr => ∃ k : Nat, k ≤ n ∧ v = .int .i64 k ∧ Bld wr H H (form (ps.take k)) ∧ Below H w wr) (fun v _ => n - (intOf v).toNat)
  case atStart => exact ⟨0, by omega, rfl, HX.out.1, HX.out.2⟩
  case round =>
    clear HX
    obtain ⟨k, hk, rfl, hB, hb⟩ := hrel
    by_cases hlt : k < n
    · have hkr : k < ps.length := by have := HA.out.2.1; omega
      have hpc := pd_cells (HA.out.1.below (hH ▸ hb)) hkr
      have hft := form_take hkr
      have hfl := form_len HA.out.2.2 k (by omega)
      have hpo := HA.out.2.2 ps[k] (List.getElem_mem _)
      obtain ⟨hd, hhd⟩ : ∃ x, x = ps[k] := ⟨_, rfl⟩
      rw [← hhd] at hpc hft hpo
      obtain ⟨ad, hA', a0, a1⟩ := hpc
      have hki : (k : Int) < (n : Int) := by omega
      have hk0 : (0 : Int) ≤ (k : Int) := by omega
      obtain ⟨p1, p2⟩ := hd
      simp only at a0 a1
      have h1l := esc_len p1
      have h2l := esc_len p2
      have hp1 : p1.length ≤ 1048576 := hpo.1
      have hp2 : p2.length ≤ 1048576 := hpo.2
      have cE1 := Lib.hid (fun W => escape_any p1 W (by omega))
      have cE2 := Lib.hid (fun W => escape_any p2 W (by omega))
      obtain ⟨s1, hs1⟩ : ∃ x, x = (⟨p1.toArray⟩ : ByteArray) := ⟨_, rfl⟩
      obtain ⟨s2, hs2⟩ : ∃ x, x = (⟨p2.toArray⟩ : ByteArray) := ⟨_, rfl⟩
      rw [← hs1] at a0 cE1
      rw [← hs2] at a1 cE2
      obtain ⟨e1, he1⟩ : ∃ x, x = esc p1 := ⟨_, rfl⟩
      obtain ⟨e2, he2⟩ : ∃ x, x = esc p2 := ⟨_, rfl⟩
      rw [← he1] at cE1 h1l
      rw [← he2] at cE2 h2l
      obtain ⟨e3, he3⟩ : ∃ x, x = e1 ++ [61] := ⟨_, rfl⟩
      obtain ⟨e4, he4⟩ : ∃ x, x = e3 ++ e2 := ⟨_, rfl⟩
      have hpr : pair (p1, p2) = e4 := by unfold pair; rw [he4, he3, he1, he2]
      rw [hpr] at hft
      have q1 : ((⟨e1.toArray⟩ : ByteArray) ++ ⟨#[61]⟩) = ⟨e3.toArray⟩ := by rw [he3, ByteArray.mk_append_mk]; try rfl
      have q2 : ((⟨e3.toArray⟩ : ByteArray) ++ ⟨e2.toArray⟩) = ⟨e4.toArray⟩ := by rw [he4, ByteArray.mk_append_mk]; try rfl
      have l1 : e1.length + 1 ≤ 9223372036854775807 := by omega
      have l2 : e3.length + e2.length ≤ 9223372036854775807 := by rw [he3, List.length_append, List.length_cons, List.length_nil]; omega
      obtain ⟨fk, hfk⟩ : ∃ x, x = form (ps.take k) := ⟨_, rfl⟩
      rw [← hfk] at hft hfl hB
      have hflN : fk.length ≤ 6597069766656 := by
        have : k * 6291458 ≤ 1048576 * 6291458 := Nat.mul_le_mul_right _ (by omega)
        omega
      have he4N : e4.length ≤ 6291457 := by rw [he4, he3, List.length_append, List.length_append, List.length_cons, List.length_nil]; omega
      have HE := Lib.hid (And.intro he3 (And.intro he4 he4N))
      subst hA'
      have HV := Lib.hid (And.intro hft (And.intro hB hb))
      clear hft hB hb hlt hkr hhd hpo hs1 hs2 he1 he2 hpr hfk hfl h1l h2l hp1 hp2 he3 he4 he4N
      go_upto_region 5 with fail
      obtain ⟨w2, hw2⟩ : ∃ x, x = wr.alloc (.cells #[.string s1, .string s2] 51) := ⟨_, rfl⟩
      rw [← hw2]
      have hb2 : Below wr.heap.size wr w2 := hw2 ▸ ga (gr wr) _
      have hB2 : Blk w2 wr.heap.size 51 [.string s1, .string s2] := hw2 ▸ Blk.new wr _ _
      have H2 := Lib.hid (And.intro (HV.out.2.1.grow hb2) (And.intro (HV.out.2.2.trans (hb2.mono (hH ▸ HV.out.2.2.size))) hB2))
      have hgw : H < wr.heap.size := by obtain ⟨_, _, _, _, hblk, _⟩ := HV.out.2.1.blk; exact hblk.lt
      generalize wr.heap.size = g5 at *
      clear a0 a1 hb2 hB2 hw2
      by_cases hk1 : 0 < k
      · have hk1i : 0 < (k : Int) := by omega
        have hft := HV.out.1
        rw [if_pos hk1] at hft
        have HF := Lib.hid hft
        clear hft hk1
        go_upto_region 7 with (first
          | (go_at_call 32; go_must (refine (writeByte_k H H fk 38 _ H2.out.1 (by omega) (by have := H2.out.2.1.size; omega)).mono ?_); rintro e w3 ⟨rfl, hB3, hb3, hk3⟩))
        have H3 := Lib.hid (And.intro hB3 (And.intro (H2.out.2.1.trans hb3) (hk3 g5 _ _ H2.out.2.2 (by decide) (by omega))))
        clear hB3 hb3 hk3
        try simp only [Act.put, List.setIfInBounds_toArray, List.set_cons_succ, List.set_cons_zero]
        refine wp_region_qbT 8 (by kernel_rfl) (by kernel_rfl) ?_
        simp only [List.take_succ_cons, List.take_zero, List.drop_succ_cons, List.drop_zero]
        refine wq_val (o := ⟨some 16, _, _, _, _, _⟩) (v := .pointer (some ⟨g5, 0, none⟩)) rfl (fun w' hC => by go_simp) ?_
        simp only [Act.put, List.setIfInBounds_toArray, List.set_cons_succ, List.set_cons_zero]
        refine wq_val (o := ⟨some 17, _, _, _, _, _⟩) (v := .string s1) rfl (fun w' hC => by have cc := (From.blk hC H3.out.2.2).cell 0; simp only [List.getElem?_cons_zero] at cc; go_simp) ?_
        simp only [Act.put, List.setIfInBounds_toArray, List.set_cons_succ, List.set_cons_zero]
        refine wq_call (f := 13) (args := #[.string s1]) (v := .string ⟨e1.toArray⟩) rfl (fun w' _ => by go_simp) (fun w' hC => cE1.out w') ?_
        simp only [Act.put, List.setIfInBounds_toArray, List.set_cons_succ, List.set_cons_zero]
        refine wq_val (o := ⟨some 19, _, _, _, _, _⟩) (v := .string ⟨e3.toArray⟩) rfl (fun w' hC => by go_simp) ?_
        simp only [Act.put, List.setIfInBounds_toArray, List.set_cons_succ, List.set_cons_zero]
        refine wq_val (o := ⟨some 20, _, _, _, _, _⟩) (v := .pointer (some ⟨g5, 1, none⟩)) rfl (fun w' hC => by go_simp) ?_
        simp only [Act.put, List.setIfInBounds_toArray, List.set_cons_succ, List.set_cons_zero]
        refine wq_val (o := ⟨some 21, _, _, _, _, _⟩) (v := .string s2) rfl (fun w' hC => by have cc := (From.blk hC H3.out.2.2).cell 1; simp only [List.getElem?_cons_zero, List.getElem?_cons_succ] at cc; go_simp) ?_
        simp only [Act.put, List.setIfInBounds_toArray, List.set_cons_succ, List.set_cons_zero]
        refine wq_call (f := 13) (args := #[.string s2]) (v := .string ⟨e2.toArray⟩) rfl (fun w' _ => by go_simp) (fun w' hC => cE2.out w') ?_
        simp only [Act.put, List.setIfInBounds_toArray, List.set_cons_succ, List.set_cons_zero]
        refine wq_val (o := ⟨some 23, _, _, _, _, _⟩) (v := .string ⟨e4.toArray⟩) rfl (fun w' hC => by go_simp) ?_
        simp only [Act.put, List.setIfInBounds_toArray, List.set_cons_succ, List.set_cons_zero]
        refine wpQuiet_nil ?_
        intro w8 h8
        have hB8 := H3.out.1.grow h8
        have hb8 := H3.out.2.1.trans (h8.mono (hH ▸ H3.out.2.1.size))
        have H8 := Lib.hid (And.intro hB8 hb8)
        clear h8 hB8 hb8
        go_wp2_with (first
          | (go_at_call 38; go_must (refine (writeString_any H H (fk ++ [38]) e4 _ H8.out.1 (by have := HE.out.2.2; first | omega | (simp; omega)) (by have := H8.out.2.size; omega)).mono ?_); rintro e w9 ⟨rfl, hB9, hb9⟩))
        refine ⟨⟨k + 1, by omega, by go_num, ?_, H8.out.2.trans hb9⟩, by simp [intOf]; omega⟩
        rw [HF.out]
        simpa using hB9
      · have hk1i : ¬ 0 < (k : Int) := by omega
        have hft := HV.out.1
        rw [if_neg hk1, List.nil_append] at hft
        have HF := Lib.hid hft
        clear hft hk1
        go_upto_region 7 with fail
        try simp only [Act.put, List.setIfInBounds_toArray, List.set_cons_succ, List.set_cons_zero]
        refine wp_region_qbT 8 (by kernel_rfl) (by kernel_rfl) ?_
        simp only [List.take_succ_cons, List.take_zero, List.drop_succ_cons, List.drop_zero]
        refine wq_val (o := ⟨some 16, _, _, _, _, _⟩) (v := .pointer (some ⟨g5, 0, none⟩)) rfl (fun w' hC => by go_simp) ?_
        simp only [Act.put, List.setIfInBounds_toArray, List.set_cons_succ, List.set_cons_zero]
        refine wq_val (o := ⟨some 17, _, _, _, _, _⟩) (v := .string s1) rfl (fun w' hC => by have cc := (From.blk hC H2.out.2.2).cell 0; simp only [List.getElem?_cons_zero] at cc; go_simp) ?_
        simp only [Act.put, List.setIfInBounds_toArray, List.set_cons_succ, List.set_cons_zero]
        refine wq_call (f := 13) (args := #[.string s1]) (v := .string ⟨e1.toArray⟩) rfl (fun w' _ => by go_simp) (fun w' hC => cE1.out w') ?_
        simp only [Act.put, List.setIfInBounds_toArray, List.set_cons_succ, List.set_cons_zero]
        refine wq_val (o := ⟨some 19, _, _, _, _, _⟩) (v := .string ⟨e3.toArray⟩) rfl (fun w' hC => by go_simp) ?_
        simp only [Act.put, List.setIfInBounds_toArray, List.set_cons_succ, List.set_cons_zero]
        refine wq_val (o := ⟨some 20, _, _, _, _, _⟩) (v := .pointer (some ⟨g5, 1, none⟩)) rfl (fun w' hC => by go_simp) ?_
        simp only [Act.put, List.setIfInBounds_toArray, List.set_cons_succ, List.set_cons_zero]
        refine wq_val (o := ⟨some 21, _, _, _, _, _⟩) (v := .string s2) rfl (fun w' hC => by have cc := (From.blk hC H2.out.2.2).cell 1; simp only [List.getElem?_cons_zero, List.getElem?_cons_succ] at cc; go_simp) ?_
        simp only [Act.put, List.setIfInBounds_toArray, List.set_cons_succ, List.set_cons_zero]
        refine wq_call (f := 13) (args := #[.string s2]) (v := .string ⟨e2.toArray⟩) rfl (fun w' _ => by go_simp) (fun w' hC => cE2.out w') ?_
        simp only [Act.put, List.setIfInBounds_toArray, List.set_cons_succ, List.set_cons_zero]
        refine wq_val (o := ⟨some 23, _, _, _, _, _⟩) (v := .string ⟨e4.toArray⟩) rfl (fun w' hC => by go_simp) ?_
        simp only [Act.put, List.setIfInBounds_toArray, List.set_cons_succ, List.set_cons_zero]
        refine wpQuiet_nil ?_
        intro w8 h8
        have hB8 := H2.out.1.grow h8
        have hb8 := H2.out.2.1.trans (h8.mono (hH ▸ H2.out.2.1.size))
        have H8 := Lib.hid (And.intro hB8 hb8)
        clear h8 hB8 hb8
        go_wp2_with (first
          | (go_at_call 38; go_must (refine (writeString_any H H fk e4 _ H8.out.1 (by have := HE.out.2.2; first | omega | (simp; omega)) (by have := H8.out.2.size; omega)).mono ?_); rintro e w9 ⟨rfl, hB9, hb9⟩))
        refine ⟨⟨k + 1, by omega, by go_num, ?_, H8.out.2.trans hb9⟩, by simp [intOf]; omega⟩
        rw [HF.out]
        exact hB9
    · obtain rfl : k = n := by omega
      rw [List.take_of_length_le (by have := HA.out.2.1; omega)] at hB
      have HB := Lib.hid (And.intro hB hb)
      have hkk : ¬ (k : Int) < (k : Int) := by omega
      clear hB hb hlt
      go_wp2_with (first
        | (go_at_call 33; go_must (refine (string_any H H _ _ HB.out.1 (by have := HB.out.2.size; omega)).mono ?_); rintro e w5 ⟨rfl, hb5⟩))
      go_ret
      exact ⟨rfl, HB.out.2.trans hb5⟩
end Go.Proofs.YtompcngeikjfiaaDoor.Uri
