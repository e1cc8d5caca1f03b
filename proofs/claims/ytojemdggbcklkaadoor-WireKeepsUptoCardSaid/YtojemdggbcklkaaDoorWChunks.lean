/- cursor.chunks: a body in chunks. (Printed by mkwchunks.py.) -/
import Derived.Test.YtojemdggbcklkaaDoorWCount
namespace Go.Proofs.YtojemdggbcklkaaDoor.WireR
open Go.RowKit Go.Proofs.YtojemdggbcklkaaDoor.Mem Go.Proofs.YtojemdggbcklkaaDoor.Wire Go.Proofs.YtojemdggbcklkaaDoor.Strs Go.Proofs.YtojemdggbcklkaaDoor.Heads
set_option linter.unusedVariables false
set_option linter.unusedSimpArgs false
set_option maxRecDepth 4000

theorem size_lt {x : Bytes} {n : Nat} (h : sizeS x = some n) : n < 4294967296 := by
  have key : ∀ d : Bytes, d.length ≤ 8 → d.all hexB = true → hexS d < 4294967296 := fun d h8 ha => by
    have h1 := hexS_lt d.length d (Nat.le_refl _) (by rw [List.take_length]; exact ha)
    rw [List.take_length] at h1
    exact Nat.lt_of_lt_of_le h1 (Nat.le_trans (Nat.pow_le_pow_right (by decide) h8) (by decide))
  cases hc : cutL 59 x with
  | none =>
    rw [size_none hc] at h
    split at h
    · rename_i hh
      injection h with h
      rw [← h]; exact key x hh.2.1 hh.2.2
    · cases h
  | some p =>
    obtain ⟨d, y⟩ := p
    rw [size_some hc] at h
    split at h
    · rename_i hh
      injection h with h
      rw [← h]; exact key d hh.2.1 hh.2.2.1
    · cases h
theorem take_two {s : Bytes} {k : Nat} (h : k + 1 < s.length) : (s.drop k).take 2 = [s[k], s[k + 1]] := by
  rw [List.drop_eq_getElem_cons (by omega), List.drop_eq_getElem_cons h]
  rfl
theorem fields_err {bad : Nat} : ∀ (f : Nat) {t : Bytes} {er : Nat}, fieldsF bad f t = .err er → er = 283 ∨ er = bad
  | 0, t, er, h => by injection h with h; exact .inl h.symm
  | f + 1, t, er, h => by
    unfold fieldsF at h
    cases hl : lineS bad t with
    | err e => rw [hl] at h; injection h with h; subst h; exact lineS_err2 hl
    | ok c b =>
      rw [hl] at h
      simp only at h
      split at h
      · cases h
      · cases hh : hdrOf c with
        | none => rw [hh] at h; injection h with h; exact .inr h.symm
        | some x =>
          rw [hh] at h
          simp only at h
          cases hf : fieldsF bad f b with
          | ok y z => rw [hf] at h; cases h
          | err e => rw [hf] at h; injection h with h; subst h; exact fields_err f hf
structure KState (w wr : World) (g : Nat) (R : Option Addr) (c : Nat) (s : List UInt8) (more : Bool) (p : Nat) (v : Value) (q : Nat) (l : Bytes) : Prop where
  cur : Cur wr g R c s q more
  own : wr.ownsRow w.heap.size 5 1 v l.length (l.map bv)
  fr : w.grownBy wr (some g)
  eq : chunksS p (s.drop p) = (chunksS q (s.drop q)).map (l ++ ·)
  ge : l.length + p ≤ q
  glt : g < w.heap.size
  rlt : s ≠ [] → ∀ ad, R = some ad → ad.block < w.heap.size
theorem fr_low' {w w1 w2 : World} {g : Nat} (h : w.grownBy w1 (some g)) (hb : Below w1.heap.size w1 w2) : w.grownBy w2 (some g) := h.trans (grown_of hb)
set_option maxHeartbeats 16000000 in
theorem chunks_any {w : World} {g : Nat} {R : Option Addr} {c p : Nat} {s : List UInt8} {more : Bool} (h : Cur w g R c s p more) :
    Calls Tryd.prog 35 #[.pointer (some ⟨g, 0, none⟩)] w (BodyPost w g R c s more (chunksS p (s.drop p))) := by
  obtain ⟨sn, hsn⟩ : ∃ sn, sn = s.length := ⟨_, rfl⟩
  have HH := Lib.hid (And.intro h (And.intro h.blk.lt (rb_lt h.rb)))
  have HS := Lib.hid (And.intro hsn h.len)
  have hsni : (sn : Int) ≤ 65536 := by have := h.len; omega
  clear h hsn
  go_enter Tryd.func35, Tryd.ntmps35
  go_wp2
  go_loopw [4] (fun v wr => ∃ (q : Nat) (l : Bytes) (m : Nat) (A : Option Addr) (k : Nat), v = .slice A m k ∧ m = l.length ∧ KState w wr g R c s more p (.slice A m k) q l) (fun _ wr => s.length - atOf wr g)
  case atStart => exact ⟨p, [], 0, none, 0, rfl, rfl, ⟨HH.out.1, ⟨rfl, .inl ⟨rfl, rfl⟩⟩, World.grownBy.refl w _, by cases chunksS p (s.drop p) <;> rfl, by simp, HH.out.2.1, HH.out.2.2⟩⟩
  case round =>
    obtain ⟨q, l, m, A, k, rfl, hm, FS⟩ := hrel
    replace FS := Lib.hid (And.intro hm FS)
    clear hm
    have c1 := line_any FS.out.2.cur 282 (by omega)
    cases hl : lineS 282 (s.drop q) with
    | err er =>
      rw [hl] at c1
      have hf : chunksS q (s.drop q) = .err er := by rw [chunksS_eq, hl]
      have C1 := Lib.hid c1
      have HF := Lib.hid hf
      obtain ⟨y, hy⟩ : ∃ y, y = errV more er := ⟨_, rfl⟩
      have hy0 : (y : Int) ≠ 0 := by have := errV_pos (more := more) (lineS_err hl (by omega)); omega
      clear c1 hl hf
      go_wp2_with (first
        | (go_at_call 47; go_must (refine (C1.out).mono ?_); rintro e w1 hp1; obtain ⟨hg1, rfl, hc1⟩ := hp1; rw [← hy]; have H1 := Lib.hid (And.intro hg1 hc1); have d0 := hc1.blk.cell 0; have d1 := hc1.blk.cell 1; simp only [List.getElem?_cons_succ, List.getElem?_cons_zero] at d0 d1; rw [← HS.out.1] at d0; clear hg1 hc1))
      go_ret2
      exact bp_err (er := er) (by rw [FS.out.2.eq, HF.out]; rfl) (FS.out.2.fr.trans H1.out.1) rfl
    | ok x b =>
      rw [hl] at c1
      obtain ⟨u, hu⟩ := lineS_suf hl
      have hbs := drop_suf hu FS.out.2.cur.le
      have hbl := lineS_len hl
      rw [List.length_drop] at hbl
      obtain ⟨q2, hq2⟩ : ∃ q2, q2 = s.length - b.length := ⟨_, rfl⟩
      rw [← hq2] at hbs
      have hqq : q < q2 := by have := FS.out.2.cur.le; omega
      have hq2n : q2 ≤ s.length := by omega
      have hq65 : q2 ≤ 65536 := by have := HS.out.2; omega
      have hf := chunksS_eq q (s.drop q)
      rw [hl] at hf
      simp only at hf
      rw [show q + ((s.drop q).length - b.length) = q2 by rw [List.length_drop]; omega, hbs] at hf
      have hxl : x.length ≤ 65536 := by
        have h2 : x.length ≤ (s.drop q).length := lineS_le hl
        rw [List.length_drop] at h2
        have := FS.out.2.cur.len
        omega
      obtain ⟨sx, hsx⟩ : ∃ sx, sx = (⟨x.toArray⟩ : ByteArray) := ⟨_, rfl⟩
      unfold LinePost at c1
      simp only at c1
      rw [← hsx, ← hq2] at c1
      have C1 := Lib.hid c1
      have c2 := fun W => size_any x W (by omega)
      rw [← hsx] at c2
      have HQ := Lib.hid (And.intro hqq hq2n)
      clear c1 hl hu hbl hbs hqq hq2n hq2
      cases hz : sizeS x with
      | none =>
        rw [hz] at hf
        simp only at hf
        have HF := Lib.hid (hf)
        unfold SizePost at c2
        simp only [hz] at c2
        have C2 := Lib.hid c2
        clear hf hsx hxl c2 hz hq65
        go_wp2_with (first
          | (go_at_call 47; go_must (refine (C1.out).mono ?_); rintro e w1 hp1; obtain ⟨hg1, rfl, hc1⟩ := hp1; have H1 := Lib.hid (And.intro hg1 hc1); have d0 := hc1.blk.cell 0; have d1 := hc1.blk.cell 1; simp only [List.getElem?_cons_succ, List.getElem?_cons_zero] at d0 d1; rw [← HS.out.1] at d0; clear hg1 hc1)
          | (go_at_call 57; go_must (refine (C2.out _).mono ?_); rintro e w2 ⟨rfl, hw2⟩; rw [← hw2]; clear hw2 w2))
        go_ret2
        exact bp_err (er := 282) (by rw [FS.out.2.eq, HF.out]; rfl) (FS.out.2.fr.trans H1.out.1) rfl
      | some N =>
        rw [hz] at hf
        simp only at hf
        have hN := size_lt hz
        unfold SizePost at c2
        simp only [hz] at c2
        have C2 := Lib.hid c2
        by_cases hN0 : N = 0
        · rw [if_pos hN0] at hf
          have bN : ((N : Int) == 0) = true := by simp; omega
          have c3 := fun (W : World) (hc : Cur W g R c s q2 more) => fields_any hc 282 (by omega)
          cases hfl : fieldsS 282 (s.drop q2) with
          | err er =>
            simp only [hfl] at c3
            rw [hfl] at hf
            have C3 := Lib.hid c3
            have HF := Lib.hid hf
            obtain ⟨y, hy⟩ : ∃ y, y = errV more er := ⟨_, rfl⟩
            have hy0 : (y : Int) ≠ 0 := by have := errV_pos (more := more) (er := er) (by have := fields_err _ hfl; omega); omega
            clear c3 hfl hf hsx hxl c2 hz hN hN0 hq65
            go_wp2_with (first
              | (go_at_call 47; go_must (refine (C1.out).mono ?_); rintro e w1 hp1; obtain ⟨hg1, rfl, hc1⟩ := hp1; have H1 := Lib.hid (And.intro hg1 hc1); have d0 := hc1.blk.cell 0; have d1 := hc1.blk.cell 1; simp only [List.getElem?_cons_succ, List.getElem?_cons_zero] at d0 d1; rw [← HS.out.1] at d0; clear hg1 hc1)
              | (go_at_call 57; go_must (refine (C2.out _).mono ?_); rintro e w2 ⟨rfl, hw2⟩; rw [← hw2]; clear hw2 w2)
              | (go_at_call 33; go_must (refine (C3.out _ H1.out.2).mono ?_); rintro e w3 hp3; obtain ⟨hg3, rfl, _⟩ := hp3; rw [← hy]; have H3 := Lib.hid hg3; clear hg3))
            go_ret2
            exact bp_err (er := er) (by rw [FS.out.2.eq, HF.out]; rfl) ((FS.out.2.fr.trans H1.out.1).trans H3.out) rfl
          | ok hs b2 =>
            simp only [hfl] at c3
            rw [hfl] at hf
            have C3 := Lib.hid c3
            have HF := Lib.hid hf
            clear c3 hfl hf hsx hxl c2 hz hN hN0 hq65
            go_wp2_with (first
              | (go_at_call 47; go_must (refine (C1.out).mono ?_); rintro e w1 hp1; obtain ⟨hg1, rfl, hc1⟩ := hp1; have H1 := Lib.hid (And.intro hg1 hc1); have d0 := hc1.blk.cell 0; have d1 := hc1.blk.cell 1; simp only [List.getElem?_cons_succ, List.getElem?_cons_zero] at d0 d1; rw [← HS.out.1] at d0; clear hg1 hc1)
              | (go_at_call 57; go_must (refine (C2.out _).mono ?_); rintro e w2 ⟨rfl, hw2⟩; rw [← hw2]; clear hw2 w2)
              | (go_at_call 33; go_must (refine (C3.out _ H1.out.2).mono ?_); rintro e w3 hp3; obtain ⟨hg3, A3, k3, rfl, _, hc3⟩ := hp3; have H3 := Lib.hid (And.intro hg3 hc3); clear hg3 hc3))
            go_ret2
            have ho := own_line (own_line FS.out.2.own H1.out.1 FS.out.2.glt) H3.out.1 FS.out.2.glt
            rw [← FS.out.1] at ho
            exact bp_ok (x := l) (b := b2) (by rw [FS.out.2.eq, HF.out]; simp [Res.map]) ((FS.out.2.fr.trans H1.out.1).trans H3.out.1) (by rw [FS.out.1]; rfl) (by rw [← FS.out.1]; exact ho) H3.out.2
        · rw [if_neg hN0] at hf
          have bN : ((N : Int) == 0) = false := by rw [beq_eq_false_iff_ne]; omega
          obtain ⟨T1, hT1⟩ : ∃ t, t = q2 + N := ⟨_, rfl⟩
          obtain ⟨T2, hT2⟩ : ∃ t, t = T1 + 2 := ⟨_, rfl⟩
          rw [show q2 + N + 2 = T2 by omega] at hf
          have e1 : (q2 : Int) + (N : Int) = (T1 : Int) := by omega
          have e10 : (0 : Int) ≤ (T1 : Int) := by omega
          have e11 : (T1 : Int) ≤ 1152921504606846976 := by omega
          have e2 : (T1 : Int) + 2 = (T2 : Int) := by omega
          have e20 : (0 : Int) ≤ (T2 : Int) := by omega
          have e21 : (T2 : Int) ≤ 1152921504606846976 := by omega
          have ww1 := w64b e1 e10 e11
          have ww2 := w64b e2 e20 e21
          have HT := Lib.hid (And.intro hT1 (And.intro hT2 (And.intro e1 e2)))
          have hN1 : 1 ≤ N := by clear ww1 ww2; omega
          by_cases hbig : 65536 < T2
          · rw [if_pos hbig] at hf
            have bb : decide ((65536 : Int) < (T2 : Int)) = true := by rw [decide_eq_true_iff]; clear ww1 ww2; omega
            have HF := Lib.hid hf
            clear hf hsx hxl c2 hz hN hN0 hbig hT1 hT2 e1 e10 e11 e2 e20 e21 hN1 hq65
            go_wp2_with (first
              | (go_at_call 47; go_must (refine (C1.out).mono ?_); rintro e w1 hp1; obtain ⟨hg1, rfl, hc1⟩ := hp1; have H1 := Lib.hid (And.intro hg1 hc1); have d0 := hc1.blk.cell 0; have d1 := hc1.blk.cell 1; simp only [List.getElem?_cons_succ, List.getElem?_cons_zero] at d0 d1; rw [← HS.out.1] at d0; clear hg1 hc1)
              | (go_at_call 57; go_must (refine (C2.out _).mono ?_); rintro e w2 ⟨rfl, hw2⟩; rw [← hw2]; clear hw2 w2))
            go_ret2
            exact bp_err (er := 284) (by rw [FS.out.2.eq, HF.out]; rfl) (FS.out.2.fr.trans H1.out.1) (by rw [errV_ne (by decide)]; rfl)
          · rw [if_neg hbig] at hf
            have bb : decide ((65536 : Int) < (T2 : Int)) = false := by rw [decide_eq_false_iff_not]; clear ww1 ww2; omega
            have hT2i : T2 ≤ 65536 := by clear ww1 ww2; omega
            have j1 := w64j (x := (q2 : Int) + (N : Int)) (y := (T1 : Int)) e1 e10 (by clear ww1 ww2; omega)
            have j2 := w64j (x := (T1 : Int) + 2) (y := (T2 : Int)) e2 e20 (by clear ww1 ww2 j1; omega)
            have HJ := Lib.hid (And.intro j1 j2)
            clear j1 j2
            obtain ⟨bt, hbt⟩ : ∃ b, b = decide (sn < T2) := ⟨_, rfl⟩
            have HBT := Lib.hid (And.intro (show decide ((sn : Int) < (T2 : Int)) = bt by rw [hbt]; congr 1; exact propext (by clear ww1 ww2; omega)) hbt.symm)
            have HF := Lib.hid hf
            have HN := Lib.hid (And.intro hN1 (And.intro hT2i hq65))
            clear hf hsx hxl c2 hz hN hN0 hbig hT1 hT2 e1 e10 e11 e2 e20 e21 hN1 hq65 hbt hT2i
            go_upto_region 11 with (first
              | (go_at_call 47; go_must (refine (C1.out).mono ?_); rintro e w1 hp1; obtain ⟨hg1, rfl, hc1⟩ := hp1; have H1 := Lib.hid (And.intro hg1 hc1); have d0 := hc1.blk.cell 0; have d1 := hc1.blk.cell 1; simp only [List.getElem?_cons_succ, List.getElem?_cons_zero] at d0 d1; rw [← HS.out.1] at d0; clear hg1 hc1)
              | (go_at_call 57; go_must (refine (C2.out _).mono ?_); rintro e w2 ⟨rfl, hw2⟩; rw [← hw2]; clear hw2 w2))
            try simp only [Act.put, List.setIfInBounds_toArray, List.set_cons_succ, List.set_cons_zero]
            clear ww1 ww2
            refine wp_region_qb (by kernel_rfl) (by kernel_rfl) ?_
            refine wq_val (o := ⟨some 36, _, _, _, _, _⟩) (v := .pointer (some ⟨g, 0, none⟩)) rfl (fun w' hC => by go_simp) ?_
            simp only [Act.put, List.setIfInBounds_toArray, List.set_cons_succ, List.set_cons_zero]
            refine wq_val (o := ⟨some 37, _, _, _, _, _⟩) (v := .pointer (some ⟨g, 0, none⟩)) rfl (fun w' hC => by go_simp) ?_
            simp only [Act.put, List.setIfInBounds_toArray, List.set_cons_succ, List.set_cons_zero]
            refine wq_val (o := ⟨some 38, _, _, _, _, _⟩) (v := .pointer (some ⟨g, 1, none⟩)) rfl (fun w' hC => by go_simp) ?_
            simp only [Act.put, List.setIfInBounds_toArray, List.set_cons_succ, List.set_cons_zero]
            refine wq_val (o := ⟨some 39, _, _, _, _, _⟩) (v := .int .i64 (q2 : Int)) rfl (fun w' hC => by have := cell_grow d1 hC; go_simp) ?_
            simp only [Act.put, List.setIfInBounds_toArray, List.set_cons_succ, List.set_cons_zero]
            refine wq_val (o := ⟨some 40, _, _, _, _, _⟩) (v := .int .i64 (N : Int)) rfl (fun w' hC => by go_simp) ?_
            simp only [Act.put, List.setIfInBounds_toArray, List.set_cons_succ, List.set_cons_zero]
            refine wq_val (o := ⟨some 41, _, _, _, _, _⟩) (v := .int .i64 (T1 : Int)) rfl (fun w' hC => by go_simp; exact HJ.out.1) ?_
            simp only [Act.put, List.setIfInBounds_toArray, List.set_cons_succ, List.set_cons_zero]
            refine wq_val (o := ⟨some 42, _, _, _, _, _⟩) (v := .int .i64 (T2 : Int)) rfl (fun w' hC => by go_simp; exact HJ.out.2) ?_
            simp only [Act.put, List.setIfInBounds_toArray, List.set_cons_succ, List.set_cons_zero]
            refine wq_val (o := ⟨some 43, _, _, _, _, _⟩) (v := .pointer (some ⟨g, 0, none⟩)) rfl (fun w' hC => by go_simp) ?_
            simp only [Act.put, List.setIfInBounds_toArray, List.set_cons_succ, List.set_cons_zero]
            refine wq_val (o := ⟨some 44, _, _, _, _, _⟩) (v := .pointer (some ⟨g, 0, none⟩)) rfl (fun w' hC => by go_simp) ?_
            simp only [Act.put, List.setIfInBounds_toArray, List.set_cons_succ, List.set_cons_zero]
            refine wq_val (o := ⟨some 45, _, _, _, _, _⟩) (v := .pointer (some ⟨g, 0, none⟩)) rfl (fun w' hC => by go_simp) ?_
            simp only [Act.put, List.setIfInBounds_toArray, List.set_cons_succ, List.set_cons_zero]
            refine wq_val (o := ⟨some 46, _, _, _, _, _⟩) (v := .slice R sn c) rfl (fun w' hC => by have := cell_grow d0 hC; go_simp) ?_
            simp only [Act.put, List.setIfInBounds_toArray, List.set_cons_succ, List.set_cons_zero]
            refine wq_val (o := ⟨some 47, _, _, _, _, _⟩) (v := .int .i64 (sn : Int)) rfl (fun w' hC => by go_simp) ?_
            simp only [Act.put, List.setIfInBounds_toArray, List.set_cons_succ, List.set_cons_zero]
            refine wq_val (o := ⟨some 48, _, _, _, _, _⟩) (v := .bool bt) rfl (fun w' hC => by go_simp; first | exact HBT.out.1 | exact HBT.out.2 | (rw [← HBT.out.2]; rfl)) ?_
            simp only [Act.put, List.setIfInBounds_toArray, List.set_cons_succ, List.set_cons_zero]
            refine wpQuiet_nil ?_
            intro w5 h5
            have HC5 := H1.out.2.grow h5
            have H5 := Lib.hid (And.intro (fr_low' (FS.out.2.fr.trans H1.out.1) h5) HC5)
            have HB5 := Lib.hid h5
            have d0' := cell_grow d0 h5
            have d1' := cell_grow d1 h5
            clear d0 d1 h5 HC5
            cases bt
            · have hshort := of_decide_eq_false HBT.out.2
              have hT2s : T2 ≤ s.length := by have := HS.out.1; omega
              have hT1s : T1 + 1 < s.length := by have := HT.out.2.1; omega
              obtain ⟨x1, hx1⟩ : ∃ x, x = s[T1] := ⟨_, rfl⟩
              obtain ⟨y1, hy1⟩ : ∃ x, x = s[T1 + 1] := ⟨_, rfl⟩
              obtain ⟨ad, hR, hcx⟩ := H5.out.2.rb T1 (by omega)
              obtain ⟨ad', hR', hcy⟩ := H5.out.2.rb (T1 + 1) hT1s
              subst hR
              injection hR' with hR'
              subst hR'
              rw [← hx1] at hcx
              rw [← hy1] at hcy
              unfold bv at hcx hcy
              have hE0 : chunksS p (s.drop p) = (if [x1, y1] ≠ [13, 10] then .err 282 else (chunksS T2 (s.drop T2)).map ((s.drop q2).take N ++ ·) : Res Bytes).map (l ++ ·) := by
                rw [FS.out.2.eq, HF.out, if_neg (by rw [List.length_drop]; have := HT.out; omega), List.drop_drop, show q2 + N = T1 from HT.out.1.symm, take_two hT1s, ← hx1, ← hy1, List.drop_drop, show q2 + (N + 2) = T2 by have := HT.out; omega]
              have t1i : (T1 : Int) < (sn : Int) := by have := HS.out.1; omega
              have t11i : (T1 : Int) + 1 < (sn : Int) := by have := HS.out.1; omega
              have t10 : (0 : Int) ≤ (T1 : Int) := by omega
              obtain ⟨T3, hT3⟩ : ∃ t, t = T1 + 1 := ⟨_, rfl⟩
              rw [← hT3] at hcy
              have t3i : (T3 : Int) < (sn : Int) := by omega
              have t30 : (0 : Int) ≤ (T3 : Int) := by omega
              have j3 := Lib.hid (w64j (x := (T1 : Int) + 1) (y := (T3 : Int)) (by omega) t30 (by omega))
              have HX := Lib.hid (And.intro hT2s hT1s)
              clear hshort hT2s hT1s hx1 hy1 hT3 t11i
              go_upto_region 13 with fail
              try simp only [Act.put, List.setIfInBounds_toArray, List.set_cons_succ, List.set_cons_zero]
              by_cases h13 : x1 = 13
              · by_cases h10 : y1 = 10
                · have hE := hE0
                  rw [if_neg (by rw [h13, h10]; simp)] at hE
                  have b13 : ((x1.toNat : Int) != 13) = false := by rw [h13]; rfl
                  have b10 : ((y1.toNat : Int) != 10) = false := by rw [h10]; rfl
                  have HE := Lib.hid hE
                  clear hE hE0 h13 h10
                  refine wp_region_qb (by kernel_rfl) (by kernel_rfl) ?_
                  refine wq_val (o := ⟨some 51, _, _, _, _, _⟩) (v := .pointer (some ⟨g, 0, none⟩)) rfl (fun w' hC => by go_simp) ?_
                  simp only [Act.put, List.setIfInBounds_toArray, List.set_cons_succ, List.set_cons_zero]
                  refine wq_val (o := ⟨some 52, _, _, _, _, _⟩) (v := .pointer (some ⟨g, 0, none⟩)) rfl (fun w' hC => by go_simp) ?_
                  simp only [Act.put, List.setIfInBounds_toArray, List.set_cons_succ, List.set_cons_zero]
                  refine wq_val (o := ⟨some 53, _, _, _, _, _⟩) (v := .pointer (some ⟨g, 0, none⟩)) rfl (fun w' hC => by go_simp) ?_
                  simp only [Act.put, List.setIfInBounds_toArray, List.set_cons_succ, List.set_cons_zero]
                  refine wq_val (o := ⟨some 54, _, _, _, _, _⟩) (v := .slice (some ad) sn c) rfl (fun w' hC => by have := cell_grow d0' hC; go_simp) ?_
                  simp only [Act.put, List.setIfInBounds_toArray, List.set_cons_succ, List.set_cons_zero]
                  refine wq_val (o := ⟨some 55, _, _, _, _, _⟩) (v := .pointer (some ⟨g, 0, none⟩)) rfl (fun w' hC => by go_simp) ?_
                  simp only [Act.put, List.setIfInBounds_toArray, List.set_cons_succ, List.set_cons_zero]
                  refine wq_val (o := ⟨some 56, _, _, _, _, _⟩) (v := .pointer (some ⟨g, 0, none⟩)) rfl (fun w' hC => by go_simp) ?_
                  simp only [Act.put, List.setIfInBounds_toArray, List.set_cons_succ, List.set_cons_zero]
                  refine wq_val (o := ⟨some 57, _, _, _, _, _⟩) (v := .pointer (some ⟨g, 1, none⟩)) rfl (fun w' hC => by go_simp) ?_
                  simp only [Act.put, List.setIfInBounds_toArray, List.set_cons_succ, List.set_cons_zero]
                  refine wq_val (o := ⟨some 58, _, _, _, _, _⟩) (v := .int .i64 (q2 : Int)) rfl (fun w' hC => by have := cell_grow d1' hC; go_simp) ?_
                  simp only [Act.put, List.setIfInBounds_toArray, List.set_cons_succ, List.set_cons_zero]
                  refine wq_val (o := ⟨some 59, _, _, _, _, _⟩) (v := .int .i64 (N : Int)) rfl (fun w' hC => by go_simp) ?_
                  simp only [Act.put, List.setIfInBounds_toArray, List.set_cons_succ, List.set_cons_zero]
                  refine wq_val (o := ⟨some 60, _, _, _, _, _⟩) (v := .int .i64 (T1 : Int)) rfl (fun w' hC => by go_simp; exact HJ.out.1) ?_
                  simp only [Act.put, List.setIfInBounds_toArray, List.set_cons_succ, List.set_cons_zero]
                  refine wq_val (o := ⟨some 61, _, _, _, _, _⟩) (v := .pointer (some (ad.add T1))) rfl (fun w' hC => by go_simp) ?_
                  simp only [Act.put, List.setIfInBounds_toArray, List.set_cons_succ, List.set_cons_zero]
                  refine wq_val (o := ⟨some 62, _, _, _, _, _⟩) (v := .int .u8 (x1.toNat : Int)) rfl (fun w' hC => by have := cell_grow hcx hC; go_simp) ?_
                  simp only [Act.put, List.setIfInBounds_toArray, List.set_cons_succ, List.set_cons_zero]
                  refine wq_val (o := ⟨some 63, _, _, _, _, _⟩) (v := .bool false) rfl (fun w' hC => by go_simp) ?_
                  simp only [Act.put, List.setIfInBounds_toArray, List.set_cons_succ, List.set_cons_zero]
                  refine wq_val (o := ⟨some 64, _, _, _, _, _⟩) (v := .bool false) rfl (fun w' hC => by go_simp) ?_
                  simp only [Act.put, List.setIfInBounds_toArray, List.set_cons_succ, List.set_cons_zero]
                  refine wq_val (o := ⟨some 65, _, _, _, _, _⟩) (v := .pointer (some ⟨g, 0, none⟩)) rfl (fun w' hC => by go_simp) ?_
                  simp only [Act.put, List.setIfInBounds_toArray, List.set_cons_succ, List.set_cons_zero]
                  refine wq_val (o := ⟨some 66, _, _, _, _, _⟩) (v := .pointer (some ⟨g, 0, none⟩)) rfl (fun w' hC => by go_simp) ?_
                  simp only [Act.put, List.setIfInBounds_toArray, List.set_cons_succ, List.set_cons_zero]
                  refine wq_val (o := ⟨some 67, _, _, _, _, _⟩) (v := .pointer (some ⟨g, 0, none⟩)) rfl (fun w' hC => by go_simp) ?_
                  simp only [Act.put, List.setIfInBounds_toArray, List.set_cons_succ, List.set_cons_zero]
                  refine wq_val (o := ⟨some 68, _, _, _, _, _⟩) (v := .slice (some ad) sn c) rfl (fun w' hC => by have := cell_grow d0' hC; go_simp) ?_
                  simp only [Act.put, List.setIfInBounds_toArray, List.set_cons_succ, List.set_cons_zero]
                  refine wq_val (o := ⟨some 69, _, _, _, _, _⟩) (v := .pointer (some ⟨g, 0, none⟩)) rfl (fun w' hC => by go_simp) ?_
                  simp only [Act.put, List.setIfInBounds_toArray, List.set_cons_succ, List.set_cons_zero]
                  refine wq_val (o := ⟨some 70, _, _, _, _, _⟩) (v := .pointer (some ⟨g, 0, none⟩)) rfl (fun w' hC => by go_simp) ?_
                  simp only [Act.put, List.setIfInBounds_toArray, List.set_cons_succ, List.set_cons_zero]
                  refine wq_val (o := ⟨some 71, _, _, _, _, _⟩) (v := .pointer (some ⟨g, 1, none⟩)) rfl (fun w' hC => by go_simp) ?_
                  simp only [Act.put, List.setIfInBounds_toArray, List.set_cons_succ, List.set_cons_zero]
                  refine wq_val (o := ⟨some 72, _, _, _, _, _⟩) (v := .int .i64 (q2 : Int)) rfl (fun w' hC => by have := cell_grow d1' hC; go_simp) ?_
                  simp only [Act.put, List.setIfInBounds_toArray, List.set_cons_succ, List.set_cons_zero]
                  refine wq_val (o := ⟨some 73, _, _, _, _, _⟩) (v := .int .i64 (N : Int)) rfl (fun w' hC => by go_simp) ?_
                  simp only [Act.put, List.setIfInBounds_toArray, List.set_cons_succ, List.set_cons_zero]
                  refine wq_val (o := ⟨some 74, _, _, _, _, _⟩) (v := .int .i64 (T1 : Int)) rfl (fun w' hC => by go_simp; exact HJ.out.1) ?_
                  simp only [Act.put, List.setIfInBounds_toArray, List.set_cons_succ, List.set_cons_zero]
                  refine wq_val (o := ⟨some 75, _, _, _, _, _⟩) (v := .int .i64 (T3 : Int)) rfl (fun w' hC => by go_simp; exact j3.out) ?_
                  simp only [Act.put, List.setIfInBounds_toArray, List.set_cons_succ, List.set_cons_zero]
                  refine wq_val (o := ⟨some 76, _, _, _, _, _⟩) (v := .pointer (some (ad.add T3))) rfl (fun w' hC => by go_simp) ?_
                  simp only [Act.put, List.setIfInBounds_toArray, List.set_cons_succ, List.set_cons_zero]
                  refine wq_val (o := ⟨some 77, _, _, _, _, _⟩) (v := .int .u8 (y1.toNat : Int)) rfl (fun w' hC => by have := cell_grow hcy hC; go_simp) ?_
                  simp only [Act.put, List.setIfInBounds_toArray, List.set_cons_succ, List.set_cons_zero]
                  refine wq_val (o := ⟨some 78, _, _, _, _, _⟩) (v := .bool false) rfl (fun w' hC => by go_simp) ?_
                  simp only [Act.put, List.setIfInBounds_toArray, List.set_cons_succ, List.set_cons_zero]
                  refine wq_val (o := ⟨some 79, _, _, _, _, _⟩) (v := .bool false) rfl (fun w' hC => by go_simp) ?_
                  simp only [Act.put, List.setIfInBounds_toArray, List.set_cons_succ, List.set_cons_zero]
                  refine wpQuiet_nil ?_
                  intro w6 h6
                  have HC6 := H5.out.2.grow h6
                  have H6 := Lib.hid (And.intro (fr_low' H5.out.1 h6) HC6)
                  have HB15 := Lib.hid (gt HB5.out h6)
                  have d0 := cell_grow d0' h6
                  have d1 := cell_grow d1' h6
                  clear d0' d1' h6 HC6 hcx hcy
                  go_upto_region 15 with fail
                  try simp only [Act.put, List.setIfInBounds_toArray, List.set_cons_succ, List.set_cons_zero]
                  obtain ⟨AA, hAA⟩ : ∃ A, A = (if c = q2 then some ad else (some ad).map (·.add q2)) := ⟨_, rfl⟩
                  have HA := Lib.hid hAA
                  clear hAA
                  refine wp_region_qbT 16 (by kernel_rfl) (by kernel_rfl) ?_
                  simp only [List.take_succ_cons, List.take_zero, List.drop_succ_cons, List.drop_zero]
                  refine wq_val (o := ⟨some 80, _, _, _, _, _⟩) (v := .slice A m k) rfl (fun w' hC => by go_simp) ?_
                  simp only [Act.put, List.setIfInBounds_toArray, List.set_cons_succ, List.set_cons_zero]
                  refine wq_val (o := ⟨some 81, _, _, _, _, _⟩) (v := .pointer (some ⟨g, 0, none⟩)) rfl (fun w' hC => by go_simp) ?_
                  simp only [Act.put, List.setIfInBounds_toArray, List.set_cons_succ, List.set_cons_zero]
                  refine wq_val (o := ⟨some 82, _, _, _, _, _⟩) (v := .pointer (some ⟨g, 0, none⟩)) rfl (fun w' hC => by go_simp) ?_
                  simp only [Act.put, List.setIfInBounds_toArray, List.set_cons_succ, List.set_cons_zero]
                  refine wq_val (o := ⟨some 83, _, _, _, _, _⟩) (v := .pointer (some ⟨g, 0, none⟩)) rfl (fun w' hC => by go_simp) ?_
                  simp only [Act.put, List.setIfInBounds_toArray, List.set_cons_succ, List.set_cons_zero]
                  refine wq_val (o := ⟨some 84, _, _, _, _, _⟩) (v := .slice (some ad) sn c) rfl (fun w' hC => by have := cell_grow d0 hC; go_simp) ?_
                  simp only [Act.put, List.setIfInBounds_toArray, List.set_cons_succ, List.set_cons_zero]
                  refine wq_val (o := ⟨some 85, _, _, _, _, _⟩) (v := .pointer (some ⟨g, 0, none⟩)) rfl (fun w' hC => by go_simp) ?_
                  simp only [Act.put, List.setIfInBounds_toArray, List.set_cons_succ, List.set_cons_zero]
                  refine wq_val (o := ⟨some 86, _, _, _, _, _⟩) (v := .pointer (some ⟨g, 0, none⟩)) rfl (fun w' hC => by go_simp) ?_
                  simp only [Act.put, List.setIfInBounds_toArray, List.set_cons_succ, List.set_cons_zero]
                  refine wq_val (o := ⟨some 87, _, _, _, _, _⟩) (v := .pointer (some ⟨g, 1, none⟩)) rfl (fun w' hC => by go_simp) ?_
                  simp only [Act.put, List.setIfInBounds_toArray, List.set_cons_succ, List.set_cons_zero]
                  refine wq_val (o := ⟨some 88, _, _, _, _, _⟩) (v := .int .i64 (q2 : Int)) rfl (fun w' hC => by have := cell_grow d1 hC; go_simp) ?_
                  simp only [Act.put, List.setIfInBounds_toArray, List.set_cons_succ, List.set_cons_zero]
                  refine wq_val (o := ⟨some 89, _, _, _, _, _⟩) (v := .pointer (some ⟨g, 0, none⟩)) rfl (fun w' hC => by go_simp) ?_
                  simp only [Act.put, List.setIfInBounds_toArray, List.set_cons_succ, List.set_cons_zero]
                  refine wq_val (o := ⟨some 90, _, _, _, _, _⟩) (v := .pointer (some ⟨g, 0, none⟩)) rfl (fun w' hC => by go_simp) ?_
                  simp only [Act.put, List.setIfInBounds_toArray, List.set_cons_succ, List.set_cons_zero]
                  refine wq_val (o := ⟨some 91, _, _, _, _, _⟩) (v := .pointer (some ⟨g, 1, none⟩)) rfl (fun w' hC => by go_simp) ?_
                  simp only [Act.put, List.setIfInBounds_toArray, List.set_cons_succ, List.set_cons_zero]
                  refine wq_val (o := ⟨some 92, _, _, _, _, _⟩) (v := .int .i64 (q2 : Int)) rfl (fun w' hC => by have := cell_grow d1 hC; go_simp) ?_
                  simp only [Act.put, List.setIfInBounds_toArray, List.set_cons_succ, List.set_cons_zero]
                  refine wq_val (o := ⟨some 93, _, _, _, _, _⟩) (v := .int .i64 (N : Int)) rfl (fun w' hC => by go_simp) ?_
                  simp only [Act.put, List.setIfInBounds_toArray, List.set_cons_succ, List.set_cons_zero]
                  refine wq_val (o := ⟨some 94, _, _, _, _, _⟩) (v := .int .i64 (T1 : Int)) rfl (fun w' hC => by go_simp; exact HJ.out.1) ?_
                  simp only [Act.put, List.setIfInBounds_toArray, List.set_cons_succ, List.set_cons_zero]
                  refine wq_val (o := ⟨some 95, _, _, _, _, _⟩) (v := .slice AA (T1 - q2) (c - q2)) rfl (fun w' hC => by rw [HA.out]; exact cut_mid (l := q2) (m := T1) rfl rfl rfl rfl (by have := HT.out; omega) (by have := HX.out; have := H6.out.2.cap; omega)) ?_
                  simp only [Act.put, List.setIfInBounds_toArray, List.set_cons_succ, List.set_cons_zero]
                  refine wpQuiet_nil ?_
                  intro w7 h7
                  have HC7 := H6.out.2.grow h7
                  have H7 := Lib.hid (And.intro (fr_low' H6.out.1 h7) (And.intro HC7 (own_below' (own_below' (own_line FS.out.2.own H1.out.1 FS.out.2.glt) HB15.out) h7)))
                  have HB17 := Lib.hid (gt HB15.out h7)
                  clear h7 HC7 d0 d1
                  obtain ⟨z, hz⟩ : ∃ x, x = (s.drop q2).take N := ⟨_, rfl⟩
                  have hzl : z.length = N := by rw [hz, List.length_take, List.length_drop]; have := HX.out.1; have := HT.out; omega
                  have hE2 := HE.out
                  rw [← hz] at hE2
                  have hrz : RB w7 AA z := by
                    have := rb_mid (l := q2) (m := T1) H7.out.2.1.rb (by have := HT.out; omega) (by have := HX.out.2; omega) H7.out.2.1.cap
                    rw [show T1 - q2 = N by have := HT.out; omega, ← hz] at this
                    rw [HA.out]
                    exact this
                  have HZ := Lib.hid (And.intro hE2 (And.intro hzl hrz))
                  clear hz hE2 hzl hrz
                  refine wpList_app EB rfl (.tmp 80) (.tmp 95) rfl w.heap.size (.slice A m k) l.length (l.map bv) rfl H7.out.2.2 _ _ _ (z.map bv) rfl HZ.out.2.2.rv (by rw [List.length_map, HZ.out.2.1]; simp; have := HT.out; omega) (by intro u hu; rw [List.mem_map] at hu; obtain ⟨_, _, rfl⟩ := hu; rfl) (by unfold maxLen; have := FS.out.2.ge; have := HQ.out; have := HN.out; have := HT.out; omega) (by have := FS.out.2.ge; have := HQ.out; have := HN.out; have := HT.out; omega) (H7.out.1.size) ?_
                  intro v' w8 hown hg8 hb8
                  have hw1 : w.heap.size ≤ w1.heap.size := (FS.out.2.fr.trans H1.out.1).size
                  have B8 := below_own (HB17.out.mono hw1) H7.out.2.2 hg8 H7.out.1.size
                  have hs8 : w1.heap.size ≤ w8.heap.size := Nat.le_trans HB17.out.size hg8.size
                  have hlz : l.length + (T1 - q2) = (l ++ z).length := by rw [List.length_append, HZ.out.2.1]; have := HT.out; omega
                  rw [hlz, ← List.map_append] at hown
                  obtain ⟨A8, k8, hv8, _⟩ := own_slice hown
                  subst hv8
                  obtain ⟨m8, hm8⟩ : ∃ m, m = (l ++ z).length := ⟨_, rfl⟩
                  rw [← hm8] at hown ⊢
                  have cur8 := H1.out.2.low B8 FS.out.2.glt FS.out.2.rlt
                  have d1 := cur8.blk.cell 1
                  have f1 := cur8.blk.frozen 1
                  simp only [List.getElem?_cons_succ, List.getElem?_cons_zero] at d1
                  have H8 := Lib.hid (And.intro hown (And.intro B8 (And.intro hs8 (And.intro hm8 cur8))))
                  obtain ⟨N2, hN2⟩ : ∃ x, x = N + 2 := ⟨_, rfl⟩
                  have hT2 : T2 ≤ 65536 := HN.out.2.1
                  have n1 : (N : Int) + 2 = (N2 : Int) := by omega
                  have n2 : (q2 : Int) + (N2 : Int) = (T2 : Int) := by have := HT.out; omega
                  have n3 : (0 : Int) ≤ (N2 : Int) := by omega
                  have n4 : (N2 : Int) ≤ 1152921504606846976 := by have := HT.out; omega
                  have n5 : (0 : Int) ≤ (T2 : Int) := by omega
                  have n6 : (T2 : Int) ≤ 1152921504606846976 := by omega
                  have wn1 := w64b n1 n3 n4
                  have wn2 := w64b n2 n5 n6
                  clear hw1 B8 hs8 hlz hown hg8 hb8 cur8 hm8 hN2 hT2 n1 n2 n3 n4 n5 n6
                  try simp only [Act.put, List.setIfInBounds_toArray, List.set_cons_succ, List.set_cons_zero]
                  go_wp2
                  have hg9 := grownBy_set w8 g 1 (.int .i64 (T2 : Int))
                  have cur9 := H8.out.2.2.2.2.to (q := T2) hg9 (H8.out.2.2.2.2.blk.set_ 1 _) HX.out.1
                  have hown9 := own_line H8.out.1 hg9 FS.out.2.glt
                  have hmm := H8.out.2.2.2.1
                  refine ⟨⟨T2, l ++ z, m8, A8, k8, rfl, hmm, cur9, by rw [← hmm]; exact hown9, (fr_low (FS.out.2.fr.trans H1.out.1) H8.out.2.1 H8.out.2.2.1).trans hg9, ?_, ?_, FS.out.2.glt, FS.out.2.rlt⟩, ?_⟩
                  · rw [HZ.out.1, Res.map_map]
                    congr 1
                    funext y
                    simp
                  · rw [List.length_append, HZ.out.2.1]; have := FS.out.2.ge; have := HQ.out.1; have := HT.out; omega
                  · rw [cur9.at_, FS.out.2.cur.at_]; have := HQ.out; have := HT.out; have := HX.out; omega
                · have HE := Lib.hid (show chunksS p (s.drop p) = .err 282 by rw [hE0, if_pos (by intro h; injection h with h1 h2; injection h2 with h2; exact h10 h2)]; rfl)
                  have b13 : ((x1.toNat : Int) != 13) = false := by rw [h13]; rfl
                  have b10 : ((y1.toNat : Int) != 10) = true := by rw [bne_iff_ne]; intro h; exact h10 (UInt8.toNat_inj.1 (by show y1.toNat = 10; omega))
                  clear hE0 h13 h10
                  refine wp_region_qb (by kernel_rfl) (by kernel_rfl) ?_
                  refine wq_val (o := ⟨some 51, _, _, _, _, _⟩) (v := .pointer (some ⟨g, 0, none⟩)) rfl (fun w' hC => by go_simp) ?_
                  simp only [Act.put, List.setIfInBounds_toArray, List.set_cons_succ, List.set_cons_zero]
                  refine wq_val (o := ⟨some 52, _, _, _, _, _⟩) (v := .pointer (some ⟨g, 0, none⟩)) rfl (fun w' hC => by go_simp) ?_
                  simp only [Act.put, List.setIfInBounds_toArray, List.set_cons_succ, List.set_cons_zero]
                  refine wq_val (o := ⟨some 53, _, _, _, _, _⟩) (v := .pointer (some ⟨g, 0, none⟩)) rfl (fun w' hC => by go_simp) ?_
                  simp only [Act.put, List.setIfInBounds_toArray, List.set_cons_succ, List.set_cons_zero]
                  refine wq_val (o := ⟨some 54, _, _, _, _, _⟩) (v := .slice (some ad) sn c) rfl (fun w' hC => by have := cell_grow d0' hC; go_simp) ?_
                  simp only [Act.put, List.setIfInBounds_toArray, List.set_cons_succ, List.set_cons_zero]
                  refine wq_val (o := ⟨some 55, _, _, _, _, _⟩) (v := .pointer (some ⟨g, 0, none⟩)) rfl (fun w' hC => by go_simp) ?_
                  simp only [Act.put, List.setIfInBounds_toArray, List.set_cons_succ, List.set_cons_zero]
                  refine wq_val (o := ⟨some 56, _, _, _, _, _⟩) (v := .pointer (some ⟨g, 0, none⟩)) rfl (fun w' hC => by go_simp) ?_
                  simp only [Act.put, List.setIfInBounds_toArray, List.set_cons_succ, List.set_cons_zero]
                  refine wq_val (o := ⟨some 57, _, _, _, _, _⟩) (v := .pointer (some ⟨g, 1, none⟩)) rfl (fun w' hC => by go_simp) ?_
                  simp only [Act.put, List.setIfInBounds_toArray, List.set_cons_succ, List.set_cons_zero]
                  refine wq_val (o := ⟨some 58, _, _, _, _, _⟩) (v := .int .i64 (q2 : Int)) rfl (fun w' hC => by have := cell_grow d1' hC; go_simp) ?_
                  simp only [Act.put, List.setIfInBounds_toArray, List.set_cons_succ, List.set_cons_zero]
                  refine wq_val (o := ⟨some 59, _, _, _, _, _⟩) (v := .int .i64 (N : Int)) rfl (fun w' hC => by go_simp) ?_
                  simp only [Act.put, List.setIfInBounds_toArray, List.set_cons_succ, List.set_cons_zero]
                  refine wq_val (o := ⟨some 60, _, _, _, _, _⟩) (v := .int .i64 (T1 : Int)) rfl (fun w' hC => by go_simp; exact HJ.out.1) ?_
                  simp only [Act.put, List.setIfInBounds_toArray, List.set_cons_succ, List.set_cons_zero]
                  refine wq_val (o := ⟨some 61, _, _, _, _, _⟩) (v := .pointer (some (ad.add T1))) rfl (fun w' hC => by go_simp) ?_
                  simp only [Act.put, List.setIfInBounds_toArray, List.set_cons_succ, List.set_cons_zero]
                  refine wq_val (o := ⟨some 62, _, _, _, _, _⟩) (v := .int .u8 (x1.toNat : Int)) rfl (fun w' hC => by have := cell_grow hcx hC; go_simp) ?_
                  simp only [Act.put, List.setIfInBounds_toArray, List.set_cons_succ, List.set_cons_zero]
                  refine wq_val (o := ⟨some 63, _, _, _, _, _⟩) (v := .bool false) rfl (fun w' hC => by go_simp) ?_
                  simp only [Act.put, List.setIfInBounds_toArray, List.set_cons_succ, List.set_cons_zero]
                  refine wq_val (o := ⟨some 64, _, _, _, _, _⟩) (v := .bool false) rfl (fun w' hC => by go_simp) ?_
                  simp only [Act.put, List.setIfInBounds_toArray, List.set_cons_succ, List.set_cons_zero]
                  refine wq_val (o := ⟨some 65, _, _, _, _, _⟩) (v := .pointer (some ⟨g, 0, none⟩)) rfl (fun w' hC => by go_simp) ?_
                  simp only [Act.put, List.setIfInBounds_toArray, List.set_cons_succ, List.set_cons_zero]
                  refine wq_val (o := ⟨some 66, _, _, _, _, _⟩) (v := .pointer (some ⟨g, 0, none⟩)) rfl (fun w' hC => by go_simp) ?_
                  simp only [Act.put, List.setIfInBounds_toArray, List.set_cons_succ, List.set_cons_zero]
                  refine wq_val (o := ⟨some 67, _, _, _, _, _⟩) (v := .pointer (some ⟨g, 0, none⟩)) rfl (fun w' hC => by go_simp) ?_
                  simp only [Act.put, List.setIfInBounds_toArray, List.set_cons_succ, List.set_cons_zero]
                  refine wq_val (o := ⟨some 68, _, _, _, _, _⟩) (v := .slice (some ad) sn c) rfl (fun w' hC => by have := cell_grow d0' hC; go_simp) ?_
                  simp only [Act.put, List.setIfInBounds_toArray, List.set_cons_succ, List.set_cons_zero]
                  refine wq_val (o := ⟨some 69, _, _, _, _, _⟩) (v := .pointer (some ⟨g, 0, none⟩)) rfl (fun w' hC => by go_simp) ?_
                  simp only [Act.put, List.setIfInBounds_toArray, List.set_cons_succ, List.set_cons_zero]
                  refine wq_val (o := ⟨some 70, _, _, _, _, _⟩) (v := .pointer (some ⟨g, 0, none⟩)) rfl (fun w' hC => by go_simp) ?_
                  simp only [Act.put, List.setIfInBounds_toArray, List.set_cons_succ, List.set_cons_zero]
                  refine wq_val (o := ⟨some 71, _, _, _, _, _⟩) (v := .pointer (some ⟨g, 1, none⟩)) rfl (fun w' hC => by go_simp) ?_
                  simp only [Act.put, List.setIfInBounds_toArray, List.set_cons_succ, List.set_cons_zero]
                  refine wq_val (o := ⟨some 72, _, _, _, _, _⟩) (v := .int .i64 (q2 : Int)) rfl (fun w' hC => by have := cell_grow d1' hC; go_simp) ?_
                  simp only [Act.put, List.setIfInBounds_toArray, List.set_cons_succ, List.set_cons_zero]
                  refine wq_val (o := ⟨some 73, _, _, _, _, _⟩) (v := .int .i64 (N : Int)) rfl (fun w' hC => by go_simp) ?_
                  simp only [Act.put, List.setIfInBounds_toArray, List.set_cons_succ, List.set_cons_zero]
                  refine wq_val (o := ⟨some 74, _, _, _, _, _⟩) (v := .int .i64 (T1 : Int)) rfl (fun w' hC => by go_simp; exact HJ.out.1) ?_
                  simp only [Act.put, List.setIfInBounds_toArray, List.set_cons_succ, List.set_cons_zero]
                  refine wq_val (o := ⟨some 75, _, _, _, _, _⟩) (v := .int .i64 (T3 : Int)) rfl (fun w' hC => by go_simp; exact j3.out) ?_
                  simp only [Act.put, List.setIfInBounds_toArray, List.set_cons_succ, List.set_cons_zero]
                  refine wq_val (o := ⟨some 76, _, _, _, _, _⟩) (v := .pointer (some (ad.add T3))) rfl (fun w' hC => by go_simp) ?_
                  simp only [Act.put, List.setIfInBounds_toArray, List.set_cons_succ, List.set_cons_zero]
                  refine wq_val (o := ⟨some 77, _, _, _, _, _⟩) (v := .int .u8 (y1.toNat : Int)) rfl (fun w' hC => by have := cell_grow hcy hC; go_simp) ?_
                  simp only [Act.put, List.setIfInBounds_toArray, List.set_cons_succ, List.set_cons_zero]
                  refine wq_val (o := ⟨some 78, _, _, _, _, _⟩) (v := .bool true) rfl (fun w' hC => by go_simp) ?_
                  simp only [Act.put, List.setIfInBounds_toArray, List.set_cons_succ, List.set_cons_zero]
                  refine wq_val (o := ⟨some 79, _, _, _, _, _⟩) (v := .bool true) rfl (fun w' hC => by go_simp) ?_
                  simp only [Act.put, List.setIfInBounds_toArray, List.set_cons_succ, List.set_cons_zero]
                  refine wpQuiet_nil ?_
                  intro w6 h6
                  have H6 := Lib.hid (fr_low' H5.out.1 h6)
                  clear d0' d1' h6 hcx hcy
                  go_wp2
                  go_ret2
                  exact bp_err HE.out H6.out (by rw [errV_ne (by decide)]; rfl)
              · have HE := Lib.hid (show chunksS p (s.drop p) = .err 282 by rw [hE0, if_pos (by intro h; injection h with h1 h2; exact h13 h1)]; rfl)
                have b13 : ((x1.toNat : Int) != 13) = true := by rw [bne_iff_ne]; intro h; exact h13 (UInt8.toNat_inj.1 (by show x1.toNat = 13; omega))
                clear hE0 h13
                refine wp_region_qb (by kernel_rfl) (by kernel_rfl) ?_
                refine wq_val (o := ⟨some 51, _, _, _, _, _⟩) (v := .pointer (some ⟨g, 0, none⟩)) rfl (fun w' hC => by go_simp) ?_
                simp only [Act.put, List.setIfInBounds_toArray, List.set_cons_succ, List.set_cons_zero]
                refine wq_val (o := ⟨some 52, _, _, _, _, _⟩) (v := .pointer (some ⟨g, 0, none⟩)) rfl (fun w' hC => by go_simp) ?_
                simp only [Act.put, List.setIfInBounds_toArray, List.set_cons_succ, List.set_cons_zero]
                refine wq_val (o := ⟨some 53, _, _, _, _, _⟩) (v := .pointer (some ⟨g, 0, none⟩)) rfl (fun w' hC => by go_simp) ?_
                simp only [Act.put, List.setIfInBounds_toArray, List.set_cons_succ, List.set_cons_zero]
                refine wq_val (o := ⟨some 54, _, _, _, _, _⟩) (v := .slice (some ad) sn c) rfl (fun w' hC => by have := cell_grow d0' hC; go_simp) ?_
                simp only [Act.put, List.setIfInBounds_toArray, List.set_cons_succ, List.set_cons_zero]
                refine wq_val (o := ⟨some 55, _, _, _, _, _⟩) (v := .pointer (some ⟨g, 0, none⟩)) rfl (fun w' hC => by go_simp) ?_
                simp only [Act.put, List.setIfInBounds_toArray, List.set_cons_succ, List.set_cons_zero]
                refine wq_val (o := ⟨some 56, _, _, _, _, _⟩) (v := .pointer (some ⟨g, 0, none⟩)) rfl (fun w' hC => by go_simp) ?_
                simp only [Act.put, List.setIfInBounds_toArray, List.set_cons_succ, List.set_cons_zero]
                refine wq_val (o := ⟨some 57, _, _, _, _, _⟩) (v := .pointer (some ⟨g, 1, none⟩)) rfl (fun w' hC => by go_simp) ?_
                simp only [Act.put, List.setIfInBounds_toArray, List.set_cons_succ, List.set_cons_zero]
                refine wq_val (o := ⟨some 58, _, _, _, _, _⟩) (v := .int .i64 (q2 : Int)) rfl (fun w' hC => by have := cell_grow d1' hC; go_simp) ?_
                simp only [Act.put, List.setIfInBounds_toArray, List.set_cons_succ, List.set_cons_zero]
                refine wq_val (o := ⟨some 59, _, _, _, _, _⟩) (v := .int .i64 (N : Int)) rfl (fun w' hC => by go_simp) ?_
                simp only [Act.put, List.setIfInBounds_toArray, List.set_cons_succ, List.set_cons_zero]
                refine wq_val (o := ⟨some 60, _, _, _, _, _⟩) (v := .int .i64 (T1 : Int)) rfl (fun w' hC => by go_simp; exact HJ.out.1) ?_
                simp only [Act.put, List.setIfInBounds_toArray, List.set_cons_succ, List.set_cons_zero]
                refine wq_val (o := ⟨some 61, _, _, _, _, _⟩) (v := .pointer (some (ad.add T1))) rfl (fun w' hC => by go_simp) ?_
                simp only [Act.put, List.setIfInBounds_toArray, List.set_cons_succ, List.set_cons_zero]
                refine wq_val (o := ⟨some 62, _, _, _, _, _⟩) (v := .int .u8 (x1.toNat : Int)) rfl (fun w' hC => by have := cell_grow hcx hC; go_simp) ?_
                simp only [Act.put, List.setIfInBounds_toArray, List.set_cons_succ, List.set_cons_zero]
                refine wq_val (o := ⟨some 63, _, _, _, _, _⟩) (v := .bool true) rfl (fun w' hC => by go_simp) ?_
                simp only [Act.put, List.setIfInBounds_toArray, List.set_cons_succ, List.set_cons_zero]
                refine wq_val (o := ⟨some 64, _, _, _, _, _⟩) (v := .bool true) rfl (fun w' hC => by go_simp) ?_
                simp only [Act.put, List.setIfInBounds_toArray, List.set_cons_succ, List.set_cons_zero]
                go_big_quiet_step (fail)
                go_big_quiet_step (fail)
                go_big_quiet_step (fail)
                go_big_quiet_step (fail)
                go_big_quiet_step (fail)
                go_big_quiet_step (fail)
                go_big_quiet_step (fail)
                go_big_quiet_step (fail)
                go_big_quiet_step (fail)
                go_big_quiet_step (fail)
                go_big_quiet_step (fail)
                go_big_quiet_step (fail)
                go_big_quiet_step (fail)
                go_big_quiet_step (fail)
                refine wq_val (o := ⟨some 79, _, _, _, _, _⟩) (v := .bool true) rfl (fun w' hC => by go_simp) ?_
                simp only [Act.put, List.setIfInBounds_toArray, List.set_cons_succ, List.set_cons_zero]
                refine wpQuiet_nil ?_
                intro w6 h6
                have H6 := Lib.hid (fr_low' H5.out.1 h6)
                clear d0' d1' h6 hcx hcy
                go_wp2
                go_ret2
                exact bp_err HE.out H6.out (by rw [errV_ne (by decide)]; rfl)
            · have hshort := of_decide_eq_true HBT.out.2
              have HE := Lib.hid (show chunksS p (s.drop p) = .err 283 by
                have h1 := HS.out.1
                have h2 := HT.out
                rw [FS.out.2.eq, HF.out, if_pos (by rw [List.length_drop]; have := HQ.out.2; omega)]
                rfl)
              have HW := Lib.hid (wants_any H5.out.2)
              clear hshort
              go_wp2_with (first
                | (go_at_call 58; go_must (refine (HW.out).mono ?_); rintro e w' ⟨rfl, hw'⟩; rw [← hw']; clear hw' w'))
              go_ret2
              exact bp_err HE.out H5.out.1 rfl
end Go.Proofs.YtojemdggbcklkaaDoor.WireR
