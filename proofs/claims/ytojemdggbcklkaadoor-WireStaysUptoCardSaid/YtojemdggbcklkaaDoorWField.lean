/- field, ref.header: one header of its line. (Printed by mkwfield.py.) -/
import Derived.Test.YtojemdggbcklkaaDoorWTrim
import Derived.Test.YtojemdggbcklkaaDoorHeads
import Derived.Test.YtojemdggbcklkaaDoorArr
namespace Go.Proofs.YtojemdggbcklkaaDoor.WireR
open Go.RowKit Go.Proofs.YtojemdggbcklkaaDoor.Mem Go.Proofs.YtojemdggbcklkaaDoor.Wire Go.Proofs.YtojemdggbcklkaaDoor.Strs Go.Proofs.YtojemdggbcklkaaDoor.Heads
set_option linter.unusedVariables false
set_option linter.unusedSimpArgs false
set_option maxRecDepth 4000

theorem AH : Arr Tryd.prog 58 [.string ⟨#[]⟩, .string ⟨#[]⟩] := Arr.mk' Tryd.underlying58 rfl (by kernel_rfl)
def FieldPost (w : World) (l : List UInt8) (e : Ending) (w' : World) : Prop :=
  (match hdrOf l with
  | none => e = .returned (.tuple #[.agg #[.string ⟨#[]⟩, .string ⟨#[]⟩], .bool false])
  | some h => e = .returned (.tuple #[.agg (HD.cells h).toArray, .bool true])) ∧ Below w.heap.size w w'
theorem hdr_none {l : List UInt8} (h : cutL 58 l = none) : hdrOf l = none := by unfold hdrOf; rw [h]
theorem hdr_some {l a b : List UInt8} (h : cutL 58 l = some (a, b)) : hdrOf l = if a ≠ [] ∧ a.all tokB = true ∧ b.all valB = true then some (a, trimL b) else none := by unfold hdrOf; rw [h]
theorem ext_two {l a b : List UInt8} {c : UInt8} (h : cutL c l = some (a, b)) : (⟨l.toArray⟩ : ByteArray).extract 0 a.length = ⟨a.toArray⟩ ∧ (⟨l.toArray⟩ : ByteArray).extract (a.length + 1) l.length = ⟨b.toArray⟩ := by
  have e := (cutL_some h).1
  constructor
  · rw [Lib.extract_eq, e]; simp
  · have h2 : (a ++ c :: b).drop (a.length + 1) = b := by
      rw [show a ++ c :: b = (a ++ [c]) ++ b by simp]
      exact List.drop_left' (by simp)
    rw [Lib.extract_eq, e]
    show (⟨(((a ++ c :: b).drop (a.length + 1)).take _).toArray⟩ : ByteArray) = _
    rw [h2, List.take_of_length_le (by simp; omega)]
set_option maxHeartbeats 4000000 in
theorem field_any (l : List UInt8) (w : World) (hl : l.length ≤ 1073741824) : Calls Tryd.prog 53 #[.string ⟨l.toArray⟩] w (FieldPost w l) := by
  obtain ⟨n, hn⟩ : ∃ n, n = l.length := ⟨_, rfl⟩
  obtain ⟨s, hs⟩ : ∃ s, s = (⟨l.toArray⟩ : ByteArray) := ⟨_, rfl⟩
  have hsz : s.size = n := by rw [hs, hn]; simp [ByteArray.size]
  have hni : (n : Int) ≤ 1073741824 := by omega
  obtain ⟨i, hi⟩ : ∃ i, i = Lib.indexByte l 58 := ⟨_, rfl⟩
  have c1 := fun w => Tryd.strings_IndexByte ⟨l.toArray⟩ 58 w
  rw [show (Lib.indexByte (⟨l.toArray⟩ : ByteArray).data.toList (58 : Int).toNat.toUInt8) = i from hi.symm] at c1
  rw [← hs] at c1 ⊢
  have C1 := Lib.hid c1
  clear c1
  go_enter Tryd.func53, Tryd.ntmps53
  go_upto_region 1 with fail
  obtain ⟨w1, hw1⟩ : ∃ x, x = w.alloc (.cells #[.string ⟨#[]⟩, .string ⟨#[]⟩] 58) := ⟨_, rfl⟩
  rw [← hw1]
  have hb1 : Below w.heap.size w w1 := hw1 ▸ ga (gr w) _
  have hB1 : Blk w1 w.heap.size 58 [.string ⟨#[]⟩, .string ⟨#[]⟩] := hw1 ▸ Blk.new w _ _
  obtain ⟨H, hH⟩ : ∃ H, H = w.heap.size := ⟨_, rfl⟩
  rw [← hH] at hB1 ⊢
  have HW := Lib.hid (And.intro hB1 (And.intro hb1 (And.intro hb1.size (by omega : w.heap.size ≤ H))))
  clear hb1 hB1 hw1 hH
  cases hcut : cutL 58 l with
  | none =>
    have d0 : decide (i < 1) = true := by rw [hi, indexByte_cut, hcut]; rfl
    have d1 : i < 1 := of_decide_eq_true d0
    have HP : hdrOf l = none := by exact hdr_none hcut
    have HP := Lib.hid HP
    clear hi hcut hn hs hl
    go_wp2_with (first
      | (go_at_call 48; go_must (refine (C1.out _).mono ?_); rintro e w' ⟨rfl, rfl⟩)
      | ((with_reducible show wpList _ _ _ (⟨none, _, _, _, _, _⟩ :: _) _ _); go_must (refine wpList_storeB AH rfl (.tmp 2) (.tmp 24) rfl H 0 rfl [.string ⟨#[]⟩, .string ⟨#[]⟩] rfl rfl _ _ HW.out.1 (by decide) (by simp [Value.oneCell']) ?_); intro w2 hB2 hg2 hz2
         have c0 := hB2.cell 0
         have c1 := hB2.cell 1
         simp only [splice, List.take_zero, List.nil_append, List.length_cons, List.length_nil, List.drop_succ_cons, List.drop_zero, List.append_nil, List.getElem?_cons_zero, List.getElem?_cons_succ, Nat.zero_add, List.drop_nil] at c0 c1))
    refine bodyPost_ret (v := .tuple #[.agg #[.string ⟨#[]⟩, .string ⟨#[]⟩], .bool false]) (by simp [results, Tryd.results53, go_sem, c0, c1]) rfl ?_
    unfold FieldPost
    rw [HP.out]
    exact ⟨rfl, (HW.out.2.1).grown hg2 (by have := HW.out.2.2.1; omega) (fun k hk => by injection hk with hk; have := HW.out.2.2.2; omega)⟩

  | some p =>
    obtain ⟨a, b⟩ := p
    have him : i = (a.length : Int) := by rw [hi, indexByte_cut, hcut]
    have hlen := cutL_len hcut
    obtain ⟨e1, e2⟩ := ext_two hcut
    obtain ⟨m, hm⟩ : ∃ m, m = a.length := ⟨_, rfl⟩
    obtain ⟨sa, hsa⟩ : ∃ x, x = (⟨a.toArray⟩ : ByteArray) := ⟨_, rfl⟩
    obtain ⟨sb, hsb⟩ : ∃ x, x = (⟨b.toArray⟩ : ByteArray) := ⟨_, rfl⟩
    rw [← hs, ← hm, ← hsa] at e1
    rw [← hs, ← hm, ← hsb, ← hn] at e2
    have hal : a.length ≤ 1073741824 := by omega
    have hbl : b.length ≤ 1073741824 := by omega
    have hmi : (m : Int) + 1 ≤ (n : Int) := by omega
    have hmr : IntKind.i64.wrap ((m : Int) + 1) = (m : Int) + 1 := by simp [IntKind.wrap, IntKind.bits, IntKind.signed]; omega
    have hnm : ¬ n < m := by omega
    have hnm1 : ¬ n < m + 1 := by omega
    have hmw : wrap64 ((m : Int) + 1) = (m : Int) + 1 := by unfold wrap64; omega
    obtain rfl : i = (m : Int) := by rw [him, hm]
    have hpost := hdr_some hcut
    by_cases h0 : m = 0
    · have ha0 : a = [] := List.eq_nil_of_length_eq_zero (by omega)
      have d0 : decide ((m : Int) < 1) = true := by simp; omega
      have d1 : (m : Int) < 1 := of_decide_eq_true d0
      have HP : hdrOf l = none := by rw [hpost, if_neg (fun h => h.1 ha0)]
      have HP := Lib.hid HP
      clear hi him hcut hn hs hl hlen e1 e2 hm hsa hsb hal hbl hpost ha0 h0
      go_wp2_with (first
        | (go_at_call 48; go_must (refine (C1.out _).mono ?_); rintro e w' ⟨rfl, rfl⟩)
        | ((with_reducible show wpList _ _ _ (⟨none, _, _, _, _, _⟩ :: _) _ _); go_must (refine wpList_storeB AH rfl (.tmp 2) (.tmp 24) rfl H 0 rfl [.string ⟨#[]⟩, .string ⟨#[]⟩] rfl rfl _ _ HW.out.1 (by decide) (by simp [Value.oneCell']) ?_); intro w2 hB2 hg2 hz2
           have c0 := hB2.cell 0
           have c1 := hB2.cell 1
           simp only [splice, List.take_zero, List.nil_append, List.length_cons, List.length_nil, List.drop_succ_cons, List.drop_zero, List.append_nil, List.getElem?_cons_zero, List.getElem?_cons_succ, Nat.zero_add, List.drop_nil] at c0 c1))
      refine bodyPost_ret (v := .tuple #[.agg #[.string ⟨#[]⟩, .string ⟨#[]⟩], .bool false]) (by simp [results, Tryd.results53, go_sem, c0, c1]) rfl ?_
      unfold FieldPost
      rw [HP.out]
      exact ⟨rfl, (HW.out.2.1).grown hg2 (by have := HW.out.2.2.1; omega) (fun k hk => by injection hk with hk; have := HW.out.2.2.2; omega)⟩
    · have d0 : decide ((m : Int) < 1) = false := by rw [decide_eq_false_iff_not]; omega
      have d1 : ¬ (m : Int) < 1 := of_decide_eq_false d0
      obtain ⟨ba, hba⟩ : ∃ x, x = a.all tokB := ⟨_, rfl⟩
      obtain ⟨bb, hbb⟩ : ∃ x, x = b.all valB := ⟨_, rfl⟩
      have c2 := fun W => allOf_tok a W hal
      have c3 := fun W => allOf_val b W hbl
      rw [← hba, ← hsa] at c2
      rw [← hbb, ← hsb] at c3
      have C2 := Lib.hid c2
      have C3 := Lib.hid c3
      have ht : hdrOf l = if ba = true ∧ bb = true then some (a, trimL b) else none := by
        rw [hpost, hba, hbb]
        have hne : a ≠ [] := fun e => h0 (by rw [hm, e]; rfl)
        simp [hne]
      clear c2 c3 hba hbb hpost hi him hcut hn hs hl hlen hm h0
      cases ba
      · clear e2
        have HP : hdrOf l = none := by rw [ht]; rfl
        have HP := Lib.hid HP
        clear ht hsa hsb hal hbl
        go_wp2_with (first
          | (go_at_call 48; go_must (refine (C1.out _).mono ?_); rintro e w' ⟨rfl, rfl⟩)
          | (go_at_call 50; (with_reducible show Calls _ _ #[.string sa, _] _ _); go_must (refine (C2.out _).mono ?_); rintro e w' ⟨rfl, rfl⟩)
          | ((with_reducible show wpList _ _ _ (⟨none, _, _, _, _, _⟩ :: _) _ _); go_must (refine wpList_storeB AH rfl (.tmp 2) (.tmp 24) rfl H 0 rfl [.string ⟨#[]⟩, .string ⟨#[]⟩] rfl rfl _ _ HW.out.1 (by decide) (by simp [Value.oneCell']) ?_); intro w2 hB2 hg2 hz2
             have c0 := hB2.cell 0
             have c1 := hB2.cell 1
             simp only [splice, List.take_zero, List.nil_append, List.length_cons, List.length_nil, List.drop_succ_cons, List.drop_zero, List.append_nil, List.getElem?_cons_zero, List.getElem?_cons_succ, Nat.zero_add, List.drop_nil] at c0 c1))
        refine bodyPost_ret (v := .tuple #[.agg #[.string ⟨#[]⟩, .string ⟨#[]⟩], .bool false]) (by simp [results, Tryd.results53, go_sem, c0, c1]) rfl ?_
        unfold FieldPost
        rw [HP.out]
        exact ⟨rfl, (HW.out.2.1).grown hg2 (by have := HW.out.2.2.1; omega) (fun k hk => by injection hk with hk; have := HW.out.2.2.2; omega)⟩

      · cases bb
        · skip
          have HP : hdrOf l = none := by rw [ht]; rfl
          have HP := Lib.hid HP
          clear ht hsa hsb hal hbl
          go_wp2_with (first
            | (go_at_call 48; go_must (refine (C1.out _).mono ?_); rintro e w' ⟨rfl, rfl⟩)
            | (go_at_call 50; (with_reducible show Calls _ _ #[.string sa, _] _ _); go_must (refine (C2.out _).mono ?_); rintro e w' ⟨rfl, rfl⟩)
            | (go_at_call 50; go_must (refine (C3.out _).mono ?_); rintro e w' ⟨rfl, rfl⟩)
            | ((with_reducible show wpList _ _ _ (⟨none, _, _, _, _, _⟩ :: _) _ _); go_must (refine wpList_storeB AH rfl (.tmp 2) (.tmp 24) rfl H 0 rfl [.string ⟨#[]⟩, .string ⟨#[]⟩] rfl rfl _ _ HW.out.1 (by decide) (by simp [Value.oneCell']) ?_); intro w2 hB2 hg2 hz2
               have c0 := hB2.cell 0
               have c1 := hB2.cell 1
               simp only [splice, List.take_zero, List.nil_append, List.length_cons, List.length_nil, List.drop_succ_cons, List.drop_zero, List.append_nil, List.getElem?_cons_zero, List.getElem?_cons_succ, Nat.zero_add, List.drop_nil] at c0 c1))
          refine bodyPost_ret (v := .tuple #[.agg #[.string ⟨#[]⟩, .string ⟨#[]⟩], .bool false]) (by simp [results, Tryd.results53, go_sem, c0, c1]) rfl ?_
          unfold FieldPost
          rw [HP.out]
          exact ⟨rfl, (HW.out.2.1).grown hg2 (by have := HW.out.2.2.1; omega) (fun k hk => by injection hk with hk; have := HW.out.2.2.2; omega)⟩

        · have HP : hdrOf l = some (a, trimL b) := by rw [ht]; rfl
          have HP := Lib.hid HP
          have c4 := fun W => trim_any b W hbl
          rw [← hsb] at c4
          obtain ⟨st, hst⟩ : ∃ x, x = (⟨(trimL b).toArray⟩ : ByteArray) := ⟨_, rfl⟩
          rw [← hst] at c4
          have C4 := Lib.hid c4
          have HS := Lib.hid (And.intro hsa hst)
          clear ht hsa hsb hal hbl c4 hst
          go_upto_region 4 with (first
            | (go_at_call 48; go_must (refine (C1.out _).mono ?_); rintro e w' ⟨rfl, rfl⟩)
            | (go_at_call 50; (with_reducible show Calls _ _ #[.string sa, _] _ _); go_must (refine (C2.out _).mono ?_); rintro e w' ⟨rfl, rfl⟩)
            | (go_at_call 50; go_must (refine (C3.out _).mono ?_); rintro e w' ⟨rfl, rfl⟩))
          try simp only [Act.put, List.setIfInBounds_toArray, List.set_cons_succ, List.set_cons_zero]
          refine wp_region_qbT 9 (by kernel_rfl) (by kernel_rfl) ?_
          simp only [List.take_succ_cons, List.take_zero, List.drop_succ_cons, List.drop_zero]
          go_big_quiet_step (fail)
          go_big_quiet_step (fail)
          refine wq_val (o := ⟨some 27, _, _, _, _, _⟩) (v := .string sa) rfl (fun w' hC => by first | (go_simp; done) | (go_simp; intro h; omega)) ?_
          simp only [Act.put, List.setIfInBounds_toArray, List.set_cons_succ, List.set_cons_zero]
          go_big_quiet_step (fail)
          go_big_quiet_step (fail)
          refine wq_val (o := ⟨some 30, _, _, _, _, _⟩) (v := .int .i64 ((m : Int) + 1)) rfl (fun w' hC => by go_simp) ?_
          simp only [Act.put, List.setIfInBounds_toArray, List.set_cons_succ, List.set_cons_zero]
          refine wq_val (o := ⟨some 31, _, _, _, _, _⟩) (v := .string sb) rfl (fun w' hC => by first | (go_simp; done) | (go_simp; intro h; omega)) ?_
          simp only [Act.put, List.setIfInBounds_toArray, List.set_cons_succ, List.set_cons_zero]
          refine wq_call (f := 60) (args := #[.string sb]) (v := .string st) rfl (fun w' _ => by go_simp) (fun w' hC => C4.out w') ?_
          simp only [Act.put, List.setIfInBounds_toArray, List.set_cons_succ, List.set_cons_zero]
          refine wq_val (o := ⟨some 33, _, _, _, _, _⟩) (v := .agg #[.string sa, .string st]) rfl (fun w' hC => by go_simp) ?_
          simp only [Act.put, List.setIfInBounds_toArray, List.set_cons_succ, List.set_cons_zero]
          refine wpQuiet_nil ?_
          intro w5 h5
          have HX := Lib.hid (And.intro (HW.out.1.grow h5) (And.intro (HW.out.2.1.trans (h5.mono HW.out.2.2.1)) h5.size))
          clear h5
          refine wpList_storeB AH rfl (.tmp 2) (.tmp 33) rfl H 0 rfl [.string sa, .string st] rfl rfl _ _ HX.out.1 (by simp) (by simp [Value.oneCell']) ?_
          intro w2 hB2 hg2 hz2
          have c0 := hB2.cell 0
          have c1 := hB2.cell 1
          simp only [splice, List.take_zero, List.nil_append, List.length_cons, List.length_nil, List.drop_succ_cons, List.drop_zero, List.append_nil, List.getElem?_cons_zero, List.getElem?_cons_succ, Nat.zero_add, List.drop_nil] at c0 c1
          try simp only [Act.put, List.setIfInBounds_toArray, List.set_cons_succ, List.set_cons_zero]
          go_wp2
          refine bodyPost_ret (v := .tuple #[.agg #[.string sa, .string st], .bool true]) (by simp [results, Tryd.results53, go_sem, c0, c1]) rfl ?_
          unfold FieldPost
          rw [HP.out]
          exact ⟨by rw [HS.out.1, HS.out.2]; rfl, (HX.out.2.1).grown hg2 (by have := HW.out.2.2.1; have := HX.out.2.2; omega) (fun k hk => by injection hk with hk; have := HW.out.2.2.2; omega)⟩
set_option maxHeartbeats 4000000 in
theorem rheader_any (l : List UInt8) (w : World) (hl : l.length ≤ 1073741824) : Calls Tryd.prog 64 #[.string ⟨l.toArray⟩] w (FieldPost w l) := by
  obtain ⟨n, hn⟩ : ∃ n, n = l.length := ⟨_, rfl⟩
  obtain ⟨s, hs⟩ : ∃ s, s = (⟨l.toArray⟩ : ByteArray) := ⟨_, rfl⟩
  have hsz : s.size = n := by rw [hs, hn]; simp [ByteArray.size]
  have hni : (n : Int) ≤ 1073741824 := by omega
  obtain ⟨i, hi⟩ : ∃ i, i = Lib.indexByte l 58 := ⟨_, rfl⟩
  have c1 := fun w => find_any l 58 w hl
  rw [← hi] at c1
  rw [← hs] at c1 ⊢
  have C1 := Lib.hid c1
  clear c1
  go_enter Tryd.func64, Tryd.ntmps64
  go_upto_region 1 with fail
  obtain ⟨w1, hw1⟩ : ∃ x, x = w.alloc (.cells #[.string ⟨#[]⟩, .string ⟨#[]⟩] 58) := ⟨_, rfl⟩
  rw [← hw1]
  have hb1 : Below w.heap.size w w1 := hw1 ▸ ga (gr w) _
  have hB1 : Blk w1 w.heap.size 58 [.string ⟨#[]⟩, .string ⟨#[]⟩] := hw1 ▸ Blk.new w _ _
  obtain ⟨H, hH⟩ : ∃ H, H = w.heap.size := ⟨_, rfl⟩
  rw [← hH] at hB1 ⊢
  have HW := Lib.hid (And.intro hB1 (And.intro hb1 (And.intro hb1.size (by omega : w.heap.size ≤ H))))
  clear hb1 hB1 hw1 hH
  cases hcut : cutL 58 l with
  | none =>
    have d0 : decide (i < 0) = true := by rw [hi, indexByte_cut, hcut]; rfl
    have d1 : i < 0 := of_decide_eq_true d0
    have HP : hdrOf l = none := by exact hdr_none hcut
    have HP := Lib.hid HP
    clear hi hcut hn hs hl
    go_wp2_with (first
      | (go_at_call 62; go_must (refine (C1.out _).mono ?_); rintro e w' ⟨rfl, rfl⟩)
      | ((with_reducible show wpList _ _ _ (⟨none, _, _, _, _, _⟩ :: _) _ _); go_must (refine wpList_storeB AH rfl (.tmp 2) (.tmp 24) rfl H 0 rfl [.string ⟨#[]⟩, .string ⟨#[]⟩] rfl rfl _ _ HW.out.1 (by decide) (by simp [Value.oneCell']) ?_); intro w2 hB2 hg2 hz2
         have c0 := hB2.cell 0
         have c1 := hB2.cell 1
         simp only [splice, List.take_zero, List.nil_append, List.length_cons, List.length_nil, List.drop_succ_cons, List.drop_zero, List.append_nil, List.getElem?_cons_zero, List.getElem?_cons_succ, Nat.zero_add, List.drop_nil] at c0 c1))
    refine bodyPost_ret (v := .tuple #[.agg #[.string ⟨#[]⟩, .string ⟨#[]⟩], .bool false]) (by simp [results, Tryd.results64, go_sem, c0, c1]) rfl ?_
    unfold FieldPost
    rw [HP.out]
    exact ⟨rfl, (HW.out.2.1).grown hg2 (by have := HW.out.2.2.1; omega) (fun k hk => by injection hk with hk; have := HW.out.2.2.2; omega)⟩

  | some p =>
    obtain ⟨a, b⟩ := p
    have him : i = (a.length : Int) := by rw [hi, indexByte_cut, hcut]
    have hlen := cutL_len hcut
    obtain ⟨e1, e2⟩ := ext_two hcut
    obtain ⟨m, hm⟩ : ∃ m, m = a.length := ⟨_, rfl⟩
    obtain ⟨sa, hsa⟩ : ∃ x, x = (⟨a.toArray⟩ : ByteArray) := ⟨_, rfl⟩
    obtain ⟨sb, hsb⟩ : ∃ x, x = (⟨b.toArray⟩ : ByteArray) := ⟨_, rfl⟩
    rw [← hs, ← hm, ← hsa] at e1
    rw [← hs, ← hm, ← hsb, ← hn] at e2
    have hal : a.length ≤ 1073741824 := by omega
    have hbl : b.length ≤ 1073741824 := by omega
    have hmi : (m : Int) + 1 ≤ (n : Int) := by omega
    have hmr : IntKind.i64.wrap ((m : Int) + 1) = (m : Int) + 1 := by simp [IntKind.wrap, IntKind.bits, IntKind.signed]; omega
    have hnm : ¬ n < m := by omega
    have hnm1 : ¬ n < m + 1 := by omega
    have hmw : wrap64 ((m : Int) + 1) = (m : Int) + 1 := by unfold wrap64; omega
    obtain rfl : i = (m : Int) := by rw [him, hm]
    have hpost := hdr_some hcut
    by_cases h0 : m = 0 ∧ False
    · exact absurd h0.2 (fun h => h)
    · have d0 : decide ((m : Int) < 0) = false := by rw [decide_eq_false_iff_not]; omega
      have d1 : ¬ (m : Int) < 0 := of_decide_eq_false d0
      obtain ⟨ba, hba⟩ : ∃ x, x = (a.all tokB && decide (a ≠ [])) := ⟨_, rfl⟩
      obtain ⟨bb, hbb⟩ : ∃ x, x = b.all valB := ⟨_, rfl⟩
      have c2 := fun W => rtoken_any a W hal
      have c3 := fun W => rvalue_any b W hbl
      rw [← hba, ← hsa] at c2
      rw [← hbb, ← hsb] at c3
      have C2 := Lib.hid c2
      have C3 := Lib.hid c3
      have ht : hdrOf l = if ba = true ∧ bb = true then some (a, trimL b) else none := by
        rw [hpost, hba, hbb]
        congr 1; simp [and_comm, and_left_comm, and_assoc]
      clear c2 c3 hba hbb hpost hi him hcut hn hs hl hlen hm h0
      cases ba
      · clear e2
        have HP : hdrOf l = none := by rw [ht]; rfl
        have HP := Lib.hid HP
        clear ht hsa hsb hal hbl
        go_wp2_with (first
          | (go_at_call 62; go_must (refine (C1.out _).mono ?_); rintro e w' ⟨rfl, rfl⟩)
          | (go_at_call 63; go_must (refine (C2.out _).mono ?_); rintro e w' ⟨rfl, rfl⟩)
          | ((with_reducible show wpList _ _ _ (⟨none, _, _, _, _, _⟩ :: _) _ _); go_must (refine wpList_storeB AH rfl (.tmp 2) (.tmp 24) rfl H 0 rfl [.string ⟨#[]⟩, .string ⟨#[]⟩] rfl rfl _ _ HW.out.1 (by decide) (by simp [Value.oneCell']) ?_); intro w2 hB2 hg2 hz2
             have c0 := hB2.cell 0
             have c1 := hB2.cell 1
             simp only [splice, List.take_zero, List.nil_append, List.length_cons, List.length_nil, List.drop_succ_cons, List.drop_zero, List.append_nil, List.getElem?_cons_zero, List.getElem?_cons_succ, Nat.zero_add, List.drop_nil] at c0 c1))
        refine bodyPost_ret (v := .tuple #[.agg #[.string ⟨#[]⟩, .string ⟨#[]⟩], .bool false]) (by simp [results, Tryd.results64, go_sem, c0, c1]) rfl ?_
        unfold FieldPost
        rw [HP.out]
        exact ⟨rfl, (HW.out.2.1).grown hg2 (by have := HW.out.2.2.1; omega) (fun k hk => by injection hk with hk; have := HW.out.2.2.2; omega)⟩

      · cases bb
        · skip
          have HP : hdrOf l = none := by rw [ht]; rfl
          have HP := Lib.hid HP
          clear ht hsa hsb hal hbl
          go_wp2_with (first
            | (go_at_call 62; go_must (refine (C1.out _).mono ?_); rintro e w' ⟨rfl, rfl⟩)
            | (go_at_call 63; go_must (refine (C2.out _).mono ?_); rintro e w' ⟨rfl, rfl⟩)
            | (go_at_call 79; go_must (refine (C3.out _).mono ?_); rintro e w' ⟨rfl, rfl⟩)
            | ((with_reducible show wpList _ _ _ (⟨none, _, _, _, _, _⟩ :: _) _ _); go_must (refine wpList_storeB AH rfl (.tmp 2) (.tmp 24) rfl H 0 rfl [.string ⟨#[]⟩, .string ⟨#[]⟩] rfl rfl _ _ HW.out.1 (by decide) (by simp [Value.oneCell']) ?_); intro w2 hB2 hg2 hz2
               have c0 := hB2.cell 0
               have c1 := hB2.cell 1
               simp only [splice, List.take_zero, List.nil_append, List.length_cons, List.length_nil, List.drop_succ_cons, List.drop_zero, List.append_nil, List.getElem?_cons_zero, List.getElem?_cons_succ, Nat.zero_add, List.drop_nil] at c0 c1))
          refine bodyPost_ret (v := .tuple #[.agg #[.string ⟨#[]⟩, .string ⟨#[]⟩], .bool false]) (by simp [results, Tryd.results64, go_sem, c0, c1]) rfl ?_
          unfold FieldPost
          rw [HP.out]
          exact ⟨rfl, (HW.out.2.1).grown hg2 (by have := HW.out.2.2.1; omega) (fun k hk => by injection hk with hk; have := HW.out.2.2.2; omega)⟩

        · have HP : hdrOf l = some (a, trimL b) := by rw [ht]; rfl
          have HP := Lib.hid HP
          have c4 := fun W => rtrim_any b W hbl
          rw [← hsb] at c4
          obtain ⟨st, hst⟩ : ∃ x, x = (⟨(trimL b).toArray⟩ : ByteArray) := ⟨_, rfl⟩
          rw [← hst] at c4
          have C4 := Lib.hid c4
          have HS := Lib.hid (And.intro hsa hst)
          clear ht hsa hsb hal hbl c4 hst
          go_upto_region 4 with (first
            | (go_at_call 62; go_must (refine (C1.out _).mono ?_); rintro e w' ⟨rfl, rfl⟩)
            | (go_at_call 63; go_must (refine (C2.out _).mono ?_); rintro e w' ⟨rfl, rfl⟩)
            | (go_at_call 79; go_must (refine (C3.out _).mono ?_); rintro e w' ⟨rfl, rfl⟩))
          try simp only [Act.put, List.setIfInBounds_toArray, List.set_cons_succ, List.set_cons_zero]
          refine wp_region_qbT 9 (by kernel_rfl) (by kernel_rfl) ?_
          simp only [List.take_succ_cons, List.take_zero, List.drop_succ_cons, List.drop_zero]
          go_big_quiet_step (fail)
          go_big_quiet_step (fail)
          refine wq_val (o := ⟨some 27, _, _, _, _, _⟩) (v := .string sa) rfl (fun w' hC => by first | (go_simp; done) | (go_simp; intro h; omega)) ?_
          simp only [Act.put, List.setIfInBounds_toArray, List.set_cons_succ, List.set_cons_zero]
          go_big_quiet_step (fail)
          go_big_quiet_step (fail)
          refine wq_val (o := ⟨some 30, _, _, _, _, _⟩) (v := .int .i64 ((m : Int) + 1)) rfl (fun w' hC => by go_simp) ?_
          simp only [Act.put, List.setIfInBounds_toArray, List.set_cons_succ, List.set_cons_zero]
          refine wq_val (o := ⟨some 31, _, _, _, _, _⟩) (v := .string sb) rfl (fun w' hC => by first | (go_simp; done) | (go_simp; intro h; omega)) ?_
          simp only [Act.put, List.setIfInBounds_toArray, List.set_cons_succ, List.set_cons_zero]
          refine wq_call (f := 67) (args := #[.string sb]) (v := .string st) rfl (fun w' _ => by go_simp) (fun w' hC => (C4.out w').mono fun e w'' h => ⟨h.1, h.2 ▸ gr w'⟩) ?_
          simp only [Act.put, List.setIfInBounds_toArray, List.set_cons_succ, List.set_cons_zero]
          refine wq_val (o := ⟨some 33, _, _, _, _, _⟩) (v := .agg #[.string sa, .string st]) rfl (fun w' hC => by go_simp) ?_
          simp only [Act.put, List.setIfInBounds_toArray, List.set_cons_succ, List.set_cons_zero]
          refine wpQuiet_nil ?_
          intro w5 h5
          have HX := Lib.hid (And.intro (HW.out.1.grow h5) (And.intro (HW.out.2.1.trans (h5.mono HW.out.2.2.1)) h5.size))
          clear h5
          refine wpList_storeB AH rfl (.tmp 2) (.tmp 33) rfl H 0 rfl [.string sa, .string st] rfl rfl _ _ HX.out.1 (by simp) (by simp [Value.oneCell']) ?_
          intro w2 hB2 hg2 hz2
          have c0 := hB2.cell 0
          have c1 := hB2.cell 1
          simp only [splice, List.take_zero, List.nil_append, List.length_cons, List.length_nil, List.drop_succ_cons, List.drop_zero, List.append_nil, List.getElem?_cons_zero, List.getElem?_cons_succ, Nat.zero_add, List.drop_nil] at c0 c1
          try simp only [Act.put, List.setIfInBounds_toArray, List.set_cons_succ, List.set_cons_zero]
          go_wp2
          refine bodyPost_ret (v := .tuple #[.agg #[.string sa, .string st], .bool true]) (by simp [results, Tryd.results64, go_sem, c0, c1]) rfl ?_
          unfold FieldPost
          rw [HP.out]
          exact ⟨by rw [HS.out.1, HS.out.2]; rfl, (HX.out.2.1).grown hg2 (by have := HW.out.2.2.1; have := HX.out.2.2; omega) (fun k hk => by injection hk with hk; have := HW.out.2.2.2; omega)⟩
end Go.Proofs.YtojemdggbcklkaaDoor.WireR
