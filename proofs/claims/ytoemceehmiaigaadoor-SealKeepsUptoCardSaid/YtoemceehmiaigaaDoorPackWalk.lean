/- A claim's payload: the program's Pack and Unpack. -/
import Derived.Test.YtoemceehmiaigaaDoorSealWalk
import Derived.Test.YtoemceehmiaigaaDoorPackPure
import Derived.Test.YtoemceehmiaigaaDoorQuiet
import Derived.Lib.BufferWrite
namespace Go.Proofs.YtoemceehmiaigaaDoor.Seal
open Go.RowKit Go.Proofs.YtoemceehmiaigaaDoor.Mem Go.Proofs.YtoemceehmiaigaaDoor.Loan
set_option linter.unusedVariables false

/-- copy(b[o:], s) -/
theorem wpList_copyS {P : Program} {dT sT e : TypeId} {w : World} {ops : Array Oper} {rest : List Oper} {o : Oper} {a : Act} {Q : Exit → Act → World → Prop} (hgd : o.guard = none) (d s : Operand) (ho : o.op = .call { callee := .builtin .copy, args := #[d, s], argTypes := #[dT, sT] })
    (hu : P.underlying dT = some (.slice e)) (hs1 : (P.info? e).map (·.size) = some 1) (g off dLen dCap : Nat) (p : List UInt8) (hd : a.eval d = .slice (some ⟨g, off, none⟩) dLen dCap) (hs : a.eval s = .string ⟨p.toArray⟩)
    (T : TypeId) (cur : List Value) (hB : Blk w g T cur) (hle : p.length ≤ dLen) (hfit : off + p.length ≤ cur.length)
    (h : ∀ w' v, Blk w' g T (splice cur off (p.map bv)) → w.grownBy w' (some g) → w'.heap.size = w.heap.size → wpList P ops Q rest (a.put o.dst v) w') : wpList P ops Q (o :: rest) a w := by
  refine wpList_plain hgd fun K hK => ?_
  have hsz : (⟨p.toArray⟩ : ByteArray).size = p.length := by simp [ByteArray.size]
  have hrun := Lib.run_copy_row_string (P := P) w dT sT o.type e g off dLen dCap ⟨p.toArray⟩ cur.toArray T hu hs1 hB (by rw [hsz]; exact hle) (by rw [hsz]; simpa using hfit)
  unfold Oper.wp execOp
  simp only [ho, resolve, invoke, builtin, Sem.run_bind, Sem.run_pure, Result.andThen_ok, List.map_toArray, List.map_cons, List.map_nil, hs, hd, hrun]
  refine hK _ _ (h _ _ ?_ ⟨rfl, rfl, rfl, by simp, fun k hk hne => setRow_other w g k _ (fun e => hne (by rw [e]))⟩ (by simp))
  have := setRow_heap w g _ (splice cur off (p.map bv)).toArray T (0, 0) hB
  unfold Blk
  rw [hsz]
  have e1 : splice cur off (p.map bv) = cur.take off ++ Lib.byteCells p ++ cur.drop (off + p.length) := by
    unfold splice Lib.byteCells
    rw [List.length_map, List.append_assoc]
  rw [e1] at this ⊢
  exact this

def PackPost (w : World) (z : Int) (p : List UInt8) (e : Ending) (w' : World) : Prop :=
  if 1024 < p.length then e = .returned (.tuple #[.slice none 0 0, .int .i64 1]) ∧ Below w.heap.size w w'
  else ∃ v, e = .returned (.tuple #[v, .int .i64 0]) ∧ w'.ownsRow w.heap.size 5 1 v (pack z p).length ((pack z p).map bv) ∧ Below w.heap.size w w'

theorem take_bes (X i : Nat) (h : i < 8) : (bes 8 X).take i ++ [byt (X / 2 ^ (56 - 8 * i) % 256)] = (bes 8 X).take (i + 1) := by
  have hg := bes_get 8 X i h
  have hl : i < (bes 8 X).length := by rw [bes_length]; exact h
  rw [List.getElem?_eq_getElem hl] at hg
  have e : (256 : Nat) ^ (8 - 1 - i) = 2 ^ (56 - 8 * i) := by
    rw [show (256 : Nat) = 2 ^ 8 from rfl, ← Nat.pow_mul, show 8 * (8 - 1 - i) = 56 - 8 * i by omega]
  rw [e] at hg
  rw [List.take_succ_eq_append_getElem hl, Option.some.inj hg]

set_option maxHeartbeats 1600000 in
theorem pack_any (z : Int) (p : List UInt8) (w : World) (hz : -9223372036854775808 ≤ z ∧ z ≤ 9223372036854775807) (hl : p.length ≤ 1073741824) :
    Calls Tryd.prog 45 #[.agg #[.int .i64 z, .string ⟨p.toArray⟩]] w (PackPost w z p) := by
  obtain ⟨L, hL⟩ : ∃ L, L = p.length := ⟨_, rfl⟩
  have hLi : (L : Int) ≤ 1073741824 := by omega
  have hL0 : (0 : Int) ≤ (L : Int) := by omega
  obtain ⟨s, hs⟩ : ∃ s, s = (⟨p.toArray⟩ : ByteArray) := ⟨_, rfl⟩
  have hsz : s.size = L := by rw [hs, hL]; simp [ByteArray.size]
  rw [← hs]
  have HS := Lib.hid (And.intro hs hL)
  clear hs
  by_cases hlong : 1024 < p.length
  · have hP := Lib.hid (show ∀ e w', (e = Ending.returned (.tuple #[.slice none 0 0, .int .i64 1]) ∧ Below w.heap.size w w') → PackPost w z p e w' from fun e w' h => by unfold PackPost; rw [if_pos hlong]; exact h)
    have hLl : 1024 < (L : Int) := by omega
    clear hlong hL
    go_enter Tryd.func45, Tryd.ntmps45
    go_wp2
    go_ret2
    exact hP.out _ _ ⟨rfl, ga (gr w) _⟩
  · have hP := Lib.hid (show ∀ e w', (∃ v, e = Ending.returned (.tuple #[v, .int .i64 0]) ∧ w'.ownsRow w.heap.size 5 1 v (pack z p).length ((pack z p).map bv) ∧ Below w.heap.size w w') → PackPost w z p e w' from fun e w' h => by unfold PackPost; rw [if_neg hlong]; exact h)
    have hLl : (L : Int) ≤ 1024 := by omega
    obtain ⟨N, hN⟩ : ∃ N, N = 8 + L := ⟨_, rfl⟩
    have hNi : 8 + (L : Int) = (N : Int) := by omega
    have HN := Lib.hid hN
    obtain ⟨X, hX⟩ : ∃ X, X = toU z := ⟨_, rfl⟩
    have hXw : IntKind.u64.wrap z = z % 18446744073709551616 := by simp [IntKind.wrap, IntKind.bits, IntKind.signed]
    have hXz : IntKind.u64.wrap z = (X : Int) := by rw [hXw, hX]; unfold toU; omega
    clear hXw
    have hXb : X < 18446744073709551616 := by rw [hX]; exact toU_lt z
    have HX := Lib.hid hX
    have hN1 : N ≤ 1032 := by omega
    clear hlong hL hN hX
    go_enter Tryd.func45, Tryd.ntmps45
    go_wp2_with (first
      | (at_make; go_must (refine wpList_make1 E8 rfl (.tmp 13) (.tmp 13) rfl .i64 .i64 _ _ N rfl rfl (by first | rfl | omega) (by first | rfl | omega) (by omega) (by unfold maxLen; omega) (w.heap.size + 1) (by simp) ?_); intro w1 hB1 hb1 hz1))
    generalize hH : w.heap.size = H at *
    have hY : Blk w1 (H + 1) 5 (((bes 8 X).take 0 ++ List.replicate (N - 0) 0).map bv) ∧ Blk w1 H 72 [.int .i64 z, .string s] ∧ Below H w w1 := by
      refine ⟨?_, ?_, ?_⟩
      · have e : (((bes 8 X).take 0 ++ List.replicate (N - 0) 0).map bv) = List.replicate N (.int .u8 0) := by rw [List.take_zero, List.nil_append, List.map_replicate]; rfl
        rw [e]; exact hB1
      · exact (show Blk _ H _ _ from hH ▸ Blk.new w 72 [.int .i64 z, .string s]).below hb1 (by omega)
      · exact (show Below H w _ from hH ▸ ga (gr w) _).trans (hb1.mono (by omega))
    have HY := Lib.hid hY
    clear hY hB1 hb1 hz1
    go_loopw [15] (fun v wr => ∃ i : Nat, i ≤ 8 ∧ v = .int .i64 i ∧ Blk wr (H + 1) 5 (((bes 8 X).take i ++ List.replicate (N - i) 0).map bv) ∧ Blk wr H 72 [.int .i64 z, .string s] ∧ Below H w wr) (fun v _ => 8 - (intOf v).toNat)
    case atStart => exact ⟨0, by omega, rfl, HY.out⟩
    case round =>
      clear HY
      obtain ⟨i, hi, rfl, hB, hC, hb⟩ := hrel
      by_cases hlt : i < 8
      · have hii : (i : Int) < 8 := by omega
        have hi0 : (0 : Int) ≤ (i : Int) := by omega
        obtain ⟨t, ht⟩ : ∃ t, t = 56 - 8 * i := ⟨_, rfl⟩
        have hti : 56 - 8 * (i : Int) = (t : Int) := by omega
        have ht6 : (t : Int) ≤ 56 := by omega
        obtain ⟨y, hy⟩ : ∃ y, y = X / 2 ^ t := ⟨_, rfl⟩
        have hyi : (X : Int) / 2 ^ t = (y : Int) := by rw [hy, Int.natCast_ediv, Int.natCast_pow]; rfl
        have hyb : y < 18446744073709551616 := by rw [hy]; exact Nat.lt_of_le_of_lt (Nat.div_le_self _ _) hXb
        have hy0 : (0 : Int) ≤ (y : Int) := by omega
        have hiN : (i : Int) < (N : Int) := by have := HN.out; omega
        have cc := hB.cell i
        rw [List.getElem?_map, List.getElem?_append_right (by rw [List.length_take, bes_length]; omega), List.length_take, bes_length, Nat.min_eq_left (by omega), Nat.sub_self, List.getElem?_replicate, if_pos (by have := HN.out; omega)] at cc
        simp only [Option.map_some] at cc
        have ff := hB.frozen i
        have c0 := hC.cell 0
        simp only [List.getElem?_cons_zero] at c0
        have hBs := hB.set_ i (.int .u8 ((y : Int) % 256))
        have e1 : (.int .u8 ((y : Int) % 256) : Value) = bv (byt (X / 2 ^ (56 - 8 * i) % 256)) := by
          unfold bv
          rw [byteN (Nat.mod_lt _ (by omega)), ← ht, ← hy]
          simp only [Int.natCast_emod]
          rfl
        have e2 : ((((bes 8 X).take i ++ List.replicate (N - i) 0).map bv).set i (.int .u8 ((y : Int) % 256))) = ((bes 8 X).take (i + 1) ++ List.replicate (N - (i + 1)) 0).map bv := by
          rw [e1, ← List.map_set, List.set_append_right _ _ (by rw [List.length_take, bes_length]; omega), List.length_take, bes_length, Nat.min_eq_left (by omega), Nat.sub_self, ← take_bes X i hlt,
            show N - i = (N - (i + 1)) + 1 by have := HN.out; omega, List.replicate_succ, List.set_cons_zero, List.append_assoc]
          rfl
        rw [e2] at hBs
        have hCs := hC.far (p := ⟨H + 1, i, none⟩) (by simp) (.int .u8 ((y : Int) % 256))
        have HZ := Lib.hid (And.intro hBs (And.intro hCs (hb.setCell (p := ⟨H + 1, i, none⟩) (by simp) (.int .u8 ((y : Int) % 256)))))
        clear hB hC hb ht hy e1 e2 hBs hCs hlt
        go_wp2
        exact ⟨⟨i + 1, by omega, by go_num, HZ.out.1, HZ.out.2.1, HZ.out.2.2⟩, by simp [intOf]; omega⟩
      · obtain rfl : i = 8 := by omega
        rw [List.take_of_length_le (by rw [bes_length]; exact Nat.le_refl _)] at hB
        have HY := Lib.hid (And.intro hB (And.intro hC hb))
        clear hB hC hb hlt hi
        go_upto_region 9 with fail
        by_cases hL0' : L = 0
        · have HL0 := Lib.hid (show p.length = 0 by rw [← HS.out.2]; exact hL0')
          obtain rfl : N = 8 := by have := HN.out; omega
          subst hL0'
          try simp only [Act.put, List.setIfInBounds_toArray, List.set_cons_succ, List.set_cons_zero]
          refine wp_region_qbT 4 (by kernel_rfl) (by kernel_rfl) ?_
          simp only [List.take_succ_cons, List.take_zero, List.drop_succ_cons, List.drop_zero]
          go_big_quiet_step (fail)
          refine wq_val (o := ⟨some 31, _, _, _, _, _⟩) (v := .slice (some ⟨H + 1, 0, none⟩) 0 0) rfl (fun w' hC => by go_simp) ?_
          simp only [Act.put, List.setIfInBounds_toArray, List.set_cons_succ, List.set_cons_zero]
          refine wq_val (o := ⟨some 32, _, _, _, _, _⟩) (v := .pointer (some ⟨H, 1, none⟩)) rfl (fun w' hC => by go_simp) ?_
          simp only [Act.put, List.setIfInBounds_toArray, List.set_cons_succ, List.set_cons_zero]
          refine wq_val (o := ⟨some 33, _, _, _, _, _⟩) (v := .string s) rfl (fun w' hC => by have cc := (From.blk hC HY.out.2.1).cell 1; simp only [List.getElem?_cons_succ, List.getElem?_cons_zero] at cc; go_simp) ?_
          simp only [Act.put, List.setIfInBounds_toArray, List.set_cons_succ, List.set_cons_zero]
          refine wpQuiet_nil ?_
          intro w8 h8
          have hB8 := HY.out.1.grow h8
          go_wp2_with (first
            | ((with_reducible show wpList _ _ _ (⟨some 34, _, _, _, _, _⟩ :: _) _ _); go_must (refine wpList_copyS (o := ⟨some 34, _, _, _, _, _⟩) rfl (.tmp 31) (.tmp 33) rfl Tryd.underlying32 (by kernel_rfl) (H + 1) 0 0 0 p rfl (congrArg Value.string HS.out.1) _ _ hB8 (by have := HS.out.2; omega) (by have := HS.out.2; have := HN.out; simp [bes_length]; omega) ?_); intro w9 v9 hB9 hg9 hz9))
          go_ret2
          have hsp : splice ((bes 8 X ++ List.replicate (8 - 8) 0).map bv) 0 (p.map bv) = (pack z p).map bv := by
            have hp : p = [] := List.eq_nil_of_length_eq_zero HL0.out
            subst hp
            simp [splice, pack, HX.out]
          rw [hsp] at hB9
          refine hP.out _ _ ⟨_, rfl, ?_, ?_⟩
          · have := hB9.own (base := H) (by omega) (by rw [List.length_map, pack_length]; have := HS.out.2; unfold maxLen; omega)
            rw [List.length_map] at this
            have e : (pack z p).length = 8 := by rw [pack_length, ← HS.out.2]
            rw [e] at this ⊢
            exact this
          · exact (HY.out.2.2.trans (h8.mono (by have := HY.out.2.2.size; omega))).grown hg9 (by have := HY.out.2.2.size; have := h8.size; omega) (fun j hj => by simp at hj; omega)
        · have hL1 : (1 : Int) ≤ (L : Int) := by omega
          have hN8a : (8 : Int) ≤ (N : Int) := by omega
          have hN8b : ¬ N = 8 := by omega
          have hN8c : N - 8 = L := by omega
          clear hL0'
          try simp only [Act.put, List.setIfInBounds_toArray, List.set_cons_succ, List.set_cons_zero]
          refine wp_region_qbT 4 (by kernel_rfl) (by kernel_rfl) ?_
          simp only [List.take_succ_cons, List.take_zero, List.drop_succ_cons, List.drop_zero]
          go_big_quiet_step (fail)
          refine wq_val (o := ⟨some 31, _, _, _, _, _⟩) (v := .slice (some ⟨H + 1, 8, none⟩) L L) rfl (fun w' hC => by go_simp) ?_
          simp only [Act.put, List.setIfInBounds_toArray, List.set_cons_succ, List.set_cons_zero]
          refine wq_val (o := ⟨some 32, _, _, _, _, _⟩) (v := .pointer (some ⟨H, 1, none⟩)) rfl (fun w' hC => by go_simp) ?_
          simp only [Act.put, List.setIfInBounds_toArray, List.set_cons_succ, List.set_cons_zero]
          refine wq_val (o := ⟨some 33, _, _, _, _, _⟩) (v := .string s) rfl (fun w' hC => by have cc := (From.blk hC HY.out.2.1).cell 1; simp only [List.getElem?_cons_succ, List.getElem?_cons_zero] at cc; go_simp) ?_
          simp only [Act.put, List.setIfInBounds_toArray, List.set_cons_succ, List.set_cons_zero]
          refine wpQuiet_nil ?_
          intro w8 h8
          have hB8 := HY.out.1.grow h8
          go_wp2_with (first
            | ((with_reducible show wpList _ _ _ (⟨some 34, _, _, _, _, _⟩ :: _) _ _); go_must (refine wpList_copyS (o := ⟨some 34, _, _, _, _, _⟩) rfl (.tmp 31) (.tmp 33) rfl Tryd.underlying32 (by kernel_rfl) (H + 1) 8 L L p rfl (congrArg Value.string HS.out.1) _ _ hB8 (by have := HS.out.2; omega) (by have := HS.out.2; have := HN.out; simp [bes_length]; omega) ?_); intro w9 v9 hB9 hg9 hz9))
          go_ret2
          have hsp : splice ((bes 8 X ++ List.replicate (N - 8) 0).map bv) 8 (p.map bv) = (pack z p).map bv := by
            have hN8 : N - 8 = p.length := by have := HN.out; have := HS.out.2; omega
            unfold splice pack
            rw [List.map_append, List.take_left' (by rw [List.length_map, bes_length]), List.drop_of_length_le (by simp [bes_length]; omega), List.append_nil, List.map_append, HX.out]
          rw [hsp] at hB9
          refine hP.out _ _ ⟨_, rfl, ?_, ?_⟩
          · have := hB9.own (base := H) (by omega) (by rw [List.length_map, pack_length]; have := HS.out.2; unfold maxLen; omega)
            rw [List.length_map] at this
            have e : (pack z p).length = N := by rw [pack_length, ← HS.out.2]; exact HN.out.symm
            rw [e] at this ⊢
            exact this
          · exact (HY.out.2.2.trans (h8.mono (by have := HY.out.2.2.size; omega))).grown hg9 (by have := HY.out.2.2.size; have := h8.size; omega) (fun j hj => by simp at hj; omega)
end Go.Proofs.YtoemceehmiaigaaDoor.Seal
