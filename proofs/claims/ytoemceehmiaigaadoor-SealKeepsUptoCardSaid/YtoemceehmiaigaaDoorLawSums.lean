/- weirlaw04.ShaSums: the walk. -/
import Derived.Test.YtoemceehmiaigaaDoorShaProg
import Derived.Test.YtoemceehmiaigaaDoorShaAbc
import Derived.Test.YtoemceehmiaigaaDoorEqlAgg
import Derived.Test.YtoemceehmiaigaaDoorQuiet
import Derived.Lib.SlBytesConst
namespace Go.Proofs.YtoemceehmiaigaaDoor.LawSums
open Go.RowKit Go.Proofs.YtoemceehmiaigaaDoor.Mem Go.Proofs.YtoemceehmiaigaaDoor.Loan Go.Proofs.YtoemceehmiaigaaDoor.Sha

/-- a list of bytes as the walk meets it -/
structure Row where
  A : Option Addr
  c : Nat
  l : List UInt8
def Row.cells (r : Row) : List Value := [.slice r.A r.l.length r.c]
def Row.ok (w : World) (r : Row) : Prop := RB w r.A r.l ∧ r.l.length ≤ r.c ∧ r.l.length ≤ 1048576
theorem Row.ok.below {w w' : World} {r : Row} (h : r.ok w) (hb : Below w.heap.size w w') : r.ok w' := ⟨h.1.below hb, h.2⟩

theorem A34 : Arr Tryd.prog 34 [.slice none 0 0, .int .i64 0] := Arr.mk' Tryd.underlying34 rfl (by kernel_rfl)
def mtail : List UInt8 := List.replicate 200 90 ++ List.replicate (200 - 200) 0
theorem mtail_length : mtail.length = 200 := by unfold mtail; rw [List.length_append, List.length_replicate, List.length_replicate]
theorem marked_tail : ∀ x ∈ mtail, x = 90 := by
  intro x hx
  rcases List.mem_append.1 hx with h | h
  · exact (List.mem_replicate.1 h).2
  · have := (List.mem_replicate.1 h).1
    omega
theorem dig_eql (l : List UInt8) (W : World) : (binOp .neq 30 (.agg ((sumf l).map bv).toArray) (.agg ((sumf l).map bv).toArray)).run Tryd.prog W = .ok (.bool false) W :=
  run_neq_array Tryd.underlying30 Tryd.underlying5 (by kernel_rfl) _ (fun i hi => bytes_ints _ i (by rw [sumf_length]; exact hi)) W
theorem dig_eqi (l : List UInt8) (W : World) : (Op.equalIn 10000 30 (.agg ((sumf l).map bv).toArray) (.agg ((sumf l).map bv).toArray)).run Tryd.prog W = .ok true W :=
  eqIn_array (d := 9998) Tryd.underlying30 Tryd.underlying5 (by kernel_rfl) _ (fun i hi => bytes_ints _ i (by rw [sumf_length]; exact hi)) W
theorem abc_index (W : World) : (Instr.index 30 (.agg ((sumf [97, 98, 99]).map bv).toArray) (.int .i64 0)).run Tryd.prog W = .ok (.int .u8 186) W :=
  run_index_val (k := .i64) Tryd.underlying30 Tryd.underlying5 (by kernel_rfl) _ 0 (by omega) _ (by rw [List.getElem?_toArray, List.getElem?_map, abc_first]; rfl) W

theorem rows_map (rs : List Row) : rs.flatMap Row.cells = rs.map fun r => .slice r.A r.l.length r.c := by
  induction rs with
  | nil => rfl
  | cons r t ih => rw [List.flatMap_cons, ih]; rfl
theorem rvm_new (w : World) (cs : List Value) (t : TypeId) (fr : Nat × Nat) : RV (w.alloc (.cells cs.toArray t fr)) (some ⟨w.heap.size, 0, none⟩) cs := fun k hk => by
  refine ⟨_, rfl, ?_⟩
  rw [add_none, Nat.zero_add, World.cell?_alloc_mark]
  simp [List.getElem?_eq_getElem hk]

theorem wpList_loadBg {P : Program} {ty : TypeId} {zs : List Value} (A : Arr P ty zs) {w : World} {ops : Array Oper} {rest : List Oper} {op : Oper} {a : Act} {Q : Exit → Act → World → Prop} (hw : Region.wanted op (yielded ops a.tmps) = true) (x : Operand) (ho : op.op = .load ty x)
    (g o : Nat) (hx : a.eval x = .pointer (some ⟨g, o, none⟩)) (T : TypeId) (cs : List Value) (hB : Blk w g T cs) (vs : List Value) (hv : (cs.drop o).take zs.length = vs) (hl : vs.length = zs.length)
    (h : wpList P ops Q rest (a.put op.dst (.agg vs.toArray)) w) : wpList P ops Q (op :: rest) a w :=
  BigFrame.wpList_want hw fun _ hK => wp_loadB A x ho g o hx T cs hB vs hv hl (hK _ _ h)
def lcell (g n : Nat) : List Value := [.slice (some ⟨g, 0, none⟩) (n + 200) (n + 200), .int .i64 (n : Int)]
theorem lcell_one (g n : Nat) : ∀ v ∈ lcell g n, v.oneCell' = true := by
  intro v hv
  simp [lcell] at hv
  rcases hv with rfl | rfl <;> rfl
theorem marked_rb {w : World} {g : Nat} {t : TypeId} {l : List UInt8} (h : Blk w g t ((l ++ mtail).map bv)) : RB w (some ⟨g, 0, none⟩) l := by
  have := h.rb 0 l.length
  simpa using this
/-- what lies in memory while a list is looked at -/
structure CX (w : World) (b5 g : Nat) (pa : Option Addr) (l : List UInt8) (W : World) : Prop where
  loan : Blk W b5 34 (lcell g l.length)
  bytes : Blk W g 5 ((l ++ mtail).map bv)
  arg : RB W pa l
  gb : GB W
  low : Below w.heap.size w W
  hg : w.heap.size ≤ g
  hg5 : g < b5
theorem CX.grow {w W W' : World} {b5 g : Nat} {pa : Option Addr} {l : List UInt8} (h : CX w b5 g pa l W) (hb : Below W.heap.size W W') : CX w b5 g pa l W' :=
  ⟨h.loan.grow hb, h.bytes.grow hb, h.arg.below hb, h.gb.grow hb, h.low.trans (hb.mono h.low.size), h.hg, h.hg5⟩

theorem psum_n (l : List UInt8) (A : Option Addr) (n c : Nat) (w : World) (hn : n = l.length) (ha : RB w A l) (hcap : n ≤ c) (hl : n ≤ 35184372088832) (hG : GB w) :
    Calls Tryd.prog 19 #[.slice A n c] w fun e w' => e = .returned (.agg ((sumf l).map bv).toArray) ∧ Below w.heap.size w w' := by
  subst hn; exact psum_any l A c w ha hcap hl hG
theorem rsum_n (l : List UInt8) (A : Option Addr) (n c : Nat) (w : World) (hn : n = l.length) (ha : RB w A l) (hl : n ≤ 35184372088832) :
    Calls Tryd.prog 21 #[.slice A n c] w fun e w' => e = .returned (.agg ((sumf l).map bv).toArray) ∧ Below w.heap.size w w' := by
  subst hn; exact rsum_any l A c w ha hl

set_option maxHeartbeats 3200000 in
set_option maxRecDepth 40000 in
theorem law_any (A : Option Addr) (c : Nat) (rs : List Row) (w : World) (hr : RV w A (rs.flatMap Row.cells)) (hp : ∀ r ∈ rs, r.ok w) (hl : rs.length ≤ 1048576) (hG : GB w) :
    Calls Tryd.prog 4 #[.slice A rs.length c] w fun e w' => e = .returned (.bool true) ∧ Below w.heap.size w w' := by
  have HR := Lib.hid hr
  have HP := Lib.hid hp
  have HG := Lib.hid hG
  clear hr hp hG
  have hidx := abc_index
  have kc := fun (w : World) (C : Array Value) (n c : Nat) => Lib.run_convert_bytes_const (P := Tryd.prog) w 32 5 C n c Tryd.underlying32 Tryd.underlying5
  obtain ⟨d0, hd0⟩ : ∃ d, d = (sumf [97, 98, 99]).map bv := ⟨_, rfl⟩
  rw [← hd0] at hidx
  have HD0 := Lib.hid hd0
  clear hd0
  have hll : (rs.length : Int) ≤ 9223372036854775807 := by omega
  go_enter Tryd.func4, Tryd.ntmps4
  go_wp2_with (first
    | (go_at_call 19; go_must (refine (psum_any [97, 98, 99] _ _ _ ((rvm_new w [bv 97, bv 98, bv 99] _ _).rb' [97, 98, 99] rfl) (by decide) (by decide) (HG.out.grow (ga (gr w) _))).mono ?_); rintro e w1 ⟨he, hb1⟩; rw [← HD0.out] at he; subst he))
  have hb0 : Below w.heap.size w w1 := gt (ga (gr w) _) hb1
  have HX := Lib.hid hb0
  clear hb0 hb1 kc hidx HD0
  go_loopw [17] (fun i wr => ∃ k : Nat, k ≤ rs.length ∧ i = .int .i64 k ∧ Below w.heap.size w wr) (fun i _ => rs.length - (intOf i).toNat)
  case atStart => exact ⟨0, by omega, rfl, HX.out⟩
  case round =>
    clear HX
    obtain ⟨k, hk, rfl, hb⟩ := hrel
    by_cases hlt : k < rs.length
    -- A>
    · have hlen : k < (rs.flatMap Row.cells).length := by rw [rows_map, List.length_map]; exact hlt
      obtain ⟨ad, hA, hc⟩ := HR.out k hlen
      obtain ⟨r, hrr⟩ : ∃ r, r = rs[k] := ⟨_, rfl⟩
      have hcell : wr.cell? (ad.add k) = some (.slice r.A r.l.length r.c) := (HR.out.below hb).cells hA k _ (by rw [rows_map, List.getElem?_map, List.getElem?_eq_getElem hlt, hrr]; rfl)
      subst hA
      have hok : r.ok wr := (HP.out r (by rw [hrr]; exact List.getElem_mem _)).below hb
      have hGr : GB wr := HG.out.grow hb
      have hlt' : (k : Int) < (rs.length : Int) := by omega
      have h0k : (0 : Int) ≤ (k : Int) := by omega
      obtain ⟨l, hll⟩ : ∃ l, l = r.l := ⟨_, rfl⟩
      rw [← hll] at hcell
      obtain ⟨pa, ca, l'⟩ := r
      simp only at hll hcell
      subst hll
      have hok' : l.length ≤ 1048576 := hok.2.2
      have hneq := dig_eql l
      have heqi := dig_eqi l
      obtain ⟨d, hd⟩ : ∃ d, d = (sumf l).map bv := ⟨_, rfl⟩
      have hneq2 := dig_eql (turned l l.length)
      have heqi2 := dig_eqi (turned l l.length)
      obtain ⟨d2, hd2⟩ : ∃ d, d = (sumf (turned l l.length)).map bv := ⟨_, rfl⟩
      rw [← hd] at hneq heqi
      rw [← hd2] at hneq2 heqi2
      have hdl : d.length = (List.replicate 32 (bv 0)).length := by rw [hd]; simp [sumf_length]
      have hd1 : ∀ v ∈ d, v.oneCell' = true := by rw [hd]; exact bytes_oneCell _
      have HD := Lib.hid (And.intro hd hd2)
      have HOK := Lib.hid (And.intro hok (And.intro hGr hb))
      clear hc hok hGr hb hd hd2 hrr hlen
      have hlb : l.length ≤ 1048576 := hok'
      go_upto_region 7 with (first
        | (go_at_call 20; go_must (refine (lend_any pa ca l _ HOK.out.1.1 (by omega)).mono ?_); rintro e w2 ⟨g, rfl, hg, hBg, hb2⟩)
        | ((with_reducible show wpList _ _ _ (⟨some 5, _, _, _, _, _⟩ :: _) _ _); go_must (refine wpList_allocB (op := ⟨some 5, _, _, _, _, _⟩) A34 rfl rfl w2.heap.size rfl ?_); intro w3 hBw3 hbw3 hzw3)
        | ((with_reducible show wpList _ _ _ (⟨none, .store 34 _ _, _, _, _, _⟩ :: _) _ _); go_must (refine wpList_storeB (op := ⟨none, _, _, _, _, _⟩) A34 rfl _ _ rfl w2.heap.size 0 rfl (lcell g l.length) rfl rfl _ _ hBw3 (Nat.le_refl 2) (lcell_one _ _) ?_); intro w4 hBw4 hgw4 hzw4))
      obtain ⟨b5, hb5⟩ : ∃ b, b = w2.heap.size := ⟨_, rfl⟩
      rw [← hb5] at hBw4 ⊢
      have X : CX w b5 g pa l w4 := by
        have hb24 : Below w2.heap.size w2 w4 := (gt hbw3 (gr _)).grown hgw4 (by have := hbw3.size; omega) (fun j hj => by simp at hj; omega)
        have h04 := gt hb2 hb24
        exact ⟨by rw [splice_all [.slice none 0 0, .int .i64 0] (lcell g l.length) rfl] at hBw4; exact hBw4, hBg.grow hb24, HOK.out.1.1.below h04, HOK.out.2.1.grow h04, HOK.out.2.2.trans (h04.mono HOK.out.2.2.size), Nat.le_trans HOK.out.2.2.size hg, by rw [hb5]; exact hBg.lt⟩
      have HX := Lib.hid X
      clear X hg hBg hb2 hBw3 hbw3 hzw3 hBw4 hgw4 hzw4 hb5
      go_upto_region 8 with (first
        | (go_at_call 21; go_must (refine (rsum_any l pa ca _ HX.out.arg (by omega)).mono ?_); rintro e w5 ⟨he, hb5⟩; rw [← HD.out.1] at he; subst he)
        | ((with_reducible show wpList _ _ _ (⟨some 6, _, _, _, _, _⟩ :: _) _ _); go_must (refine wpList_allocB (op := ⟨some 6, _, _, _, _, _⟩) A30 rfl rfl w5.heap.size rfl ?_); intro w6 hBw6 hbw6 hzw6)
        | ((with_reducible show wpList _ _ _ (⟨none, .store 30 _ _, _, _, _, _⟩ :: _) _ _); go_must (refine wpList_storeB (op := ⟨none, _, _, _, _, _⟩) A30 rfl _ _ rfl w5.heap.size 0 rfl d rfl hdl _ _ hBw6 (Nat.le_of_eq ((Nat.zero_add _).trans hdl)) hd1 ?_); intro w7 hBw7 hgw7 hzw7))
      obtain ⟨b6, hb6⟩ : ∃ b, b = w5.heap.size := ⟨_, rfl⟩
      rw [splice_all _ _ hdl, ← hb6] at hBw7
      rw [← hb6]
      have h47 : Below w4.heap.size w4 w7 := gst hb5 hbw6 hgw7 hb5.size
      replace HX := Lib.hid (And.intro (HX.out.grow h47) hBw7)
      clear hb5 hBw6 hbw6 hzw6 hBw7 hgw7 hzw7 hb6 h47
      go_upto_region 9 with (first
        | (go_at_call 22; go_must (refine (in_any (some ⟨g, 0, none⟩) (l.length + 200) (l.length + 200) l.length _ (by omega) (by unfold maxLen; omega)).mono ?_); rintro e w8 ⟨rfl, hb8⟩)
        | (go_at_call 19; go_must (refine (psum_any l (some ⟨g, 0, none⟩) (l.length + 200) _ (marked_rb (HX.out.1.grow hb8).bytes) (by omega) (by omega) (HX.out.1.grow hb8).gb).mono ?_); rintro e w9 ⟨he, hb9⟩; rw [← HD.out.1] at he; subst he)
        | ((with_reducible show wpList _ _ _ (⟨some 25, _, _, _, _, _⟩ :: _) _ _); go_must (refine wpList_loadB (op := ⟨some 25, _, _, _, _, _⟩) A34 rfl _ rfl b5 0 rfl _ _ HX.out.1.loan (lcell g l.length) rfl rfl ?_))
        | ((with_reducible show wpList _ _ _ (⟨some 7, _, _, _, _, _⟩ :: _) _ _); go_must (refine wpList_allocB (op := ⟨some 7, _, _, _, _, _⟩) A30 rfl rfl w9.heap.size rfl ?_); intro w10 hBw10 hbw10 hzw10)
        | ((with_reducible show wpList _ _ _ (⟨none, .store 30 _ _, _, _, _, _⟩ :: _) _ _); go_must (refine wpList_storeB (op := ⟨none, _, _, _, _, _⟩) A30 rfl _ _ rfl w9.heap.size 0 rfl d rfl hdl _ _ hBw10 (Nat.le_of_eq ((Nat.zero_add _).trans hdl)) hd1 ?_); intro w11 hBw11 hgw11 hzw11))
      obtain ⟨b7, hb7⟩ : ∃ b, b = w9.heap.size := ⟨_, rfl⟩
      rw [splice_all _ _ hdl, ← hb7] at hBw11
      rw [← hb7]
      have h711 : Below w7.heap.size w7 w11 := gst (gt hb8 hb9) hbw10 hgw11 (by have := hb8.size; have := hb9.size; omega)
      replace HX := Lib.hid (And.intro (HX.out.1.grow h711) (And.intro (HX.out.2.grow h711) hBw11))
      clear hb8 hb9 hBw10 hbw10 hzw10 hBw11 hgw11 hzw11 hb7 h711
      go_upto_region 10 with (first
        | (go_at_call 22; go_must (refine (in_any (some ⟨g, 0, none⟩) (l.length + 200) (l.length + 200) l.length _ (by omega) (by unfold maxLen; omega)).mono ?_); rintro e w12 ⟨rfl, hb12⟩)
        | (go_at_call 19; go_must (refine (psum_any l (some ⟨g, 0, none⟩) (l.length + 200) _ (marked_rb (HX.out.1.grow hb12).bytes) (by omega) (by omega) (HX.out.1.grow hb12).gb).mono ?_); rintro e w13 ⟨he, hb13⟩; rw [← HD.out.1] at he; subst he)
        | ((with_reducible show wpList _ _ _ (⟨some 28, _, _, _, _, _⟩ :: _) _ _); go_must (refine wpList_loadB (op := ⟨some 28, _, _, _, _, _⟩) A34 rfl _ rfl b5 0 rfl _ _ HX.out.1.loan (lcell g l.length) rfl rfl ?_))
        | ((with_reducible show wpList _ _ _ (⟨some 8, _, _, _, _, _⟩ :: _) _ _); go_must (refine wpList_allocB (op := ⟨some 8, _, _, _, _, _⟩) A30 rfl rfl w13.heap.size rfl ?_); intro w14 hBw14 hbw14 hzw14)
        | ((with_reducible show wpList _ _ _ (⟨none, .store 30 _ _, _, _, _, _⟩ :: _) _ _); go_must (refine wpList_storeB (op := ⟨none, _, _, _, _, _⟩) A30 rfl _ _ rfl w13.heap.size 0 rfl d rfl hdl _ _ hBw14 (Nat.le_of_eq ((Nat.zero_add _).trans hdl)) hd1 ?_); intro w15 hBw15 hgw15 hzw15))
      obtain ⟨b8, hb8⟩ : ∃ b, b = w13.heap.size := ⟨_, rfl⟩
      rw [splice_all _ _ hdl, ← hb8] at hBw15
      rw [← hb8]
      have h1115 : Below w11.heap.size w11 w15 := gst (gt hb12 hb13) hbw14 hgw15 (by have := hb12.size; have := hb13.size; omega)
      replace HX := Lib.hid (And.intro (HX.out.1.grow h1115) (And.intro (HX.out.2.1.grow h1115) (And.intro (HX.out.2.2.grow h1115) hBw15)))
      clear hb12 hb13 hBw14 hbw14 hzw14 hBw15 hgw15 hzw15 hb8 h1115
      go_wp2_with (first
        | (go_at_call 23; go_must (refine (whole_any g (l.length + 200) l mtail pa ca l _ HX.out.1.bytes (by rw [List.length_append, mtail_length]) (by unfold maxLen; omega) marked_tail HX.out.1.arg (by unfold maxLen; omega)).mono ?_); rintro e w16 ⟨rfl, hb16⟩)
        | (go_at_call 24; go_must (refine (spoil_any g (l.length + 200) l mtail _ (HX.out.1.grow hb16).bytes (by omega) (by unfold maxLen; omega)).mono ?_); rintro e w17 ⟨rfl, hB17, hg17⟩; have hlo17 := (HX.out.1.grow hb16).low.grown hg17 (HX.out.1.grow hb16).low.size (fun j hj => by simp at hj; have := HX.out.1.hg; omega); have hGB17 : GB w17 := HG.out.below hlo17 HG.out.2)
        | (go_at_call 19; go_must (refine (psum_n (turned l l.length) (some ⟨g, 0, none⟩) l.length (l.length + 200) _ (turned_length l _).symm (marked_rb hB17) (by omega) (by omega) hGB17).mono ?_); rintro e w18 ⟨he, hb18⟩; rw [← HD.out.2] at he; subst he)
        | (go_at_call 21; go_must (refine (rsum_n (turned l l.length) (some ⟨g, 0, none⟩) l.length (l.length + 200) _ (turned_length l _).symm ((marked_rb hB17).below hb18) (by omega)).mono ?_); rintro e w19 ⟨he, hb19⟩; rw [← HD.out.2] at he; subst he)
        | ((with_reducible show wpList _ _ _ (⟨some 31, _, _, _, _, _⟩ :: _) _ _); go_must (refine wpList_loadB (op := ⟨some 31, _, _, _, _, _⟩) A30 rfl _ rfl b7 0 rfl _ _ HX.out.2.2.1 d ((congrArg (List.take _) List.drop_zero).trans (List.take_of_length_le (Nat.le_of_eq hdl))) hdl ?_))
        | ((with_reducible show wpList _ _ _ (⟨some 32, _, _, _, _, _⟩ :: _) _ _); go_must (refine wpList_loadB (op := ⟨some 32, _, _, _, _, _⟩) A30 rfl _ rfl b6 0 rfl _ _ HX.out.2.1 d ((congrArg (List.take _) List.drop_zero).trans (List.take_of_length_le (Nat.le_of_eq hdl))) hdl ?_))
        | ((with_reducible show wpList _ _ _ (⟨some 35, _, _, _, _, _⟩ :: _) _ _); go_must (refine wpList_loadBg (op := ⟨some 35, _, _, _, _, _⟩) A30 rfl _ rfl b8 0 rfl _ _ HX.out.2.2.2 d ((congrArg (List.take _) List.drop_zero).trans (List.take_of_length_le (Nat.le_of_eq hdl))) hdl ?_))
        | ((with_reducible show wpList _ _ _ (⟨some 36, _, _, _, _, _⟩ :: _) _ _); go_must (refine wpList_loadBg (op := ⟨some 36, _, _, _, _, _⟩) A30 rfl _ rfl b6 0 rfl _ _ HX.out.2.1 d ((congrArg (List.take _) List.drop_zero).trans (List.take_of_length_le (Nat.le_of_eq hdl))) hdl ?_))
        | ((with_reducible show wpList _ _ _ (⟨some 40, _, _, _, _, _⟩ :: _) _ _); go_must (refine wpList_loadBg (op := ⟨some 40, _, _, _, _, _⟩) A34 rfl _ rfl b5 0 rfl _ _ HX.out.1.loan (lcell g l.length) rfl rfl ?_))
        | ((with_reducible show wpList _ _ _ (⟨some 45, _, _, _, _, _⟩ :: _) _ _); go_must (refine wpList_loadB (op := ⟨some 45, _, _, _, _, _⟩) A34 rfl _ rfl b5 0 rfl _ _ (HX.out.1.grow hb16).loan (lcell g l.length) rfl rfl ?_)))
      have hlow : Below w.heap.size w w19 := (hlo17.trans (hb18.mono hlo17.size)).trans (hb19.mono (by have := hlo17.size; have := hb18.size; omega))
      exact ⟨⟨k + 1, by omega, by go_num, hlow⟩, by simp [intOf]; omega⟩
    -- <A
    · obtain rfl : k = rs.length := by omega
      go_wp2
      go_ret
      exact ⟨rfl, hb⟩
end Go.Proofs.YtoemceehmiaigaaDoor.LawSums
