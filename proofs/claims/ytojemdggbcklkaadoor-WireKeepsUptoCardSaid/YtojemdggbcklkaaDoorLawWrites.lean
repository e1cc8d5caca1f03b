/- weirlaw28.WireWrites: the walk. -/
import Derived.Test.YtojemdggbcklkaaDoorWWrite
import Derived.Lib.SlBytesConst
namespace Go.Proofs.YtojemdggbcklkaaDoor.WireW
open Go.RowKit Go.Proofs.YtojemdggbcklkaaDoor.Mem Go.Proofs.YtojemdggbcklkaaDoor.Wire
set_option linter.unusedVariables false
set_option linter.unusedSimpArgs false
set_option maxRecDepth 8000

theorem dec404 : Lib.decDigits 404 = [52, 48, 52] := by
  have h1 : Lib.decDigits 404 = Lib.decDigits 40 ++ Lib.decDigits 4 := dec_big (n := 404) (by decide)
  have h2 : Lib.decDigits 40 = Lib.decDigits 4 ++ Lib.decDigits 0 := dec_big (n := 40) (by decide)
  rw [h1, h2, dec_small (n := 4) (by decide), dec_small (n := 0) (by decide)]
  rfl
theorem dec2 : Lib.decDigits 2 = [50] := by rw [dec_small (by decide)]; rfl
def wPlain : List UInt8 := [72, 84, 84, 80, 47, 49, 46, 49, 32, 52, 48, 52, 32, 78, 111, 116, 32, 70, 111, 117, 110, 100, 13, 10, 67, 111, 110, 116, 101, 110, 116, 45, 84, 121, 112, 101, 58, 32, 97, 112, 112, 108, 105, 99, 97, 116, 105, 111, 110, 47, 106, 115, 111, 110, 13, 10, 67, 111, 110, 116, 101, 110, 116, 45, 76, 101, 110, 103, 116, 104, 58, 32, 50, 13, 10, 13, 10, 123, 125]
theorem write404 : writeS 404 [123, 125] false = wPlain := by
  unfold writeS
  rw [show statN 404 = 404 from rfl, show ([123, 125] : List UInt8).length = 2 from rfl, dec404, dec2]
  rfl
theorem OwnB.conv {w : World} {B : Nat} {v : Value} {l : List UInt8} (h : OwnB w B 5 v l) : ∃ A c, v = .slice A l.length c ∧ RB w A l ∧ (convert 22 9 (.slice A l.length c)).run Tryd.prog w = .ok (.string ⟨l.toArray⟩) w := by
  obtain ⟨A, c, rfl, hr⟩ := h.rb
  exact ⟨A, c, rfl, hr, conv_rb (P := Tryd.prog) Tryd.underlying22 Tryd.underlying5 Tryd.underlying9 hr c⟩
theorem wpList_bconst {W : World} {ops : Array Oper} {rest : List Oper} {o : Oper} {a : Act} {Q : Exit → Act → World → Prop} (hgd : o.guard = none) (x : Operand) (ho : o.op = .convert 22 22 x) {n c : Nat} (hx : a.eval x = .slice (some ⟨W.heap.size, 0, none⟩) n c) (l : List UInt8) {C : Array Value} (hC : C = (l.map bv).toArray)
    (h : ∀ w', RB w' (some ⟨W.heap.size, 0, none⟩) l → Below W.heap.size W w' → wpList Tryd.prog ops Q rest (a.put o.dst (.slice (some ⟨W.heap.size, 0, none⟩) n c)) w') : wpList Tryd.prog ops Q (o :: rest) a (W.alloc (.cells C 5)) := by
  subst hC
  have hr := Lib.run_convert_bytes_const (P := Tryd.prog) W 22 5 (l.map bv).toArray n c Tryd.underlying22 Tryd.underlying5
  refine wpList_plain hgd fun K hK => ?_
  unfold Oper.wp execOp
  simp only [ho, hx, hr, Sem.run_bind, Sem.run_pure, Result.andThen]
  refine hK _ _ (h _ (fun k hk => ⟨_, rfl, ?_⟩) (ga (gr W) _))
  have hc := World.cell?_alloc_mark W (l.map bv).toArray 5 ((l.map bv).toArray.size, (l.map bv).toArray.size + 1) k
  rw [add_none, Nat.zero_add, hc]
  simp [List.getElem?_eq_getElem hk]
theorem wpList_neqS {w : World} {ops : Array Oper} {rest : List Oper} {o : Oper} {a : Act} {Q : Exit → Act → World → Prop} (hgd : o.guard = none) (x y : Operand) {t' : TypeId} (ho : o.op = .binOp .neq 9 x y t') {s : ByteArray} (hx : a.eval x = .string s) (hy : a.eval y = .string s)
    (h : wpList Tryd.prog ops Q rest (a.put o.dst (.bool false)) w) : wpList Tryd.prog ops Q (o :: rest) a w := by
  refine wpList_plain hgd fun K hK => ?_
  unfold Oper.wp
  have hr : (execOp a.eval o).run Tryd.prog w = .ok (.value (.bool false)) w := by
    simp only [execOp, ho, hx, hy]
    go_simp
  rw [hr]
  exact hK _ _ h
set_option maxHeartbeats 3200000 in
theorem law_writes (z : Int) (A : Option Addr) (n c : Nat) (l : List UInt8) (cl : Bool) (w : World) (hr : RB w A l) (hn : n = l.length) (hl : n ≤ 1073741824) (hG : GT w) :
    Calls Tryd.prog 3 #[.agg #[.int .i64 z, .slice A n c, .bool cl]] w fun e w' => e = .returned (.bool true) ∧ Below w.heap.size w w' := by
  have H0 := Lib.hid (And.intro hr (And.intro hn hG))
  clear hr hn hG
  go_enter Tryd.func3, Tryd.ntmps3
  obtain ⟨K, hK⟩ : ∃ K, K = wPlain := ⟨_, rfl⟩
  have c4 := fun w A h hG => write_any 404 A 2 2 [123, 125] false w h rfl (by omega) hG
  rw [write404, ← hK] at c4
  have C4 := Lib.hid c4
  have HK := Lib.hid hK
  clear c4 hK
  go_upto_region 3 with (first
    | ((with_reducible show wpList _ _ _ (⟨some 5, _, _, _, _, _⟩ :: _) _ _)
       go_must (refine wpList_bconst (o := ⟨some 5, _, _, _, _, _⟩) rfl (.tmp 4) rfl (n := 2) (c := 2) (by simp [Act.eval]) [123, 125] rfl ?_)
       intro w1 hr1 hb1
       have hz0 : (w.alloc (.cells #[.int .i64 z, .slice A n c, .bool cl] 24)).heap.size = w.heap.size + 1 := by simp
       rw [hz0] at hr1
       have G1 := Lib.hid (And.intro (H0.out.2.2.below (gt (ga (gr w) _) hb1)) (And.intro hr1 (gt (ga (gr w) _) hb1)))
       have B1 := Lib.hid ((Blk.new w 24 [.int .i64 z, .slice A n c, .bool cl]).grow hb1)
       clear hz0 hr1 hb1)
    | (go_at_call 12; go_must (refine (C4.out w1 _ G1.out.2.1 G1.out.1).mono ?_); rintro e w2 ⟨v2, rfl, ho2, hb2⟩
       obtain ⟨A2, c2, rfl, _, kc⟩ := OwnB.conv ho2
       clear ho2)
    | ((with_reducible show wpList _ _ _ (⟨some 9, _, _, _, _, _⟩ :: _) _ _)
       go_must (refine wpList_neqS (o := ⟨some 9, _, _, _, _, _⟩) rfl (.tmp 8) _ rfl (s := ⟨K.toArray⟩) rfl (by rw [HK.out]; rfl) ?_)))
  have B2 := Lib.hid (B1.out.grow hb2)
  have D2 := Lib.hid (gt G1.out.2.2 hb2)
  obtain ⟨X, hX⟩ : ∃ X, X = writeS z l cl := ⟨_, rfl⟩
  have cR := fun w h => rwrite_any z A n c l cl w h H0.out.2.1 hl
  have cP := fun w h hG => write_any z A n c l cl w h H0.out.2.1 hl hG
  rw [← hX] at cR cP
  have C := Lib.hid (And.intro cR cP)
  have q0 := B2.out.cell 0
  have q1 := B2.out.cell 1
  have q2 := B2.out.cell 2
  simp only [List.getElem?_cons_zero, List.getElem?_cons_succ] at q0 q1 q2
  clear G1 B1 C4 HK kc hb2 cR cP hX
  go_upto_region 4 with (first
    | (go_at_call 13; go_must (refine (C.out.1 w2 (H0.out.1.below D2.out)).mono ?_); rintro e w3 ⟨v3, rfl, ho3, hb3⟩
       obtain ⟨A3, c3, rfl, _, kc3⟩ := OwnB.conv ho3
       clear ho3))
  replace q0 := cell_grow q0 hb3
  replace q1 := cell_grow q1 hb3
  replace q2 := cell_grow q2 hb3
  have D3 := Lib.hid (gt D2.out hb3)
  clear kc3 hb3 D2 B2
  go_wp2_with (first
    | (go_at_call 12; go_must (refine (C.out.2 w3 (H0.out.1.below D3.out) (H0.out.2.2.below D3.out)).mono ?_); rintro e w4 ⟨v4, rfl, ho4, hb4⟩
       obtain ⟨A4, c4, rfl, _, kc4⟩ := OwnB.conv ho4
       clear ho4))
  go_ret
  exact ⟨rfl, gt D3.out hb4⟩
end Go.Proofs.YtojemdggbcklkaaDoor.WireW
