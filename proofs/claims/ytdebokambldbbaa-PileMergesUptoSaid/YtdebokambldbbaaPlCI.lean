/- pile over I: things made and stored; New, Len, Push. -/
import Derived.Test.YtdebokambldbbaaPlBI
import Derived.Test.YtdebokambldbbaaRgF
namespace Go.Proofs.Ytdebokambldbbaa.PileI
open Go.RowKit Go.Proofs.Ytdebokambldbbaa.Mem Go.Proofs.Ytdebokambldbbaa.Heap Go.Proofs.Ytdebokambldbbaa.Pile Go.Proofs.Ytdebokambldbbaa.Float
set_option linter.unusedVariables false

section
variable {β : Type} {th : Th β 2}
theorem vl_cells (b : β) : (vl th b).cells = (th.cells b).toArray := by
  rfl
theorem cells_lit (b : β) : ∃ x x1, th.cells b = [x, x1] := by
  have h := th.len b
  match th.cells b, h with
  | [x, x1], _ => exact ⟨x, x1, rfl⟩
theorem buildE (b : β) (nx : Nat) (w : World) {ρ : Operand → Value} {o : Oper} {x y : Operand} (ho : o.op = .build 79 #[(0, x), (1, y)]) (hx : ρ x = vl th b) (hy : ρ y = .int .u64 nx) :
    (execOp ρ o).run Try.prog w = .ok (.value (.agg (ec th (b, nx)).toArray)) w := by
  have hc := vl_cells (th := th) b
  obtain ⟨u, u1, hl⟩ := cells_lit (th := th) b
  have hr : (Instr.build 79 #[(0, vl th b), (1, .int .u64 nx)]).run Try.prog w = .ok (.agg (ec th (b, nx)).toArray) w := by
    unfold ec
    have hv : vl th b = .agg #[u, u1] := by unfold vl; rw [hl]
    rw [hl, hv]
    clear hc
    clear hx hy hl
    obtain ⟨iE, hE, hEz, _⟩ := AE.info
    have sT : (Try.prog.info? 35).map (·.size) = some 2 := by kernel_rfl
    have sU : (Try.prog.info? 75).map (·.size) = some 1 := by kernel_rfl
    cases hT : Try.prog.info? 35 with
    | none => rw [hT] at sT; cases sT
    | some iT =>
    cases hU : Try.prog.info? 75 with
    | none => rw [hU] at sU; cases sU
    | some iU =>
    rw [hT] at sT
    rw [hU] at sU
    simp only [Option.map_some, Option.some.injEq] at sT sU
    simp [Instr.build, Instr.fill, zeroValue, typeInfo, sizeOf, go_sem, List.zipIdx, Value.cells, hE, hEz, hT, hU, sT, sU]
  simp [execOp, ho, hx, hy, hr, Result.andThen]

theorem run_boxT {ρ : Operand → Value} {w : World} {o : Oper} (x : Operand) (ho : o.op = .box 35 x) (b : β) (hx : ρ x = vl th b) : (execOp ρ o).run Try.prog w = .ok (.value (.pointer (some ⟨w.heap.size, 0, none⟩))) (w.alloc (.cells (th.cells b).toArray 35)) := by
  simp only [execOp, ho, hx]
  simp [go_sem]
  rw [← vl_cells b]
  rfl
theorem wpList_boxT {w : World} {ops : Array Oper} {rest : List Oper} {o : Oper} {a : Act} {Q : Exit → Act → World → Prop} (hgd : o.guard = none) (x : Operand) (ho : o.op = .box 35 x) (b : β) (hx : a.eval x = vl th b) (H : Nat) (hH : w.heap.size = H)
    (h : ∀ w', Blk w' H 35 (th.cells b) → Below H w w' → w'.heap.size = H + 1 → wpList Try.prog ops Q rest (a.put o.dst (.pointer (some ⟨H, 0, none⟩))) w') : wpList Try.prog ops Q (o :: rest) a w := by
  subst hH
  refine wpList_plain hgd fun K hK => ?_
  unfold Oper.wp
  rw [run_boxT x ho b hx]
  exact hK _ _ (h _ (Blk.new w _ _) ((Below.refl _ _).alloc (Nat.le_refl _) _) (by simp))
theorem infoT : (Try.prog.info? 35).map (fun i => (i.zero, i.size)) = some (some (.agg ([.int .i64 0, .int .i64 0] : List Value).toArray), 2) := by kernel_rfl
theorem run_allocT {ρ : Operand → Value} {w : World} {o : Oper} (ho : o.op = .alloc 35) : (execOp ρ o).run Try.prog w = .ok (.value (.pointer (some ⟨w.heap.size, 0, none⟩))) (w.alloc (.cells ([.int .i64 0, .int .i64 0] : List Value).toArray 35)) := by
  have hi := infoT
  cases hq : Try.prog.info? 35 with
  | none => rw [hq] at hi; cases hi
  | some i =>
    rw [hq] at hi
    simp only [Option.map_some, Option.some.injEq, Prod.mk.injEq] at hi
    simp [execOp, ho, go_sem, zeroValue, typeInfo, hq, hi.1, Value.cells]
theorem wpList_allocT {w : World} {ops : Array Oper} {rest : List Oper} {o : Oper} {a : Act} {Q : Exit → Act → World → Prop} (hgd : o.guard = none) (ho : o.op = .alloc 35) (H : Nat) (hH : w.heap.size = H)
    (h : ∀ w', Blk w' H 35 [.int .i64 0, .int .i64 0] → Below H w w' → w'.heap.size = H + 1 → wpList Try.prog ops Q rest (a.put o.dst (.pointer (some ⟨H, 0, none⟩))) w') : wpList Try.prog ops Q (o :: rest) a w := by
  subst hH
  refine wpList_plain hgd fun K hK => ?_
  unfold Oper.wp
  rw [run_allocT ho]
  exact hK _ _ (h _ (Blk.new w _ _) ((Below.refl _ _).alloc (Nat.le_refl _) _) (by simp))
theorem wpList_loadT {w : World} {ops : Array Oper} {rest : List Oper} {o : Oper} {a : Act} {Q : Exit → Act → World → Prop} (hgd : o.guard = none) (x : Operand) (ho : o.op = .load 35 x) (g off : Nat) (hx : a.eval x = .pointer (some ⟨g, off, none⟩)) (T : TypeId) (cs : List Value) (hB : Blk w g T cs) (b : β) (hv : (cs.drop off).take 2 = th.cells b)
    (h : wpList Try.prog ops Q rest (a.put o.dst (vl th b)) w) : wpList Try.prog ops Q (o :: rest) a w :=
  wpList_val hgd (by simp [execOp, ho, hx, loadT hB hv, Result.andThen]) h
theorem whole_of (b : β) : ((th.cells b).drop 0).take 2 = th.cells b := by rw [List.drop_zero, List.take_of_length_le (by rw [th.len]; exact Nat.le_refl _)]
theorem run_storeT {w : World} {g : Nat} {cs : List Value} {b : β} (hB : Blk w g 35 cs) (hl : cs.length = 2) : ∃ w', (Instr.storeAt 35 (.pointer (some ⟨g, 0, none⟩)) (vl th b)).run Try.prog w = .ok () w' ∧ Blk w' g 35 (th.cells b) ∧ w.grownBy w' (some g) ∧ w'.heap.size = w.heap.size := by
  obtain ⟨h2, h3⟩ := setCells_grown g (th.cells b) 0 w
  have h4 := Blk.setCells (th.cells b) 0 cs hB (by rw [th.len, hl]; exact Nat.le_refl _)
  rw [splice_all _ _ (by rw [th.len, hl])] at h4
  refine ⟨_, ?_, h4, h2, h3⟩
  exact run_storeAt_mid w g 0 35 (th.cells b).toArray (by simpa [th.len] using hB.there 0 2 (by rw [hl]; exact Nat.le_refl _)) (by rw [AT.size]; simp [th.len]) (all_oneCell_toArray (th.one b))
theorem wpList_storeT {w : World} {ops : Array Oper} {rest : List Oper} {o : Oper} {a : Act} {Q : Exit → Act → World → Prop} (hgd : o.guard = none) (x y : Operand) (ho : o.op = .store 35 x y) (g : Nat) (hx : a.eval x = .pointer (some ⟨g, 0, none⟩)) (b : β) (hy : a.eval y = vl th b) (cs : List Value) (hB : Blk w g 35 cs) (hl : cs.length = 2)
    (h : ∀ w', Blk w' g 35 (th.cells b) → w.grownBy w' (some g) → w'.heap.size = w.heap.size → wpList Try.prog ops Q rest (a.put o.dst undef) w') : wpList Try.prog ops Q (o :: rest) a w := by
  obtain ⟨w', hr, h1, h2, h3⟩ := run_storeT (th := th) (b := b) hB hl
  refine wpList_plain hgd fun K hK => ?_
  unfold Oper.wp
  have : (execOp a.eval o).run Try.prog w = .ok .skip w' := by simp [execOp, ho, hx, hy, hr, Result.andThen]
  rw [this]
  exact hK _ _ (h w' h1 h2 h3)
end
section
variable {β : Type} [Inhabited β] {th : Th β 2} {B p : Nat} {v fv : Value} {es : List (β × Nat)} {nx : Nat}
set_option linter.unusedSectionVars false
set_option maxRecDepth 4000
set_option maxHeartbeats 1600000
theorem len_any (W : World) (h : PlK th W B p v fv es nx) : Calls Try.prog 19 #[.pointer (some ⟨p, 0, none⟩)] W fun e W' => e = .returned (.int .i64 es.length) ∧ Below W.heap.size W W' := by
  obtain ⟨A, c, rfl, hc⟩ := h.slice
  obtain ⟨n, hn⟩ : ∃ n, n = es.length := ⟨_, rfl⟩
  rw [← hn] at h hc ⊢
  have c1 : W.cell? ⟨p, 1, none⟩ = some (.slice A n c) := h.blk.cell 1
  clear h hn
  go_enter Try.func19, Try.ntmps19
  go_wp2
  go_ret
  exact ⟨rfl, gr W⟩
theorem new_any (W : World) (fv : Value) (g : Nat) (lb : Array Value) (hf : fv = .func (.func g) #[] lb) : Calls Try.prog 25 #[fv] W fun e W' => e = .returned (.pointer (some ⟨W.heap.size, 0, none⟩)) ∧ PlK th W' W.heap.size W.heap.size (.slice none 0 0) fv [] 0 ∧ Below W.heap.size W W' := by
  subst hf
  have hq : ∀ w, (binOp BinOp.eql 50 (.func (.func g) #[] lb) .nilFunc).run Try.prog w = .ok (.bool false) w := fun w => rfl
  go_enter Try.func25, Try.ntmps25
  go_wp2
  go_ret
  exact ⟨rfl, ⟨Blk.new W _ [_, _, _], World.ownsRow_nil _ _ _ _, by simp [Value.ownBlock]⟩, ga (gr W) _⟩
theorem new_nil (W : World) : Calls Try.prog 25 #[.nilFunc] W fun e W' => e = .returned (.pointer (some ⟨W.heap.size, 0, none⟩)) ∧ PlK th W' W.heap.size W.heap.size (.slice none 0 0) (.func (.func 48) #[] #[]) [] 0 ∧ Below W.heap.size W W' := by
  have hq : ∀ w, (binOp BinOp.eql 50 .nilFunc .nilFunc).run Try.prog w = .ok (.bool true) w := fun w => rfl
  go_enter Try.func25, Try.ntmps25
  go_wp2
  go_ret
  exact ⟨rfl, ⟨Blk.new W _ [_, _, _], World.ownsRow_nil _ _ _ _, by simp [Value.ownBlock]⟩, ga (gr W) _⟩
theorem flat_less {w0 : World} {D : β → Prop} : Less Try.prog B w0 (vl th) D (.func (.func 48) #[] #[]) (fun _ _ => false) := by
  refine ⟨48, #[], rfl, enters_of Try.func48 (by kernel_rfl) rfl, fun W a b _ _ _ => ?_⟩
  simp only [Array.append_empty]
  go_enter Try.func48, Try.ntmps48
  go_wp2_with (first
    | ((with_reducible show wpList _ _ _ (⟨some 2, _, _, _, _, _⟩ :: _) _ _); go_must (refine wpList_boxT (th := th) (o := ⟨some 2, _, _, _, _, _⟩) rfl (.tmp 0) rfl a (by go_simp) _ rfl ?_); intro w1 hB1 hb1 hz1)
    | ((with_reducible show wpList _ _ _ (⟨some 3, _, _, _, _, _⟩ :: _) _ _); go_must (refine wpList_boxT (th := th) (o := ⟨some 3, _, _, _, _, _⟩) rfl (.tmp 1) rfl b (by go_simp) _ rfl ?_); intro w2 hB2 hb2 hz2))
  go_ret
  exact ⟨rfl, gt hb1 hb2⟩
set_option maxHeartbeats 3200000 in
theorem push_any {w0 : World} {D : β → Prop} {lt : β → β → Bool} (W : World) (h : PlK th W B p v fv es nx) (hL : Less Try.prog B w0 (vl th) D fv lt) (hw : Below B w0 W) (hB : B ≤ W.heap.size) (hBp : B ≤ p) (hD : ∀ e ∈ es, D e.1) (y : β) (hy : D y) (hn : es.length < 1152921504606846976) (hnx : nx < 1152921504606846976)
    (hbytes : es.length + 1 ≤ 1099511627776) :
    Calls Try.prog 14 #[.pointer (some ⟨p, 0, none⟩), vl th y] W fun e W' => (∃ u, e = .returned u) ∧ ∃ v', PlK th W' B p v' fv (Heap.push (Heap.ahead lt) es (y, nx)) (nx + 1) ∧ Grown2 W W' (some p) v.ownBlock ∧ ∀ g, v'.ownBlock = some g → v.ownBlock = some g ∨ W.heap.size ≤ g := by
  obtain ⟨A, c, rfl, hc⟩ := h.slice
  obtain ⟨n, hn0⟩ : ∃ n, n = es.length := ⟨_, rfl⟩
  rw [← hn0] at h hc hn hbytes
  have H0 := Lib.hid (And.intro h (And.intro hw (And.intro hB (And.intro hBp (And.intro hD (And.intro hy (And.intro hn hnx)))))))
  have HN := Lib.hid hn0
  have HL := Lib.hid hL
  have u1 : IntKind.u64.wrap ((nx : Int) + 1) = (nx : Int) + 1 := by simp [IntKind.wrap, IntKind.bits, IntKind.signed]; omega
  have u2 : ((nx : Int) + 1) % 18446744073709551616 = (nx : Int) + 1 := by omega
  clear h hw hB hBp hD hy hL hn0 hn hnx
  go_enter Try.func14, Try.ntmps14
  go_wp2_with (((with_reducible show wpList _ _ _ (⟨some 3, _, _, _, _, _⟩ :: _) _ _); go_must (refine wpList_boxT (th := th) (o := ⟨some 3, _, _, _, _, _⟩) rfl (.tmp 1) rfl y (by go_simp) _ rfl ?_); intro w1 hB1 hb1 hz1))
  have hbx : ∀ w', Below w1.heap.size w1 w' → Blk w' W.heap.size 35 (th.cells y) := fun w' hb => hB1.grow hb
  clear hz1
  have hP1 : PlK th w1 B p (.slice A n c) fv es nx := H0.out.1.grow hb1
  have cW : ∀ w', Below w1.heap.size w1 w' → w'.cell? ⟨p, 1, none⟩ = some (.slice A n c) := fun w' hb => (hP1.blk.grow hb).cell 1
  have dW : ∀ w', Below w1.heap.size w1 w' → w'.cell? ⟨p, 2, none⟩ = some (.int .u64 nx) := fun w' hb => (hP1.blk.grow hb).cell 2
  have HP1 := Lib.hid hP1
  clear hP1
  try simp only [Act.put, List.setIfInBounds_toArray, List.set_cons_succ, List.set_cons_zero]
  refine wp_region_rrF (fun a b => Below a.heap.size a b) (fun _ _ _ h g => gt h g) (fun _ _ h => h.size) (fun a => (gr a).drew) 0 6 (.pointer (some ⟨p, 0, none⟩)) 12
    [.eq 6 (.pointer (some ⟨p, 0, none⟩)), .eq 7 (.pointer (some ⟨p, 0, none⟩)), .eq 8 (.pointer (some ⟨p, 0, none⟩)), .eq 9 (.pointer (some ⟨p, 1, none⟩)), .eq 10 (.slice A n c), .eq 11 (vl th y), .eq 12 (.pointer (some ⟨p, 0, none⟩)), .eq 13 (.pointer (some ⟨p, 0, none⟩)), .eq 14 (.pointer (some ⟨p, 2, none⟩)), .eq 15 (.int .u64 nx), .eq 16 (.agg (ec th (y, nx)).toArray), .new 17 (NewRow w1.heap.size 79 (ec th (y, nx)) 1)]
    (by kernel_rfl) (by kernel_rfl) (by kernel_rfl) (by kernel_rfl) rfl rfl rfl (Nat.le_of_ble_eq_true rfl) (fun w => by go_simp) rfl (fun c a w h => h) (by kernel_rfl) ?hsta ?hoba ?hfina
  case hsta =>
    intro s hs
    simp only [List.mem_cons, List.not_mem_nil, or_false] at hs
    rcases hs with rfl | rfl | rfl | rfl | rfl | rfl | rfl | rfl | rfl | rfl | rfl | rfl
    · exact fun _ _ _ h _ => h
    · exact fun _ _ _ h _ => h
    · exact fun _ _ _ h _ => h
    · exact fun _ _ _ h _ => h
    · exact fun _ _ _ h _ => h
    · exact fun _ _ _ h _ => h
    · exact fun _ _ _ h _ => h
    · exact fun _ _ _ h _ => h
    · exact fun _ _ _ h _ => h
    · exact fun _ _ _ h _ => h
    · exact fun _ _ _ h _ => h
    · rintro vs w1 w2 ⟨v, rfl, h⟩ hb
      exact ⟨_, rfl, (fun h hb => NewRow.stable h hb) h hb⟩
  case hoba =>
    simp only [List.take_succ_cons, List.take_zero]
    refine rrs_cons ?_ (rrs_cons ?_ (rrs_cons ?_ (rrs_cons ?_ (rrs_cons ?_ (rrs_cons ?_ (rrs_cons ?_ (rrs_cons ?_ (rrs_cons ?_ (rrs_cons ?_ (rrs_cons ?_ (rrs_cons ?_ rrs_nil)))))))))))
    · refine rr_eq gr (by decide) (by rfl) (by rfl) fun x w' A hg hp hA => ?_
      have e0 := hA 0
      simp [rgDsts] at e0
      go_simp
    · refine rr_eq gr (by decide) (by rfl) (by rfl) fun x w' A hg hp hA => ?_
      have e0 := hA 0
      simp [rgDsts] at e0
      go_simp
    · refine rr_eq gr (by decide) (by rfl) (by rfl) fun x w' A hg hp hA => ?_
      have h7 := rg_pred_eq (d := 7) hp 0 rfl rfl rfl
      have e7 := (hA.at_ 7 rfl).trans h7
      go_simp
    · refine rr_eq gr (by decide) (by rfl) (by rfl) fun x w' A hg hp hA => ?_
      have h8 := rg_pred_eq (d := 8) hp 0 rfl rfl rfl
      have e8 := (hA.at_ 8 rfl).trans h8
      go_simp
    · refine rr_eq gr (by decide) (by rfl) (by rfl) fun x w' A hg hp hA => ?_
      have h9 := rg_pred_eq (d := 9) hp 0 rfl rfl rfl
      have e9 := (hA.at_ 9 rfl).trans h9
      have c1 := cW w' hg
      go_simp
    · refine rr_val (by decide) (by rfl) fun x w' A hg hp hA => ?_
      have e3 := hA 3
      simp [rgDsts] at e3
      have hr := loadT (hbx w' hg) (by rw [List.drop_zero, List.take_of_length_le (by rw [th.len]; exact Nat.le_refl _)] : ((th.cells y).drop 0).take 2 = th.cells y)
      exact ⟨vl th y, w', by simp [execOp, Act.eval, e3, hr, Result.andThen], gr _, by simp [rgUpd], by simp⟩
    · refine rr_eq gr (by decide) (by rfl) (by rfl) fun x w' A hg hp hA => ?_
      have e0 := hA 0
      simp [rgDsts] at e0
      go_simp
    · refine rr_eq gr (by decide) (by rfl) (by rfl) fun x w' A hg hp hA => ?_
      have h12 := rg_pred_eq (d := 12) hp 0 rfl rfl rfl
      have e12 := (hA.at_ 12 rfl).trans h12
      go_simp
    · refine rr_eq gr (by decide) (by rfl) (by rfl) fun x w' A hg hp hA => ?_
      have h13 := rg_pred_eq (d := 13) hp 0 rfl rfl rfl
      have e13 := (hA.at_ 13 rfl).trans h13
      go_simp
    · refine rr_eq gr (by decide) (by rfl) (by rfl) fun x w' A hg hp hA => ?_
      have h14 := rg_pred_eq (d := 14) hp 0 rfl rfl rfl
      have e14 := (hA.at_ 14 rfl).trans h14
      have c2 := dW w' hg
      go_simp
    · refine rr_val (by decide) (by rfl) fun x w' A hg hp hA => ?_
      have h11 := rg_pred_eq (d := 11) hp 0 rfl rfl rfl
      have h15 := rg_pred_eq (d := 15) hp 1 rfl rfl rfl
      have e11 := (hA.at_ 11 rfl).trans h11
      have e15 := (hA.at_ 15 rfl).trans h15
      exact ⟨.agg (ec th (y, nx)).toArray, w', buildE (th := th) y nx w' rfl (by simpa [Act.eval] using e11) (by simpa [Act.eval] using e15), gr _, by simp [rgUpd], by simp⟩
    · refine rr_val (by decide) (by rfl) fun x w' A hg hp hA => ?_
      have h16 := rg_pred_eq (d := 16) hp 0 rfl rfl rfl
      have e16 := (hA.at_ 16 rfl).trans h16
      have e16' : A.eval (.tmp 16) = .agg (ec th (y, nx)).toArray := by simpa [Act.eval] using e16
      refine ⟨_, _, run_build1 EE (.tmp 16) rfl (by decide) (ec th (y, nx)) (by rw [e16']; rfl) (ec_len _ _), ga (gr _) _, ?_, ?_⟩
      · exact ⟨_, rfl, _, by simp [rgUpd], hg.size, Blk.new w' _ _⟩
      · simp [blockOf]
  case hfina =>
  intro x w2 hg hall hap
  simp only [RgAll, holds_eq, holds_new, holds_one, and_true] at hall
  obtain ⟨h6, h7, h8, h9, h10, h11, h12, h13, h14, h15, h16, ⟨b, h17, hb17, hB17⟩⟩ := hall
  simp only [rgDsts, List.take_succ_cons, List.take_zero, List.filterMap_cons, List.filterMap_nil, putMany, List.foldl_cons, List.foldl_nil, List.setIfInBounds_toArray, List.set_cons_succ, List.set_cons_zero, List.drop_succ_cons, List.drop_zero, h6, h7, h8, h9, h10, h11, h12, h13, h14, h15, h16, h17]
  clear h6 h7 h8 h9 h10 h11 h12 h13 h14 h15 h16 h17 hap
  have hP2 : PlK th w2 B p (.slice A n c) fv es nx := HP1.out.grow hg
  have hb2 : Below W.heap.size W w2 := gt hb1 hg
  have f1 := hP2.blk.frozen 1
  have f2 := hP2.blk.frozen 2
  have HP2 := Lib.hid (And.intro hP2 (And.intro hb2 (And.intro hB17 (And.intro hb17 hg))))
  clear hP2 hb2 hb1 hg cW dW hbx
  go_wp2_with (first
    | ((with_reducible show wpList _ _ _ (⟨some 18, _, _, _, _, _⟩ :: _) _ _)
       go_must (refine wpList_app EE (o := ⟨some 18, _, _, _, _, _⟩) rfl (.tmp 10) (.tmp 17) rfl B (.slice A n c) n (es.flatMap (ec th)) (by go_simp) (by have := HP2.out.1.own; rw [← HN.out] at this; exact this) (some ⟨b, 0, none⟩) 1 1 (ec th (y, nx)) (by go_simp) HP2.out.2.2.1.rv (by rw [ec_len]; rfl) (ec_one th _) (by unfold maxLen; omega) (by omega) (Nat.le_trans H0.out.2.2.1 HP2.out.2.1.size) ?_)
       intro v' w3 ho3 hg3 hv3
       obtain ⟨g', cap', rfl⟩ := ownsRow_succ ho3
       have hk := (by have := HP2.out.1.pushed (e := (y, nx)) (by rw [← HN.out]; exact ho3) hg3 hv3; exact this)
       have hB3 := HP2.out.1.blk.grown hg3 HP2.out.1.ne.symm
       have c13 := hB3.cell 1
       have c23 := hB3.cell 2
       have f13 := hB3.frozen 1
       have f23 := hB3.frozen 2
       simp only [List.getElem?_cons_zero, List.getElem?_cons_succ] at c13 c23
       have HK := Lib.hid hk
       clear hk hB3 ho3 hg3 hv3)
    | (go_at_call 44; refine (up_any _ HK.out.1 HL.out (H0.out.2.1.trans ((HP2.out.2.1.mono H0.out.2.2.1).trans (HK.out.2.1.low (Below.refl _ _) (Nat.le_trans H0.out.2.2.1 HP2.out.2.1.size) (fun k hk => by cases hk; exact H0.out.2.2.2.1) (fun k hk => (HP2.out.1.own.lt k hk).1)))) (Nat.le_trans (Nat.le_trans H0.out.2.2.1 HP2.out.2.1.size) HK.out.2.1.size) (fun e he => by
        rcases List.mem_append.1 he with he | he
        · exact H0.out.2.2.2.2.1 e he
        · rw [List.mem_singleton.1 he]; exact H0.out.2.2.2.2.2.1) n (by rw [List.length_append, ← HN.out]; exact Nat.lt_succ_self _) (by rw [List.length_append, ← HN.out]; exact H0.out.2.2.2.2.2.2.1)).mono ?_; rintro e w6 ⟨⟨u, rfl⟩, hP6, hg6⟩))
  go_end0
  obtain ⟨hk1, hk2, hk3⟩ := HK.out
  obtain ⟨hP2, hb2, _, _, _⟩ := HP2.out
  refine ⟨⟨_, rfl⟩, _, by unfold Heap.push; rw [← HN.out]; exact hP6, ?_, fun g hg => ?_⟩
  · have hv := hP2.own
    have G : Grown2 W _ (some p) (Value.slice A n c).ownBlock := ⟨hk2.os.trans hb2.os, hk2.tape.trans hb2.tape, hk2.output.trans hb2.output, Nat.le_trans hb2.size hk2.size, fun k hk h1 h2 => (hk2.block k (Nat.lt_of_lt_of_le hk hb2.size) h1 h2).trans (hb2.block k hk)⟩
    rw [← HN.out]
    exact G.step hg6 (fun k hk => by
      rcases hk3 k hk with h | h
      · exact .inr (.inl h.symm)
      · exact .inr (.inr (Nat.le_trans hb2.size h)))
  · rw [← HN.out]
    rcases hk3 g hg with h | h
    · exact .inl h
    · exact .inr (Nat.le_trans hb2.size h)
end
end Go.Proofs.Ytdebokambldbbaa.PileI
