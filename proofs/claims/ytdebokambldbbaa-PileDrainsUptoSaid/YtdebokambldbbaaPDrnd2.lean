/- weirlaw07.drained: the walk. -/
import Derived.Test.YtdebokambldbbaaPDrnd
import Derived.Test.YtdebokambldbbaaPNil
namespace Go.Proofs.Ytdebokambldbbaa.LawP
open Go.RowKit Go.Shelf Go.Proofs.Ytdebokambldbbaa.Mem Go.Proofs.Ytdebokambldbbaa.Heap Go.Proofs.Ytdebokambldbbaa.Pile Go.Proofs.Ytdebokambldbbaa.PileI Go.Proofs.Ytdebokambldbbaa.Drain
attribute [local go_sem] Oper.semAt_some
set_option linter.unusedVariables false
set_option linter.unusedSectionVars false
set_option linter.unusedSimpArgs false
set_option maxRecDepth 100000
set_option maxHeartbeats 6400000

/-- what drained has done -/
structure Drnd (flat : Bool) (B p : Nat) (v : Value) (stop : Int) (more : Bool) (late : Itm) (L : List (Itm × Nat)) (nx : Nat) (W : World) (vr : Value) (W' : World) (r : Nat) : Prop where
  row : W'.ownsRow W.heap.size 35 2 vr r ((dsO (ltF flat) more late L nx r).flatMap Itm.cells)
  pl : ∃ v' es', PlK thI W' B p v' (fvF flat) es' (dsL (ltF flat) more late L nx r).2 ∧ Book (ltF flat) es' (dsL (ltF flat) more late L nx r).1 (dsL (ltF flat) more late L nx r).2 ∧ ∀ g, v'.ownBlock = some g → v.ownBlock = some g ∨ W.heap.size ≤ g
  gr : Grown2 W W' (some p) v.ownBlock
  ne : ∀ j, j < r → (dsL (ltF flat) more late L nx j).1 ≠ []
  ns : ∀ j : Nat, 0 < j → j < r → (j : Int) ≠ stop
  fin : (dsL (ltF flat) more late L nx r).1 = [] ∨ (0 < r ∧ (r : Int) = stop)
theorem drained_any (flat : Bool) {B p b nx most : Nat} {v : Value} {es L : List (Itm × Nat)} {w0 : World} (W : World) (stop : Int) (more : Bool) (late : Itm) (hP : PlK thI W B p v (fvF flat) es nx) (hbk : Book (ltF flat) es L nx) (hw : Below B w0 W) (hB0 : B ≤ w0.heap.size) (hBp : B ≤ p)
    (hbx : Boxed W b 30 (.pointer (some ⟨p, 0, none⟩))) (hm : most = L.length + 1) (hl : L.length ≤ 1073741822) (hnx : nx ≤ 1073741822) :
    Calls Try.prog 22 #[.pointer (some ⟨p, 0, none⟩), .func (.func 47) #[] #[.pointer (some ⟨b, 0, none⟩)], .int .i64 most, .int .i64 stop, .bool more, late.val] W fun e W' => ∃ vr r, e = .returned vr ∧ Drnd flat B p v stop more late L nx W vr W' r := by
  have hq : ∀ w, (binOp BinOp.eql 44 (.func (.func 47) #[] #[.pointer (some ⟨b, 0, none⟩)]) .nilFunc).run Try.prog w = .ok (.bool false) w := fun w => rfl
  have H0 := Lib.hid (And.intro hP (And.intro hbk (And.intro hw (And.intro hbx (And.intro hm (And.intro hl hnx))))))
  clear hP hbk hw hbx hm hl hnx
  obtain ⟨x1, x2⟩ := late
  unfold Itm.val
  refine (callsIn_wide (n := 4)).1 ?_
  refine callsIn_of_wp_marks Try.func22 rfl trivial ?_ rfl
  simp only [Try.ntmps22, List.size_toArray, List.length_cons, List.length_nil, Nat.reduceAdd, Nat.reduceSub, Array.replicate_succ, Array.replicate_zero, List.push_toArray, List.append_toArray, List.nil_append, List.cons_append]
  gi_wp2
  obtain ⟨w1, e1⟩ : ∃ w, w = W.alloc (.cells #[.pointer (some ⟨p, 0, none⟩)] 30) := ⟨_, rfl⟩
  rw [← e1]
  obtain ⟨w2, e2⟩ : ∃ w, w = w1.alloc (.cells #[.int .i64 most] 3) := ⟨_, rfl⟩
  rw [← e2]
  obtain ⟨w3, e3⟩ : ∃ w, w = w2.alloc (.cells #[.int .i64 stop] 3) := ⟨_, rfl⟩
  rw [← e3]
  obtain ⟨w4, e4⟩ : ∃ w, w = w3.alloc (.cells #[.bool more] 4) := ⟨_, rfl⟩
  rw [← e4]
  obtain ⟨w5, e5⟩ : ∃ w, w = w4.alloc (.cells #[.int .i64 x1, .int .i64 x2] 35) := ⟨_, rfl⟩
  rw [← e5]
  obtain ⟨W6, e6⟩ : ∃ w, w = w5.alloc (.cells #[.slice none 0 0] 32) := ⟨_, rfl⟩
  rw [← e6]
  obtain ⟨b6, z6⟩ : ∃ b, b = W.heap.size := ⟨_, rfl⟩
  obtain ⟨b8, z8⟩ : ∃ b, b = b6 + 1 := ⟨_, rfl⟩
  obtain ⟨b9, z9⟩ : ∃ b, b = b8 + 1 := ⟨_, rfl⟩
  obtain ⟨b10, z10⟩ : ∃ b, b = b9 + 1 := ⟨_, rfl⟩
  obtain ⟨b11, z11⟩ : ∃ b, b = b10 + 1 := ⟨_, rfl⟩
  obtain ⟨bo, zo⟩ : ∃ b, b = b11 + 1 := ⟨_, rfl⟩
  simp only [← z6, ← z8, ← z9, ← z10, ← z11, ← zo]
  have s1 : w1.heap.size = b8 := by rw [e1, World.size_alloc, ← z6, z8]
  have s2 : w2.heap.size = b9 := by rw [e2, World.size_alloc, s1, z9]
  have s3 : w3.heap.size = b10 := by rw [e3, World.size_alloc, s2, z10]
  have s4 : w4.heap.size = b11 := by rw [e4, World.size_alloc, s3, z11]
  have s5 : w5.heap.size = bo := by rw [e5, World.size_alloc, s4, zo]
  have s6 : W6.heap.size = bo + 1 := by rw [e6, World.size_alloc, s5]
  have g56 : Below w5.heap.size w5 W6 := by rw [e6]; exact ga (gr w5) _
  have g46 : Below w4.heap.size w4 W6 := gt (by rw [e5]; exact ga (gr w4) _) g56
  have g36 : Below w3.heap.size w3 W6 := gt (by rw [e4]; exact ga (gr w3) _) g46
  have g26 : Below w2.heap.size w2 W6 := gt (by rw [e3]; exact ga (gr w2) _) g36
  have g16 : Below w1.heap.size w1 W6 := gt (by rw [e2]; exact ga (gr w1) _) g26
  have g06 : Below W.heap.size W W6 := gt (by rw [e1]; exact ga (gr W) _) g16
  have N0 : DN B p b11 bo bo v w0 W := ⟨by omega, by omega, H0.out.1.blk.lt, H0.out.2.2.1, hB0, hBp, fun g hg => H0.out.1.own.lt g hg, by omega, by omega⟩
  have S6 : DC flat B p b b6 b8 b9 b10 b11 bo bo v most stop more (x1, x2) W L nx [] W6 := by
    refine ⟨⟨v, es, H0.out.1.grow g06, H0.out.2.1, fun g hg => .inl hg⟩, ⟨.slice none 0 0, ?_, World.ownsRow_nil _ _ _ _⟩, boxed_below H0.out.2.2.2.1 g06, boxed_below (W := w1) ?_ g16, boxed_below (W := w2) ?_ g26, boxed_below (W := w3) ?_ g36, boxed_below (W := w4) ?_ g46, Blk.grow (w := w5) ?_ g56, Grown2.of_below g06⟩
    · rw [e6, ← s5]; exact Boxed.new _ _ _
    · rw [e1, z6]; exact Boxed.new _ _ _
    · rw [e2, ← s1]; exact Boxed.new _ _ _
    · rw [e3, ← s2]; exact Boxed.new _ _ _
    · rw [e4, ← s3]; exact Boxed.new _ _ _
    · rw [e5, ← s4]; exact Blk.new w4 _ [_, _]
  have HN := Lib.hid (And.intro N0 S6)
  have hWs : W.heap.size ≤ W6.heap.size := g06.size
  clear N0 S6 e1 e2 e3 e4 e5 e6 s1 s2 s3 s4 s5 s6 g56 g46 g36 g26 g16 g06 z6 z8 z9 z10 z11 zo
  refine wpIn_range_drain (gf := 47) (lb := #[.pointer (some ⟨b, 0, none⟩)]) rfl (enters_of Try.func47 (by kernel_rfl) rfl) (drain_seq (th := thI) b (.pointer (some ⟨p, 0, none⟩))) rfl
    (fun r : Nat => L.length + 2 - r)
    (fun r W' => DC flat B p b b6 b8 b9 b10 b11 bo bo v most stop more (x1, x2) W (dsL (ltF flat) more (x1, x2) L nx r).1 (dsL (ltF flat) more (x1, x2) L nx r).2 (dsO (ltF flat) more (x1, x2) L nx r) W' ∧ ((∀ j, j < r → (dsL (ltF flat) more (x1, x2) L nx j).1 ≠ []) ∧ ∀ j : Nat, 0 < j → j ≤ r → (j : Int) ≠ stop))
    (fun r W' => DC flat B p b b6 b8 b9 b10 b11 bo bo v most stop more (x1, x2) W (dsL (ltF flat) more (x1, x2) L nx r).1 (dsL (ltF flat) more (x1, x2) L nx r).2 (dsO (ltF flat) more (x1, x2) L nx r) W' ∧ (((∀ j, j < r → (dsL (ltF flat) more (x1, x2) L nx j).1 ≠ []) ∧ ∀ j : Nat, 0 < j → j ≤ r → (j : Int) ≠ stop) ∧ (dsL (ltF flat) more (x1, x2) L nx r).1 = []))
    (fun cd r W' => DC flat B p b b6 b8 b9 b10 b11 bo bo v most stop more (x1, x2) W (dsL (ltF flat) more (x1, x2) L nx r).1 (dsL (ltF flat) more (x1, x2) L nx r).2 (dsO (ltF flat) more (x1, x2) L nx r) W' ∧ (((∀ j, j < r → (dsL (ltF flat) more (x1, x2) L nx j).1 ≠ []) ∧ ∀ j : Nat, 0 < j → j < r → (j : Int) ≠ stop) ∧ (0 < r ∧ (r : Int) = stop ∧ cd = .exit 0)))
    (fun r x W' => DC flat B p b b6 b8 b9 b10 b11 bo bo v most stop more (x1, x2) W ((dsL (ltF flat) more (x1, x2) L nx r).1.eraseIdx (fstI (ltF flat) (dsL (ltF flat) more (x1, x2) L nx r).1)) (dsL (ltF flat) more (x1, x2) L nx r).2 (dsO (ltF flat) more (x1, x2) L nx r) W' ∧ (((∀ j, j < r → (dsL (ltF flat) more (x1, x2) L nx j).1 ≠ []) ∧ ∀ j : Nat, 0 < j → j ≤ r → (j : Int) ≠ stop) ∧ (dsL (ltF flat) more (x1, x2) L nx r).1 ≠ [] ∧ x = dsX (ltF flat) more (x1, x2) L nx r))
    (OwnFrom.and (DC.own hWs _ _ _) (ownFrom_pure _ _)) (fun x => OwnFrom.and (DC.own hWs _ _ _) (ownFrom_pure _ _)) (OwnFrom.and (DC.own hWs _ _ _) (ownFrom_pure _ _)) (fun c => OwnFrom.and (DC.own hWs _ _ _) (ownFrom_pure _ _))
    (fun s W' hs => hs.1.seq) (fun r W' hs => ?pop) 0 ⟨HN.out.2, fun j hj => absurd hj (Nat.not_lt_zero j), fun j h1 h2 => absurd h2 (by omega)⟩
    (fun x a' W' => ∃ bb, Blk W' bb 35 (thI.cells x) ∧ a' = { tmps := #[.pointer (some ⟨p, 0, none⟩), .func (.func 47) #[] #[.pointer (some ⟨b, 0, none⟩)], .int .i64 most, .int .i64 stop, .bool more, .agg #[.int .i64 x1, .int .i64 x2], .pointer (some ⟨b6, 0, none⟩), undef, .pointer (some ⟨b8, 0, none⟩), .pointer (some ⟨b9, 0, none⟩), .pointer (some ⟨b10, 0, none⟩), .pointer (some ⟨b11, 0, none⟩), .slice none 0 0, .pointer (some ⟨bo, 0, none⟩), .pointer (some ⟨bb, 0, none⟩), .func (.func 47) #[] #[.pointer (some ⟨b, 0, none⟩)], .bool false, .func (.func 47) #[] #[.pointer (some ⟨b, 0, none⟩)], vl thI x, undef, undef, undef, undef, undef, undef, undef, undef, undef, undef, undef, undef, undef, undef, undef, undef, undef, undef, undef, undef, undef, undef, undef, undef], defers := [] }) (fun x a' => fun s W1 W2 row ⟨b, hb, he⟩ hg hr => ⟨b, blk_turned hb hg (fun r e => (hr r e).2), he⟩) ?assign ?body ?done ?stop
  case pop =>
    have hd := dsL_len (swo_ltF flat) r hs.2.1
    refine (hs.1.pop HN.out.1 (by have := H0.out.2.2.2.2.2.1; split at hd <;> omega)).mono ?_
    rintro e W2 ⟨hk, (⟨rfl, h1, h2⟩ | ⟨x, rfl, h1, h2, h3⟩)⟩
    · exact ⟨hk, .inl ⟨rfl, h2, hs.2, h1⟩⟩
    · exact ⟨hk, .inr ⟨x, rfl, h3, hs.2, h1, h2⟩⟩
  case assign =>
    intro l1 s x W1 K hI hK
    have HI := Lib.hid hI
    clear hI
    gi_wp2_with (first
      | ((with_reducible show wpListIn _ _ _ _ _ (⟨some 14, _, _, _, _, _⟩ :: _) _ _)
         go_must (refine wpListIn_val (o := ⟨some 14, _, _, _, _, _⟩) rfl (run_allocT rfl) (fun _ => trivial) (fun c hc => by cases hc) ?_)
         obtain ⟨w3, hr3, hB3, hg3, hz3⟩ := run_storeT (th := thI) (b := x) (Blk.new W1 35 [.int .i64 0, .int .i64 0]) rfl)
      | ((with_reducible show wpListIn _ _ _ _ _ (⟨none, .store 35 (.tmp 14) _, _, _, _, _⟩ :: _) _ _)
         go_must (refine wpListIn_skip_ (o := ⟨none, .store 35 (.tmp 14) _, _, _, _, _⟩) (w' := w3) rfl (by simp [execOp, Act.eval, Act.put, hr3, Result.andThen]) (fun _ => trivial) (fun c hc => by cases hc) ?_)))
    have hb3 : Below W1.heap.size W1 w3 := (ga (gr W1) _).grown hg3 (by simp) (fun k hk => by cases hk; exact Nat.le_refl _)
    exact hK _ _ (keepsOthers_below hb3) ⟨_, hB3, rfl⟩ ⟨HI.out.1.grow hb3, HI.out.2⟩
  case body =>
    rintro l1 s x a' W1 ⟨hS, hp1, hp2, hp3⟩ ⟨bb, hbx, rfl⟩
    obtain ⟨u, hbu, hou⟩ := hS.out
    rw [dsO_len] at hou
    obtain ⟨Au, nu, cu_, rfl, hnu⟩ := own_form hou
    subst hnu
    have cu := hbu.cell
    have hd := dsL_len (swo_ltF flat) nu hp1.1
    have hdl := List.length_pos_iff.2 hp2
    have hlo : nu ≤ L.length := by split at hd <;> omega
    have hL2 := H0.out.2.2.2.2.2.1
    have hd2 : (dsL (ltF flat) more (x1, x2) L nx nu).1.length ≤ 1073741823 ∧ (dsL (ltF flat) more (x1, x2) L nx nu).2 ≤ 1073741823 := by have := H0.out.2.2.2.2.2.2; split at hd <;> omega
    have hf := fstI_lt (swo_ltF flat) hp2
    have d10 : Boxed W1 b10 _ _ := hS.x10
    have X1 := Lib.hid (And.intro hS (And.intro hp1 (And.intro hbu (And.intro hou (And.intro (show nu + 1 ≤ 1073741824 by omega) (And.intro hlo (And.intro hd2 (And.intro hf (And.intro hp2 hp3)))))))))
    have hmm : decide ((most : Int) < (nu : Int) + 1) = false := by rw [decide_eq_false_iff_not]; have := H0.out.2.2.2.2.1; omega
    have hn0 : (0 : Int) ≤ (nu : Int) := by omega
    have hn1 : (nu : Int) < 1073741824 := by omega
    clear hS hp1 hp2 hp3 hbu hou hd hdl hlo hL2 hd2 hf d10
    cases more with
    | false =>
      by_cases hst : ((nu + 1 : Nat) : Int) = stop
      · have hst2 : ((nu : Int) + 1 == stop) = true := by rw [beq_iff_eq]; omega
        have hst4 : decide ((nu : Int) + 1 = stop) = true := by rw [decide_eq_true_iff]; omega
        have hst3 := Lib.hid hst
        clear hst
        gi_wp2_with (first
          | ((with_reducible show wpListIn _ _ _ _ _ (⟨some 20, _, _, _, _, _⟩ :: _) _ _)
             go_must (refine wpListIn_val (o := ⟨some 20, _, _, _, _, _⟩) (w' := W1) (v := vl thI x) rfl (by simp [execOp, Act.eval, Act.put, loadT hbx (whole_of x), Result.andThen]) (fun _ => trivial) (fun c hc => by cases hc) ?_))
          | ((with_reducible show wpListIn _ _ _ _ _ (⟨some 21, _, _, _, _, _⟩ :: _) _ _)
             go_must (refine wpListIn_val (o := ⟨some 21, _, _, _, _, _⟩) rfl (run_build1 ET (.tmp 20) rfl (by decide) (thI.cells x) (by rw [← vl_cells x]; rfl) (thI.len x)) (fun _ => trivial) (fun c hc => by cases hc) ?_))
          | ((with_reducible show wpListIn _ _ _ _ _ (⟨some 22, _, _, _, _, _⟩ :: _) _ _)
             go_must (refine wpListIn_app1 ET (o := ⟨some 22, _, _, _, _, _⟩) rfl (fun _ => trivial) (.tmp 19) (.tmp 21) rfl bo (.slice Au nu cu_) nu _ rfl (X1.out.2.2.2.1.alloc _) ⟨W1.heap.size, 0, none⟩ 1 1 (thI.cells x) rfl (rv_new W1 (thI.cells x) 35) rfl (thI.one x) (by have := X1.out.2.2.2.2.1; unfold maxLen; omega) (by have := X1.out.2.2.2.2.1; omega) (by simp; have := X1.out.2.2.1.lt; omega) ?_)
             intro v' w3 ho3 hg3 hv3
             obtain ⟨g', cap', rfl⟩ := ownsRow_succ ho3
             obtain ⟨hv1, hk2, S2⟩ := X1.out.1.app HN.out.1 X1.out.2.2.1 (by rw [dsO_len]; exact X1.out.2.2.2.1) (by rw [dsO_len]; exact ho3) hg3
             have hc1 := hv1.cell
             have hf1 := hv1.frozen
             have d10 := S2.x10.cell
             have d9 := S2.x9.cell
             have d8 := S2.x8.cell
             have X2 := Lib.hid (And.intro hk2 S2)
             clear hv1 hk2 S2 ho3 hg3 hv3))
        refine ⟨X2.out.1, nu + 1, by rw [dsL_less (fun h => Bool.false_ne_true h.1), dsO_succ, ← X1.out.2.2.2.2.2.2.2.2.2]; exact X2.out.2, ⟨(fun j hj => by rcases Nat.lt_succ_iff_lt_or_eq.1 hj with h | h; exact X1.out.2.1.1 j h; rw [h]; exact X1.out.2.2.2.2.2.2.2.2.1), fun j h1 h2 => X1.out.2.1.2 j h1 (by omega)⟩, by omega, hst3.out, rfl⟩
      · have hst2 : ((nu : Int) + 1 == stop) = false := by rw [beq_eq_false_iff_ne]; omega
        have hst3 := Lib.hid hst
        clear hst
        gi_wp2_with (first
          | ((with_reducible show wpListIn _ _ _ _ _ (⟨some 20, _, _, _, _, _⟩ :: _) _ _)
             go_must (refine wpListIn_val (o := ⟨some 20, _, _, _, _, _⟩) (w' := W1) (v := vl thI x) rfl (by simp [execOp, Act.eval, Act.put, loadT hbx (whole_of x), Result.andThen]) (fun _ => trivial) (fun c hc => by cases hc) ?_))
          | ((with_reducible show wpListIn _ _ _ _ _ (⟨some 21, _, _, _, _, _⟩ :: _) _ _)
             go_must (refine wpListIn_val (o := ⟨some 21, _, _, _, _, _⟩) rfl (run_build1 ET (.tmp 20) rfl (by decide) (thI.cells x) (by rw [← vl_cells x]; rfl) (thI.len x)) (fun _ => trivial) (fun c hc => by cases hc) ?_))
          | ((with_reducible show wpListIn _ _ _ _ _ (⟨some 22, _, _, _, _, _⟩ :: _) _ _)
             go_must (refine wpListIn_app1 ET (o := ⟨some 22, _, _, _, _, _⟩) rfl (fun _ => trivial) (.tmp 19) (.tmp 21) rfl bo (.slice Au nu cu_) nu _ rfl (X1.out.2.2.2.1.alloc _) ⟨W1.heap.size, 0, none⟩ 1 1 (thI.cells x) rfl (rv_new W1 (thI.cells x) 35) rfl (thI.one x) (by have := X1.out.2.2.2.2.1; unfold maxLen; omega) (by have := X1.out.2.2.2.2.1; omega) (by simp; have := X1.out.2.2.1.lt; omega) ?_)
             intro v' w3 ho3 hg3 hv3
             obtain ⟨g', cap', rfl⟩ := ownsRow_succ ho3
             obtain ⟨hv1, hk2, S2⟩ := X1.out.1.app HN.out.1 X1.out.2.2.1 (by rw [dsO_len]; exact X1.out.2.2.2.1) (by rw [dsO_len]; exact ho3) hg3
             have hc1 := hv1.cell
             have hf1 := hv1.frozen
             have d10 := S2.x10.cell
             have d9 := S2.x9.cell
             have d8 := S2.x8.cell
             have X2 := Lib.hid (And.intro hk2 S2)
             clear hv1 hk2 S2 ho3 hg3 hv3))
        refine ⟨X2.out.1, nu + 1, by have := X1.out.2.2.2.2.2.1; show L.length + 2 - (nu + 1) < L.length + 2 - nu; omega, by rw [dsL_less (fun h => Bool.false_ne_true h.1), dsO_succ, ← X1.out.2.2.2.2.2.2.2.2.2]; exact X2.out.2, (fun j hj => by rcases Nat.lt_succ_iff_lt_or_eq.1 hj with h | h; exact X1.out.2.1.1 j h; rw [h]; exact X1.out.2.2.2.2.2.2.2.2.1), fun j h1 h2 => ?_⟩
        rcases Nat.lt_or_ge j (nu + 1) with h | h
        · exact X1.out.2.1.2 j h1 (by omega)
        · obtain rfl : j = nu + 1 := by omega
          exact hst3.out
    | true =>
      by_cases hz : nu = 0
      · have A27 : ∀ (T : Array Value) (w : World), T.getD 26 undef = .int .i64 ((nu : Int) + 1) → (execOp ({ tmps := T, defers := [] } : Act).eval ⟨some 27, .binOp .eql 3 (.tmp 26) (.const (.int .i64 1)) 3, 4, "", #[], none⟩).run Try.prog w = .ok (.value (.bool true)) w := fun T w hT => by
          have h1 : (nu : Int) + 1 = 1 := by omega
          rw [h1] at hT
          simp [execOp, Act.eval] at hT ⊢
          rw [hT]
          rfl
        replace hz := Lib.hid hz
        by_cases hst : ((nu + 1 : Nat) : Int) = stop
        · have hst2 : ((nu : Int) + 1 == stop) = true := by rw [beq_iff_eq]; omega
          have hst4 : decide ((nu : Int) + 1 = stop) = true := by rw [decide_eq_true_iff]; omega
          have hst3 := Lib.hid hst
          clear hst
          gi_wp2_with (first
            | ((with_reducible show wpListIn _ _ _ _ _ (⟨some 20, _, _, _, _, _⟩ :: _) _ _)
               go_must (refine wpListIn_val (o := ⟨some 20, _, _, _, _, _⟩) (w' := W1) (v := vl thI x) rfl (by simp [execOp, Act.eval, Act.put, loadT hbx (whole_of x), Result.andThen]) (fun _ => trivial) (fun c hc => by cases hc) ?_))
            | ((with_reducible show wpListIn _ _ _ _ _ (⟨some 21, _, _, _, _, _⟩ :: _) _ _)
               go_must (refine wpListIn_val (o := ⟨some 21, _, _, _, _, _⟩) rfl (run_build1 ET (.tmp 20) rfl (by decide) (thI.cells x) (by rw [← vl_cells x]; rfl) (thI.len x)) (fun _ => trivial) (fun c hc => by cases hc) ?_))
            | ((with_reducible show wpListIn _ _ _ _ _ (⟨some 22, _, _, _, _, _⟩ :: _) _ _)
               go_must (refine wpListIn_app1 ET (o := ⟨some 22, _, _, _, _, _⟩) rfl (fun _ => trivial) (.tmp 19) (.tmp 21) rfl bo (.slice Au nu cu_) nu _ rfl (X1.out.2.2.2.1.alloc _) ⟨W1.heap.size, 0, none⟩ 1 1 (thI.cells x) rfl (rv_new W1 (thI.cells x) 35) rfl (thI.one x) (by have := X1.out.2.2.2.2.1; unfold maxLen; omega) (by have := X1.out.2.2.2.2.1; omega) (by simp; have := X1.out.2.2.1.lt; omega) ?_)
               intro v' w3 ho3 hg3 hv3
               obtain ⟨g', cap', rfl⟩ := ownsRow_succ ho3
               obtain ⟨hv1, hk2, S2⟩ := X1.out.1.app HN.out.1 X1.out.2.2.1 (by rw [dsO_len]; exact X1.out.2.2.2.1) (by rw [dsO_len]; exact ho3) hg3
               have hc1 := hv1.cell
               have hf1 := hv1.frozen
               have d10 := S2.x10.cell
               have d9 := S2.x9.cell
               have d8 := S2.x8.cell
               have d6 := S2.x6.cell
               have d11 := S2.late1
               have d12 := S2.late2
               have X2 := Lib.hid (And.intro hk2 S2)
               clear hv1 hk2 S2 ho3 hg3 hv3)
            | ((with_reducible show wpListIn _ _ _ _ _ (⟨some 27, _, _, _, _, _⟩ :: _) _ _)
               go_must (refine wpListIn_valG (o := ⟨some 27, _, _, _, _, _⟩) (w' := w3.setCell ⟨bo, 0, none⟩ (.slice (some ⟨g', 0, none⟩) (nu + 1) cap')) (v := .bool true) (by go_simp) (A27 _ _ rfl) (fun _ => trivial) (fun c hc => by cases hc) ?_))
            | ((with_reducible refine And.intro ?_ ?_)
               exact trivial
               gi_at_call 14
               refine (callsIn_wide.2 (X2.out.2.push HN.out.1 (x1, x2) (by rw [List.length_eraseIdx_of_lt X1.out.2.2.2.2.2.2.2.1.1]; have := X1.out.2.2.2.2.2.2.1.1; omega) (by have := X1.out.2.2.2.2.2.2.1.2; omega))).mono ?_
               rintro e w4 ⟨⟨r4, rfl⟩, k4, S4⟩
               obtain ⟨u4, hu4, ho4⟩ := S4.out
               obtain ⟨A4, n4, c4, rfl, hn4⟩ := own_form ho4
               subst hn4
               rw [List.length_append, dsO_len] at hu4
               simp only [List.length_cons, List.length_nil, Nat.zero_add] at hu4
               clear d10 d9 d8 hc1 hf1
               have cu4 := hu4.cell
               have d9 := S4.x9.cell
               have d8 := S4.x8.cell
               have X4 := Lib.hid (And.intro k4 S4)
               clear k4 S4 ho4 hu4))
          refine ⟨X2.out.1.trans X4.out.1, nu + 1, by rw [dsL_more rfl hz.out, dsO_succ, ← X1.out.2.2.2.2.2.2.2.2.2]; exact X4.out.2, ⟨(fun j hj => by rcases Nat.lt_succ_iff_lt_or_eq.1 hj with h | h; exact X1.out.2.1.1 j h; rw [h]; exact X1.out.2.2.2.2.2.2.2.2.1), fun j h1 h2 => X1.out.2.1.2 j h1 (by omega)⟩, by omega, hst3.out, rfl⟩
        · have hst2 : ((nu : Int) + 1 == stop) = false := by rw [beq_eq_false_iff_ne]; omega
          have hst3 := Lib.hid hst
          clear hst
          gi_wp2_with (first
            | ((with_reducible show wpListIn _ _ _ _ _ (⟨some 20, _, _, _, _, _⟩ :: _) _ _)
               go_must (refine wpListIn_val (o := ⟨some 20, _, _, _, _, _⟩) (w' := W1) (v := vl thI x) rfl (by simp [execOp, Act.eval, Act.put, loadT hbx (whole_of x), Result.andThen]) (fun _ => trivial) (fun c hc => by cases hc) ?_))
            | ((with_reducible show wpListIn _ _ _ _ _ (⟨some 21, _, _, _, _, _⟩ :: _) _ _)
               go_must (refine wpListIn_val (o := ⟨some 21, _, _, _, _, _⟩) rfl (run_build1 ET (.tmp 20) rfl (by decide) (thI.cells x) (by rw [← vl_cells x]; rfl) (thI.len x)) (fun _ => trivial) (fun c hc => by cases hc) ?_))
            | ((with_reducible show wpListIn _ _ _ _ _ (⟨some 22, _, _, _, _, _⟩ :: _) _ _)
               go_must (refine wpListIn_app1 ET (o := ⟨some 22, _, _, _, _, _⟩) rfl (fun _ => trivial) (.tmp 19) (.tmp 21) rfl bo (.slice Au nu cu_) nu _ rfl (X1.out.2.2.2.1.alloc _) ⟨W1.heap.size, 0, none⟩ 1 1 (thI.cells x) rfl (rv_new W1 (thI.cells x) 35) rfl (thI.one x) (by have := X1.out.2.2.2.2.1; unfold maxLen; omega) (by have := X1.out.2.2.2.2.1; omega) (by simp; have := X1.out.2.2.1.lt; omega) ?_)
               intro v' w3 ho3 hg3 hv3
               obtain ⟨g', cap', rfl⟩ := ownsRow_succ ho3
               obtain ⟨hv1, hk2, S2⟩ := X1.out.1.app HN.out.1 X1.out.2.2.1 (by rw [dsO_len]; exact X1.out.2.2.2.1) (by rw [dsO_len]; exact ho3) hg3
               have hc1 := hv1.cell
               have hf1 := hv1.frozen
               have d10 := S2.x10.cell
               have d9 := S2.x9.cell
               have d8 := S2.x8.cell
               have d6 := S2.x6.cell
               have d11 := S2.late1
               have d12 := S2.late2
               have X2 := Lib.hid (And.intro hk2 S2)
               clear hv1 hk2 S2 ho3 hg3 hv3)
            | ((with_reducible show wpListIn _ _ _ _ _ (⟨some 27, _, _, _, _, _⟩ :: _) _ _)
               go_must (refine wpListIn_valG (o := ⟨some 27, _, _, _, _, _⟩) (w' := w3.setCell ⟨bo, 0, none⟩ (.slice (some ⟨g', 0, none⟩) (nu + 1) cap')) (v := .bool true) (by go_simp) (A27 _ _ rfl) (fun _ => trivial) (fun c hc => by cases hc) ?_))
            | ((with_reducible refine And.intro ?_ ?_)
               exact trivial
               gi_at_call 14
               refine (callsIn_wide.2 (X2.out.2.push HN.out.1 (x1, x2) (by rw [List.length_eraseIdx_of_lt X1.out.2.2.2.2.2.2.2.1.1]; have := X1.out.2.2.2.2.2.2.1.1; omega) (by have := X1.out.2.2.2.2.2.2.1.2; omega))).mono ?_
               rintro e w4 ⟨⟨r4, rfl⟩, k4, S4⟩
               obtain ⟨u4, hu4, ho4⟩ := S4.out
               obtain ⟨A4, n4, c4, rfl, hn4⟩ := own_form ho4
               subst hn4
               rw [List.length_append, dsO_len] at hu4
               simp only [List.length_cons, List.length_nil, Nat.zero_add] at hu4
               clear d10 d9 d8 hc1 hf1
               have cu4 := hu4.cell
               have d9 := S4.x9.cell
               have d8 := S4.x8.cell
               have X4 := Lib.hid (And.intro k4 S4)
               clear k4 S4 ho4 hu4))
          refine ⟨X2.out.1.trans X4.out.1, nu + 1, by have := X1.out.2.2.2.2.2.1; show L.length + 2 - (nu + 1) < L.length + 2 - nu; omega, by rw [dsL_more rfl hz.out, dsO_succ, ← X1.out.2.2.2.2.2.2.2.2.2]; exact X4.out.2, (fun j hj => by rcases Nat.lt_succ_iff_lt_or_eq.1 hj with h | h; exact X1.out.2.1.1 j h; rw [h]; exact X1.out.2.2.2.2.2.2.2.2.1), fun j h1 h2 => ?_⟩
          rcases Nat.lt_or_ge j (nu + 1) with h | h
          · exact X1.out.2.1.2 j h1 (by omega)
          · obtain rfl : j = nu + 1 := by omega
            exact hst3.out
      · have hnz := hz
        have hz1 : ((nu : Int) + 1 == 1) = false := by rw [beq_eq_false_iff_ne]; omega
        by_cases hst : ((nu + 1 : Nat) : Int) = stop
        · have hst2 : ((nu : Int) + 1 == stop) = true := by rw [beq_iff_eq]; omega
          have hst4 : decide ((nu : Int) + 1 = stop) = true := by rw [decide_eq_true_iff]; omega
          have hst3 := Lib.hid hst
          clear hst
          gi_wp2_with (first
            | ((with_reducible show wpListIn _ _ _ _ _ (⟨some 20, _, _, _, _, _⟩ :: _) _ _)
               go_must (refine wpListIn_val (o := ⟨some 20, _, _, _, _, _⟩) (w' := W1) (v := vl thI x) rfl (by simp [execOp, Act.eval, Act.put, loadT hbx (whole_of x), Result.andThen]) (fun _ => trivial) (fun c hc => by cases hc) ?_))
            | ((with_reducible show wpListIn _ _ _ _ _ (⟨some 21, _, _, _, _, _⟩ :: _) _ _)
               go_must (refine wpListIn_val (o := ⟨some 21, _, _, _, _, _⟩) rfl (run_build1 ET (.tmp 20) rfl (by decide) (thI.cells x) (by rw [← vl_cells x]; rfl) (thI.len x)) (fun _ => trivial) (fun c hc => by cases hc) ?_))
            | ((with_reducible show wpListIn _ _ _ _ _ (⟨some 22, _, _, _, _, _⟩ :: _) _ _)
               go_must (refine wpListIn_app1 ET (o := ⟨some 22, _, _, _, _, _⟩) rfl (fun _ => trivial) (.tmp 19) (.tmp 21) rfl bo (.slice Au nu cu_) nu _ rfl (X1.out.2.2.2.1.alloc _) ⟨W1.heap.size, 0, none⟩ 1 1 (thI.cells x) rfl (rv_new W1 (thI.cells x) 35) rfl (thI.one x) (by have := X1.out.2.2.2.2.1; unfold maxLen; omega) (by have := X1.out.2.2.2.2.1; omega) (by simp; have := X1.out.2.2.1.lt; omega) ?_)
               intro v' w3 ho3 hg3 hv3
               obtain ⟨g', cap', rfl⟩ := ownsRow_succ ho3
               obtain ⟨hv1, hk2, S2⟩ := X1.out.1.app HN.out.1 X1.out.2.2.1 (by rw [dsO_len]; exact X1.out.2.2.2.1) (by rw [dsO_len]; exact ho3) hg3
               have hc1 := hv1.cell
               have hf1 := hv1.frozen
               have d10 := S2.x10.cell
               have d9 := S2.x9.cell
               have d8 := S2.x8.cell
               have X2 := Lib.hid (And.intro hk2 S2)
               clear hv1 hk2 S2 ho3 hg3 hv3))
          refine ⟨X2.out.1, nu + 1, by rw [dsL_less (fun h => hnz h.2), dsO_succ, ← X1.out.2.2.2.2.2.2.2.2.2]; exact X2.out.2, ⟨(fun j hj => by rcases Nat.lt_succ_iff_lt_or_eq.1 hj with h | h; exact X1.out.2.1.1 j h; rw [h]; exact X1.out.2.2.2.2.2.2.2.2.1), fun j h1 h2 => X1.out.2.1.2 j h1 (by omega)⟩, by omega, hst3.out, rfl⟩
        · have hst2 : ((nu : Int) + 1 == stop) = false := by rw [beq_eq_false_iff_ne]; omega
          have hst3 := Lib.hid hst
          clear hst
          gi_wp2_with (first
            | ((with_reducible show wpListIn _ _ _ _ _ (⟨some 20, _, _, _, _, _⟩ :: _) _ _)
               go_must (refine wpListIn_val (o := ⟨some 20, _, _, _, _, _⟩) (w' := W1) (v := vl thI x) rfl (by simp [execOp, Act.eval, Act.put, loadT hbx (whole_of x), Result.andThen]) (fun _ => trivial) (fun c hc => by cases hc) ?_))
            | ((with_reducible show wpListIn _ _ _ _ _ (⟨some 21, _, _, _, _, _⟩ :: _) _ _)
               go_must (refine wpListIn_val (o := ⟨some 21, _, _, _, _, _⟩) rfl (run_build1 ET (.tmp 20) rfl (by decide) (thI.cells x) (by rw [← vl_cells x]; rfl) (thI.len x)) (fun _ => trivial) (fun c hc => by cases hc) ?_))
            | ((with_reducible show wpListIn _ _ _ _ _ (⟨some 22, _, _, _, _, _⟩ :: _) _ _)
               go_must (refine wpListIn_app1 ET (o := ⟨some 22, _, _, _, _, _⟩) rfl (fun _ => trivial) (.tmp 19) (.tmp 21) rfl bo (.slice Au nu cu_) nu _ rfl (X1.out.2.2.2.1.alloc _) ⟨W1.heap.size, 0, none⟩ 1 1 (thI.cells x) rfl (rv_new W1 (thI.cells x) 35) rfl (thI.one x) (by have := X1.out.2.2.2.2.1; unfold maxLen; omega) (by have := X1.out.2.2.2.2.1; omega) (by simp; have := X1.out.2.2.1.lt; omega) ?_)
               intro v' w3 ho3 hg3 hv3
               obtain ⟨g', cap', rfl⟩ := ownsRow_succ ho3
               obtain ⟨hv1, hk2, S2⟩ := X1.out.1.app HN.out.1 X1.out.2.2.1 (by rw [dsO_len]; exact X1.out.2.2.2.1) (by rw [dsO_len]; exact ho3) hg3
               have hc1 := hv1.cell
               have hf1 := hv1.frozen
               have d10 := S2.x10.cell
               have d9 := S2.x9.cell
               have d8 := S2.x8.cell
               have X2 := Lib.hid (And.intro hk2 S2)
               clear hv1 hk2 S2 ho3 hg3 hv3))
          refine ⟨X2.out.1, nu + 1, by have := X1.out.2.2.2.2.2.1; show L.length + 2 - (nu + 1) < L.length + 2 - nu; omega, by rw [dsL_less (fun h => hnz h.2), dsO_succ, ← X1.out.2.2.2.2.2.2.2.2.2]; exact X2.out.2, (fun j hj => by rcases Nat.lt_succ_iff_lt_or_eq.1 hj with h | h; exact X1.out.2.1.1 j h; rw [h]; exact X1.out.2.2.2.2.2.2.2.2.1), fun j h1 h2 => ?_⟩
          rcases Nat.lt_or_ge j (nu + 1) with h | h
          · exact X1.out.2.1.2 j h1 (by omega)
          · obtain rfl : j = nu + 1 := by omega
            exact hst3.out
  case done =>
    rintro Dd s W2 hDd ⟨hS, hp⟩ hK
    obtain ⟨u, hbu, hou⟩ := hS.out
    obtain ⟨Au, nu, cu_, rfl, hnu⟩ := own_form hou
    rw [dsO_len] at hnu
    subst hnu
    have cu := hbu.cell
    have X1 := Lib.hid (And.intro hS hp)
    have X2 := Lib.hid (And.intro hbu hou)
    clear hS hbu hou hp
    gi_wp2
    refine ⟨by simp, .inl ⟨_, _, rfl, run_takeDeferred hK, ?_⟩⟩
    refine ⟨_, by simp [results, Try.results22, go_sem]; rfl, ?_⟩
    have hg := grownBy_putObj' W2 Dd (.deferred none)
    have S3 := X1.out.1.turned hg (fun r e => by cases e; exact ⟨Nat.le_trans hWs hDd, _, hK, rfl⟩)
    have hr := ownsRow_putObj X2.out.2 (.deferred none) hK rfl
    rw [dsO_len] at hr
    have D : Drnd flat B p v stop more (x1, x2) L nx W (.slice Au nu cu_) (W2.putObj Dd (.deferred none)) nu := ⟨own_low hr (by have := HN.out.1.h3; have := HN.out.1.h1; omega), S3.pl, S3.gr, X1.out.2.1.1, fun j h1 h2 => X1.out.2.1.2 j h1 (by omega), .inl X1.out.2.2⟩
    first | exact ⟨_, nu, rfl, D⟩ | exact ⟨_, rfl, nu, D⟩
  case stop =>
    rintro Dd c s W2 hDd ⟨hS, hp⟩ hK
    obtain rfl := hp.2.2.2
    obtain ⟨u, hbu, hou⟩ := hS.out
    obtain ⟨Au, nu, cu_, rfl, hnu⟩ := own_form hou
    rw [dsO_len] at hnu
    subst hnu
    have cu := hbu.cell
    have X1 := Lib.hid (And.intro hS hp)
    have X2 := Lib.hid (And.intro hbu hou)
    clear hS hbu hou hp
    gi_wp2
    refine ⟨by simp, .inl ⟨_, _, rfl, run_takeDeferred hK, ?_⟩⟩
    refine ⟨_, by simp [results, Try.results22, go_sem]; rfl, ?_⟩
    have hg := grownBy_putObj' W2 Dd (.deferred none)
    have S3 := X1.out.1.turned hg (fun r e => by cases e; exact ⟨Nat.le_trans hWs hDd, _, hK, rfl⟩)
    have hr := ownsRow_putObj X2.out.2 (.deferred none) hK rfl
    rw [dsO_len] at hr
    have D : Drnd flat B p v stop more (x1, x2) L nx W (.slice Au nu cu_) (W2.putObj Dd (.deferred none)) nu := ⟨own_low hr (by have := HN.out.1.h3; have := HN.out.1.h1; omega), S3.pl, S3.gr, X1.out.2.1.1, X1.out.2.1.2, .inr ⟨X1.out.2.2.1, X1.out.2.2.2.1⟩⟩
    first | exact ⟨_, nu, rfl, D⟩ | exact ⟨_, rfl, nu, D⟩
end Go.Proofs.Ytdebokambldbbaa.LawP
