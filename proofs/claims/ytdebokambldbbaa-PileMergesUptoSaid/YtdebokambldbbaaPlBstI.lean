/- pile over I: Best. -/
import Derived.Test.YtdebokambldbbaaPlBLI
import Derived.Test.YtdebokambldbbaaPileMerge2
import Derived.Test.YtdebokambldbbaaPlSI
import Derived.Laws.EntriesVeiled
namespace Go.Proofs.Ytdebokambldbbaa.PileI
open Go.RowKit Go.Shelf Go.Proofs.Ytdebokambldbbaa.Mem Go.Proofs.Ytdebokambldbbaa.Heap Go.Proofs.Ytdebokambldbbaa.Pile
set_option linter.unusedVariables false
set_option linter.unusedSectionVars false
set_option maxRecDepth 8000
set_option maxHeartbeats 6400000

section
variable {β : Type} [Inhabited β] {th : Th β 2}
theorem buildP (b : β) (j : Nat) (w : World) {ρ : Operand → Value} {o : Oper} {x y : Operand} (ho : o.op = .build 95 #[(0, x), (1, y)]) (hx : ρ x = vl th b) (hy : ρ y = .int .i64 j) :
    (execOp ρ o).run Try.prog w = .ok (.value (PileP.vl (thP th) (b, j))) w := by
  have hc := vl_cells (th := th) b
  obtain ⟨u, u1, hl⟩ := cells_lit (th := th) b
  have hr : (Instr.build 95 #[(0, vl th b), (1, .int .i64 j)]).run Try.prog w = .ok (PileP.vl (thP th) (b, j)) w := by
    have hp : PileP.vl (thP th) (b, j) = .agg (th.cells b ++ [Value.int .i64 j]).toArray := rfl
    rw [hp]
    have hv : vl th b = .agg #[u, u1] := by unfold vl; rw [hl]
    rw [hl, hv]
    clear hc hx hy hl hp
    obtain ⟨iE, hE, hEz, _⟩ := PileP.AT.info
    have sT : (Try.prog.info? 35).map (·.size) = some 2 := by kernel_rfl
    have sU : (Try.prog.info? 3).map (·.size) = some 1 := by kernel_rfl
    cases hT : Try.prog.info? 35 with
    | none => rw [hT] at sT; cases sT
    | some iT =>
    cases hU : Try.prog.info? 3 with
    | none => rw [hU] at sU; cases sU
    | some iU =>
    rw [hT] at sT
    rw [hU] at sU
    simp only [Option.map_some, Option.some.injEq] at sT sU
    simp [Instr.build, Instr.fill, zeroValue, typeInfo, sizeOf, go_sem, List.zipIdx, Value.cells, hE, hEz, hT, hU, sT, sU]
  simp [execOp, ho, hx, hy, hr, Result.andThen]
theorem wpList_storeAtT {w : World} {ops : Array Oper} {rest : List Oper} {o : Oper} {a : Act} {Q : Exit → Act → World → Prop} (hgd : o.guard = none) (x y : Operand) (ho : o.op = .store 35 x y) (g off : Nat) (hx : a.eval x = .pointer (some ⟨g, off, none⟩)) (b : β) (hy : a.eval y = vl th b) (T : TypeId) (cs : List Value) (hB : Blk w g T cs) (hf : off + 2 ≤ cs.length)
    (h : ∀ w', Blk w' g T (splice cs off (th.cells b)) → w.grownBy w' (some g) → w'.heap.size = w.heap.size → wpList Try.prog ops Q rest (a.put o.dst undef) w') : wpList Try.prog ops Q (o :: rest) a w := by
  exact wpList_storeB AT hgd x y ho g off hx (th.cells b) (by rw [hy]; rfl) (th.len b) T cs hB (by rw [th.len]; exact hf) (th.one b) h
theorem best_none (W : World) (A : Option Addr) (n c : Nat) (k : Int) (fv : Value) (hfv : fv = .nilFunc ∨ ∃ g lb, fv = .func (.func g) #[] lb) (hk : k < 1) :
    Calls Try.prog 35 #[.slice A n c, .int .i64 k, fv] W fun e W' => e = .returned (.slice none 0 0) ∧ Below W.heap.size W W' := by
  rcases hfv with rfl | ⟨g, lb, rfl⟩
  all_goals
    go_enter Try.func35, Try.ntmps35
    go_wp2
    go_ret
    exact ⟨rfl, ga (gr W) _⟩
/-- the pile of places behind j things -/
def BS (th : Th β 2) (lt : β → β → Bool) (kN : Nat) (l : List β) (p : Nat) (fv2 : Value) (w2 : World) (j : Nat) (W : World) : Prop :=
  ∃ v, PileP.PlK (thP th) W p p v fv2 (bestAll lt kN [] 0 (l.take j)) j ∧ Below p w2 W
/-- the answer's row, m to come -/
structure BO (th : Th β 2) (lt : β → β → Bool) (full : List β) (N p H : Nat) (fv2 : Value) (nx : Nat) (w2 : World) (m : Nat) (W : World) : Prop where
  pl : ∃ v es, PileP.PlK (thP th) W p p v fv2 es nx ∧ es.length = m ∧ (popAll (Heap.ahead (wlt lt)) m es).map (·.1.1) = full.drop (N - m)
  row : Blk W H 35 ((List.replicate m [.int .i64 0, .int .i64 0]).flatten ++ ((full.take (N - m)).reverse).flatMap th.cells)
  low : Below p w2 W
/-- .. one taken out, not yet stored -/
structure BP (th : Th β 2) (lt : β → β → Bool) (full : List β) (N p H : Nat) (fv2 : Value) (nx : Nat) (w2 : World) (m : Nat) (x : β) (W : World) : Prop where
  pl : ∃ v es, PileP.PlK (thP th) W p p v fv2 es nx ∧ es.length = m ∧ (popAll (Heap.ahead (wlt lt)) m es).map (·.1.1) = full.drop (N - m)
  row : Blk W H 35 ((List.replicate (m + 1) [.int .i64 0, .int .i64 0]).flatten ++ ((full.take (N - (m + 1))).reverse).flatMap th.cells)
  low : Below p w2 W
  hx : full[N - (m + 1)]? = some x
variable {lt : β → β → Bool} {full : List β} {N p H nx m : Nat} {fv2 : Value} {w2 W W' : World}
theorem blkne {g g' : Nat} {T T' : TypeId} {cs cs' : List Value} (h : Blk W g T cs) (h' : Blk W g' T' cs') (hT : T ≠ T') : g ≠ g' := by
  rintro rfl
  have := (show W.heap[g]? = _ from h).symm.trans h'
  simp at this
  exact hT this.2
theorem BP.grow {x : β} (s : BP th lt full N p H fv2 nx w2 m x W) (hp : p ≤ W.heap.size) (hb : Below W.heap.size W W') : BP th lt full N p H fv2 nx w2 m x W' := by
  obtain ⟨v, es, h1, h2⟩ := s.pl
  exact ⟨⟨v, es, h1.grow hb, h2⟩, s.row.grow hb, s.low.trans (hb.mono hp), s.hx⟩
theorem BO.pop (s : BO th lt full N p H fv2 nx w2 (m + 1) W) (hL : Less Try.prog p w2 (PileP.vl (thP th)) (fun _ => True) fv2 (wlt lt)) (hp : p ≤ w2.heap.size) (hN : m + 1 ≤ N) (hN2 : N ≤ 1073741824) (hf : full.length = N) :
    Calls Try.prog 59 #[.pointer (some ⟨p, 0, none⟩)] W fun e W' => ∃ x : β × Nat, e = .returned (.tuple #[PileP.vl (thP th) x, .bool true]) ∧ BP th lt full N p H fv2 nx w2 m x.1 W' := by
  obtain ⟨v, es, h1, h2, h3⟩ := s.pl
  refine (PileP.pop_any W h1 hL s.low (Nat.le_trans hp s.low.size) (Nat.le_refl _) (fun _ _ => trivial) (by omega) (by omega)).mono ?_
  rintro e W' ⟨rfl, v', h4, hg, hv⟩
  rw [popAll, List.map_cons, List.drop_eq_getElem_cons (by omega)] at h3
  injection h3 with h5 h6
  refine ⟨(nth es 0).1, rfl, ⟨v', _, h4, by rw [pop_len, h2, Nat.add_sub_cancel], ?_⟩, ?_, hg.low s.low (Nat.le_trans hp s.low.size) (fun k hk => by cases hk; exact Nat.le_refl _) (fun k hk => (h1.own.lt k hk).1), ?_⟩
  · rw [h6]; congr 1; omega
  · exact hg.blk s.row (fun e => blkne s.row h1.blk (by decide) (by injection e)) (fun e => own_ne_blk h1.own s.row (by decide) e.symm)
  · rw [List.getElem?_eq_getElem (by omega), h5]
theorem rep_len (m : Nat) : ((List.replicate m [.int .i64 0, .int .i64 0]).flatten : List Value).length = m * 2 := by simp
theorem BP.store {x : β} (s : BP th lt full N p H fv2 nx w2 m x W) (hN : m + 1 ≤ N) (hf : full.length = N) (hpH : p ≤ H) (hpw : p ≤ W.heap.size) (hB : Blk W' H 35 (splice ((List.replicate (m + 1) [.int .i64 0, .int .i64 0]).flatten ++ ((full.take (N - (m + 1))).reverse).flatMap th.cells) (m * 2) (th.cells x))) (hg : W.grownBy W' (some H)) :
    BO th lt full N p H fv2 nx w2 m W' := by
  obtain ⟨v, es, h1, h2⟩ := s.pl
  refine ⟨⟨v, es, h1.kept fun k hk hor => hg.block k hk (fun e => ?_), h2⟩, ?_, s.low.grown hg hpw (fun k hk => by cases hk; exact hpH)⟩
  · injection e with e
    rcases hor with rfl | h
    · exact blkne h1.blk s.row (by decide) e
    · exact own_ne_blk h1.own s.row (by decide) (by rw [h, e])
  · have e1 : (List.replicate (m + 1) [.int .i64 0, .int .i64 0]).flatten = (List.replicate m [.int .i64 0, .int .i64 0]).flatten ++ ([.int .i64 0, .int .i64 0] : List Value) := by
      rw [List.replicate_succ', List.flatten_append]; simp
    have e2 : full.take (N - m) = full.take (N - (m + 1)) ++ [x] := by
      have hlt : N - (m + 1) < full.length := by omega
      rw [show N - m = N - (m + 1) + 1 by omega, List.take_succ_eq_append_getElem hlt]
      have := s.hx
      rw [List.getElem?_eq_getElem hlt] at this
      injection this with this
      rw [this]
    have e3 : splice ((List.replicate (m + 1) [.int .i64 0, .int .i64 0]).flatten ++ ((full.take (N - (m + 1))).reverse).flatMap th.cells) (m * 2) (th.cells x) = (List.replicate m [.int .i64 0, .int .i64 0]).flatten ++ th.cells x ++ ((full.take (N - (m + 1))).reverse).flatMap th.cells := by
      have := splice_mid (List.replicate m [.int .i64 0, .int .i64 0]).flatten ([.int .i64 0, .int .i64 0] : List Value) (((full.take (N - (m + 1))).reverse).flatMap th.cells) (th.cells x) (by rw [th.len]; rfl)
      rw [rep_len] at this
      rw [e1]
      exact this
    rw [e3] at hB
    rw [e2, List.reverse_append, List.flatMap_append, ← List.append_assoc]
    simpa using hB
theorem Best_fl (l : List β) : (l.flatMap th.cells).length = l.length * 2 := by
  induction l with
  | nil => rfl
  | cons a r ih => rw [List.flatMap_cons, List.length_append, ih, th.len, List.length_cons, Nat.add_mul]; omega
theorem best_pos (W : World) (A : Option Addr) (n c kN : Nat) (l : List β) (fv : Value) (hr : RV W A (l.flatMap th.cells)) (hA : A = none ∨ ∃ g off, A = some ⟨g, off, none⟩) (hn : n = l.length) (hF : FvOk th W fv lt (fun _ => True)) (hl : l.length ≤ 1073741824) (hk : 1 ≤ kN) (hk2 : kN ≤ 9223372036854775807) :
    Calls Try.prog 35 #[.slice A n c, .int .i64 kN, fv] W fun e W' => ∃ v, e = .returned v ∧ W'.ownsRow W.heap.size 35 2 v (bestOut lt kN l).length ((bestOut lt kN l).flatMap th.cells) ∧ Below W.heap.size W W' := by
  have hnb : n ≤ 1073741824 := by omega
  have hk1 : ¬ ((kN : Int) < 1) := by omega
  have hk0 : (0 : Int) ≤ (kN : Int) := by omega
  have H0 := Lib.hid (And.intro hr (And.intro hn (And.intro hl (And.intro hk hk2))))
  have HA := Lib.hid hA
  clear hA
  clear hr hn hl hk hk2
  obtain ⟨fv1, hfv1⟩ : ∃ fv1, (fv = .nilFunc ∧ fv1 = .func (.func 54) #[] #[]) ∨ ((∃ g lb, fv = .func (.func g) #[] lb) ∧ fv1 = fv) := by
    rcases hF with ⟨h, _⟩ | ⟨h, _⟩
    · exact ⟨_, .inl ⟨h, rfl⟩⟩
    · exact ⟨_, .inr ⟨h, rfl⟩⟩
  obtain ⟨w1, hw1⟩ : ∃ w1, w1 = W.alloc (.cells #[fv1] 50) := ⟨_, rfl⟩
  have hb1 : Below W.heap.size W w1 := by rw [hw1]; exact ga (gr W) _
  have hz1 : w1.heap.size = W.heap.size + 1 := by rw [hw1, World.size_alloc]
  have hB1 : Boxed w1 W.heap.size 50 fv1 := by rw [hw1]; exact Boxed.new _ _ _
  have hL1 : Less Try.prog w1.heap.size w1 (vl th) (fun _ => True) fv1 lt := by
    rcases hfv1 with ⟨h1, h2⟩ | ⟨h1, h2⟩
    · rcases hF with ⟨h3, h4⟩ | ⟨⟨g, lb, h3⟩, h4⟩
      · rw [h2, h4]; exact flatB_less
      · rw [h3] at h1; cases h1
    · rcases hF with ⟨h3, h4⟩ | ⟨h3, h4⟩
      · obtain ⟨g, lb, h1⟩ := h1; rw [h3] at h1; cases h1
      · rw [h2]; exact Less_mono h4 hb1 hb1.size
  have hL2 := best_less hL1 hB1 (by omega) (Nat.le_refl _)
  obtain ⟨p, hp⟩ : ∃ p, p = W.heap.size + 1 := ⟨_, rfl⟩
  have hp1 : p = w1.heap.size := by rw [hz1, hp]
  rw [← hp1] at hL2
  have HL := Lib.hid hL2
  have HP := Lib.hid (And.intro hp1 (Nat.le_of_eq hp1))
  have HQ := Lib.hid (And.intro hp hw1)
  have H1 := Lib.hid hb1
  clear hL2 hL1 hB1 hb1
  rcases hfv1 with ⟨rfl, rfl⟩ | ⟨⟨g0, lb0, rfl⟩, rfl⟩
  all_goals
    clear hF hz1 hp1 hw1 hp
    have hq : ∀ w, (binOp BinOp.eql 50 .nilFunc .nilFunc).run Try.prog w = .ok (.bool true) w := fun w => rfl
    have hq2 : ∀ w g lb, (binOp BinOp.eql 50 (.func (.func g) #[] lb) .nilFunc).run Try.prog w = .ok (.bool false) w := fun w g lb => rfl
    go_enter Try.func35, Try.ntmps35
    go_wp2_with (first
      | (go_at_call 55
         go_must (refine (PileP.new_any (th := thP th) _ _ 56 #[.pointer (some ⟨W.heap.size, 0, none⟩)] rfl).mono ?_)
         rintro e w3 ⟨rfl, hP3, hb3⟩))
    have hP3' : PileP.PlK (thP th) w3 p p (.slice none 0 0) (.func (.func 56) #[] #[.pointer (some ⟨W.heap.size, 0, none⟩)]) [] 0 := by rw [HQ.out.1]; simpa using hP3
    have hb3' : Below p w1 w3 := by
      have e1 := HQ.out.2
      have e2 := HP.out.1
      rw [e2, e1]
      exact hb3
    have hp := HQ.out.1
    simp only [← hp]
    have X3 := Lib.hid (And.intro hP3' hb3')
    clear hP3 hb3 hP3' hb3' hp hq hq2
    go_loopw [22] (fun v22 wr => ∃ j : Nat, j ≤ n ∧ v22 = .int .i64 j ∧ BS th lt kN l p (.func (.func 56) #[] #[.pointer (some ⟨W.heap.size, 0, none⟩)]) w1 j wr) (fun v _ => n - (intOf v).toNat)
    case atStart => exact ⟨0, Nat.zero_le _, rfl, _, X3.out.1, X3.out.2⟩
    case round =>
      obtain ⟨j, hj, rfl, v, hP, hb⟩ := hrel
      by_cases hlt : j < n
      · have hjl : j < l.length := by rw [← H0.out.2.1]; exact hlt
        have hbW : Below W.heap.size W wr := gt H1.out (by rw [← HP.out.1]; exact hb)
        obtain ⟨ad, hAd, hcs⟩ := rv_at (th := th) (H0.out.1.below hbW) hjl
        obtain ⟨g, off, hgo⟩ : ∃ g off, A = some ⟨g, off, none⟩ := by
          rcases HA.out with h1 | h1
          · rw [h1] at hAd; cases hAd
          · exact h1
        rw [hgo] at hAd
        injection hAd with hAd
        subst hAd
        have hld := load_rv hjl hcs
        have hEl : (bestAll lt kN [] 0 (l.take j)).length ≤ j := by
          have := bestAll_len (lt := lt) kN (l.take j) [] 0
          rw [List.length_take] at this
          simp at this
          omega
        obtain ⟨E, hE⟩ : ∃ E, E = (bestAll lt kN [] 0 (l.take j)).length := ⟨_, rfl⟩
        rw [← hE] at hEl
        have hj1 : j ≤ 1073741824 := by omega
        have hpr : p ≤ wr.heap.size := Nat.le_trans HP.out.2 hb.size
        have cP : ∀ w, Below wr.heap.size wr w → Calls Try.prog 57 #[.pointer (some ⟨p, 0, none⟩), PileP.vl (thP th) (l[j], j)] w fun e W' => (∃ r, e = .returned r) ∧ ∃ v', PileP.PlK (thP th) W' p p v' (.func (.func 56) #[] #[.pointer (some ⟨W.heap.size, 0, none⟩)]) (Heap.push (Heap.ahead (wlt lt)) (bestAll lt kN [] 0 (l.take j)) ((l[j], j), j)) (j + 1) ∧ Below p w1 W' := fun w hbw => by
          have hbb : Below p w1 w := hb.trans (hbw.mono hpr)
          refine (PileP.push_any w (hP.grow hbw) HL.out hbb (Nat.le_trans hpr hbw.size) (Nat.le_refl _) (fun _ _ => trivial) (l[j], j) trivial (by omega) (by omega) (by omega)).mono ?_
          rintro e W' ⟨he, v', h1, h2, _⟩
          exact ⟨he, v', h1, h2.low hbb (Nat.le_trans hpr hbw.size) (fun k hk => by cases hk; exact Nat.le_refl _) (fun k hk => (hP.own.lt k hk).1)⟩
        obtain ⟨y, hy⟩ : ∃ y, y = l[j] := ⟨_, rfl⟩
        have HY := Lib.hid hy
        rw [← hy] at hld cP
        have CP := Lib.hid cP
        have HE := Lib.hid hE.symm
        have HK := Lib.hid hjl
        have HJ := Lib.hid (show E + 1 ≤ 1152921504606846976 by omega)
        have HJ2 := Lib.hid hlt
        have hji : (j : Int) < (n : Int) := by omega
        have hj0 : (0 : Int) ≤ (j : Int) := by omega
        have hE0 : (0 : Int) ≤ (E : Int) := by omega
        have hE1 : (E : Int) ≤ 1073741824 := by omega
        subst hgo
        by_cases hgt : kN < E + 1
        · have hgt2 := Lib.hid hgt
          have hgt3 : decide ((kN : Int) < (E : Int) + 1) = true := by rw [decide_eq_true_iff]; omega
          clear hy hcs hEl hE cP hP hb hbW hj hlt hj1 hpr hgt
          go_wp2_with (first
            | ((with_reducible show wpList _ _ _ (⟨some 26, _, _, _, _, _⟩ :: _) _ _)
               go_must (refine wpList_val (o := ⟨some 26, _, _, _, _, _⟩) (v := vl th y) rfl (by simp [execOp, Act.eval, hld, Result.andThen]) ?_))
            | ((with_reducible show wpList _ _ _ (⟨some 9, _, _, _, _, _⟩ :: _) _ _)
               go_must (refine wpList_allocT (o := ⟨some 9, _, _, _, _, _⟩) rfl rfl _ rfl ?_)
               intro w5 hB5 hb5 hz5)
            | ((with_reducible show wpList _ _ _ (⟨none, .store 35 (.tmp 9) _, _, _, _, _⟩ :: _) _ _)
               go_must (refine wpList_storeT (th := th) (o := ⟨none, .store 35 (.tmp 9) _, _, _, _, _⟩) rfl (.tmp 9) (.tmp 26) rfl wr.heap.size (by go_simp) y (by go_simp) _ hB5 rfl ?_)
               intro w6 hB6 hg6 hz6
               have hb6 : Below wr.heap.size wr w6 := hb5.grown hg6 hb5.size (fun k hk => by cases hk; exact Nat.le_refl _)
               clear hB5 hz5 hg6 hz6)
            | ((with_reducible show wpList _ _ _ (⟨some 28, _, _, _, _, _⟩ :: _) _ _)
               go_must (refine wpList_loadT (th := th) (o := ⟨some 28, _, _, _, _, _⟩) rfl (.tmp 9) rfl wr.heap.size 0 (by go_simp) _ _ hB6 y (whole_of y) ?_))
            | ((with_reducible show wpList _ _ _ (⟨some 30, _, _, _, _, _⟩ :: _) _ _)
               go_must (refine wpList_val (o := ⟨some 30, _, _, _, _, _⟩) (v := PileP.vl (thP th) (y, j)) rfl (buildP y j w6 rfl (by go_simp) (by go_simp)) ?_))
            | (go_at_call 57
               go_must (refine (CP.out w6 hb6).mono ?_)
               rintro e w7 ⟨⟨r7, rfl⟩, v7, hP7, hb7⟩
               have cL := PileP.len_any w7 hP7
               rw [push_len, HE.out] at cL
               have X7 := Lib.hid (And.intro hP7 hb7)
               clear hP7 hb7)
            | (go_at_call 58
               go_must (refine cL.mono ?_)
               rintro e w8 ⟨rfl, hb8⟩
               have X8 := Lib.hid hb8
               clear hb8 cL)
            | (go_at_call 59
               go_must (refine (PileP.pop_any w8 (X7.out.1.grow X8.out) HL.out (X7.out.2.trans (X8.out.mono (Nat.le_of_lt X7.out.1.blk.lt))) (Nat.le_of_lt (X7.out.1.grow X8.out).blk.lt) (Nat.le_refl _) (fun _ _ => trivial) (by rw [push_len]; omega) (by rw [push_len, HE.out]; have := HJ.out; omega)).mono ?_)
               rintro e w9 ⟨rfl, v9, hP9, hg9, hv9⟩
               have X9 := Lib.hid (And.intro hP9 (hg9.low (X7.out.2.trans (X8.out.mono (Nat.le_of_lt X7.out.1.blk.lt))) (Nat.le_of_lt (X7.out.1.grow X8.out).blk.lt) (fun k hk => by cases hk; exact Nat.le_refl _) (fun k hk => ((X7.out.1.grow X8.out).own.lt k hk).1)))
               clear hP9 hg9 hv9))
          go_roundw
          case rel => exact ⟨j + 1, HJ2.out, by go_num, _, by rw [bestAll_take kN l HK.out]; unfold bestStep; rw [push_len, HE.out, if_pos hgt2.out, ← HY.out]; exact X9.out.1, X9.out.2⟩
          case measure => exact meas_in HJ2.out
        · have hgt2 := Lib.hid hgt
          have hgt3 : decide ((kN : Int) < (E : Int) + 1) = false := by rw [decide_eq_false_iff_not]; omega
          clear hy hcs hEl hE cP hP hb hbW hj hlt hj1 hpr hgt
          go_wp2_with (first
            | ((with_reducible show wpList _ _ _ (⟨some 26, _, _, _, _, _⟩ :: _) _ _)
               go_must (refine wpList_val (o := ⟨some 26, _, _, _, _, _⟩) (v := vl th y) rfl (by simp [execOp, Act.eval, hld, Result.andThen]) ?_))
            | ((with_reducible show wpList _ _ _ (⟨some 9, _, _, _, _, _⟩ :: _) _ _)
               go_must (refine wpList_allocT (o := ⟨some 9, _, _, _, _, _⟩) rfl rfl _ rfl ?_)
               intro w5 hB5 hb5 hz5)
            | ((with_reducible show wpList _ _ _ (⟨none, .store 35 (.tmp 9) _, _, _, _, _⟩ :: _) _ _)
               go_must (refine wpList_storeT (th := th) (o := ⟨none, .store 35 (.tmp 9) _, _, _, _, _⟩) rfl (.tmp 9) (.tmp 26) rfl wr.heap.size (by go_simp) y (by go_simp) _ hB5 rfl ?_)
               intro w6 hB6 hg6 hz6
               have hb6 : Below wr.heap.size wr w6 := hb5.grown hg6 hb5.size (fun k hk => by cases hk; exact Nat.le_refl _)
               clear hB5 hz5 hg6 hz6)
            | ((with_reducible show wpList _ _ _ (⟨some 28, _, _, _, _, _⟩ :: _) _ _)
               go_must (refine wpList_loadT (th := th) (o := ⟨some 28, _, _, _, _, _⟩) rfl (.tmp 9) rfl wr.heap.size 0 (by go_simp) _ _ hB6 y (whole_of y) ?_))
            | ((with_reducible show wpList _ _ _ (⟨some 30, _, _, _, _, _⟩ :: _) _ _)
               go_must (refine wpList_val (o := ⟨some 30, _, _, _, _, _⟩) (v := PileP.vl (thP th) (y, j)) rfl (buildP y j w6 rfl (by go_simp) (by go_simp)) ?_))
            | (go_at_call 57
               go_must (refine (CP.out w6 hb6).mono ?_)
               rintro e w7 ⟨⟨r7, rfl⟩, v7, hP7, hb7⟩
               have cL := PileP.len_any w7 hP7
               rw [push_len, HE.out] at cL
               have X7 := Lib.hid (And.intro hP7 hb7)
               clear hP7 hb7)
            | (go_at_call 58
               go_must (refine cL.mono ?_)
               rintro e w8 ⟨rfl, hb8⟩
               have X8 := Lib.hid hb8
               clear hb8 cL))
          go_roundw
          case rel => exact ⟨j + 1, HJ2.out, by go_num, _, by rw [bestAll_take kN l HK.out]; unfold bestStep; rw [push_len, HE.out, if_neg hgt2.out, ← HY.out]; exact X7.out.1.grow X8.out, X7.out.2.trans (X8.out.mono (Nat.le_of_lt X7.out.1.blk.lt))⟩
          case measure => exact meas_in HJ2.out
      · obtain rfl : n = j := by omega
        obtain ⟨es, hes⟩ : ∃ es, es = bestAll lt kN [] 0 l := ⟨_, rfl⟩
        have hP4 : PileP.PlK (thP th) wr p p v (.func (.func 56) #[] #[.pointer (some ⟨W.heap.size, 0, none⟩)]) es n := by
          have h1 := hP
          rw [H0.out.2.1, List.take_length] at h1
          rw [hes, H0.out.2.1]
          exact h1
        obtain ⟨N, hN⟩ : ∃ N, N = es.length := ⟨_, rfl⟩
        have hNl : N ≤ 1073741824 := by
          have := bestAll_len (lt := lt) kN l [] 0
          rw [hN, hes]
          have := H0.out.2.2.1
          simp at *
          omega
        obtain ⟨full, hfull⟩ : ∃ full, full = (popAll (Heap.ahead (wlt lt)) N es).map (·.1.1) := ⟨_, rfl⟩
        have hfl : full.length = N := by rw [hfull, List.length_map, popAll_len]
        have hbo : bestOut lt kN l = full.reverse := by unfold bestOut; rw [hfull, hN, hes]
        have cL := PileP.len_any wr hP4
        rw [← hN] at cL
        have hbW : Below W.heap.size W wr := gt H1.out (by rw [← HP.out.1]; exact hb)
        have X4 := Lib.hid (And.intro hP4 (And.intro hb (And.intro hbW (And.intro hN (And.intro hfull hbo)))))
        have HN := Lib.hid hfl
        have hN0 : (0 : Int) ≤ (N : Int) := by omega
        have hN1 : (N : Int) ≤ 1073741824 := by omega
        clear hP hb hP4 hes hN hfull hbo hbW hj hlt hfl
        rename World => W4
        go_wp2_with (first
          | (go_at_call 58
             go_must (refine cL.mono ?_)
             rintro e w5 ⟨rfl, hb5⟩)
          | ((with_reducible show wpList _ _ _ (⟨some 41, _, _, _, _, _⟩ :: _) _ _)
             go_must (refine wpList_makeM ET (o := ⟨some 41, _, _, _, _, _⟩) rfl _ _ rfl .i64 .i64 _ _ N N rfl rfl rfl rfl (Nat.le_refl _) (by omega) (by unfold maxLen; omega) _ rfl ?_)
             intro w6 hB6 hb6 hz6))
        obtain ⟨H, hH⟩ : ∃ H, H = w5.heap.size := ⟨_, rfl⟩
        have hpH : p ≤ H := by rw [hH]; exact Nat.le_trans (Nat.le_of_lt X4.out.1.blk.lt) hb5.size
        have hs0 : BO th lt full N p H (.func (.func 56) #[] #[.pointer (some ⟨W.heap.size, 0, none⟩)]) n w1 N w6 := by
          refine ⟨⟨v, es, (X4.out.1.grow hb5).grow hb6, X4.out.2.2.2.1.symm, ?_⟩, ?_, (X4.out.2.1.trans (hb5.mono (Nat.le_of_lt X4.out.1.blk.lt))).trans (hb6.mono (by rw [← hH]; exact hpH))⟩
          · rw [Nat.sub_self, List.drop_zero]; exact X4.out.2.2.2.2.1.symm
          · rw [Nat.sub_self, hH]; simpa using hB6
        simp only [← hH]
        have hWH : W.heap.size ≤ H := by rw [hH]; exact Nat.le_trans X4.out.2.2.1.size hb5.size
        have S0 := Lib.hid (And.intro hs0 (And.intro hpH hWH))
        clear hs0 hpH hB6 hb6 hz6 hH hb5 cL hWH
        go_loopw [11] (fun v11 wr => ∃ (m : Nat) (iv : Int), m ≤ N ∧ v11 = .int .i64 iv ∧ iv = (m : Int) - 1 ∧ BO th lt full N p H (.func (.func 56) #[] #[.pointer (some ⟨W.heap.size, 0, none⟩)]) n w1 m wr) (fun v _ => (intOf v + 1).toNat)
        case atStart => exact ⟨N, _, Nat.le_refl _, rfl, rfl, S0.out.1⟩
        case round =>
          obtain ⟨m, iv, hm, rfl, hiv, hs⟩ := hrel
          by_cases h0 : 0 < m
          · obtain ⟨m, rfl⟩ : ∃ m', m = m' + 1 := ⟨m - 1, by omega⟩
            obtain rfl : iv = (m : Int) := by omega
            have cP := hs.pop HL.out HP.out.2 hm hNl HN.out
            have hmN : (m : Int) < (N : Int) := by omega
            have hm0 : (0 : Int) ≤ (m : Int) := by omega
            have HM := Lib.hid hm
            have HN2 := Lib.hid (And.intro hm (And.intro HN.out S0.out.2.1))
            clear hs hm hiv h0
            go_wp2_with (first
              | (go_at_call 59
                 go_must (refine cP.mono ?_)
                 rintro e w7 ⟨x, rfl, s7⟩
                 have X7 := Lib.hid s7
                 clear s7)
              | ((with_reducible show wpList _ _ _ (⟨some 12, _, _, _, _, _⟩ :: _) _ _)
                 go_must (refine PileP.wpList_allocT (o := ⟨some 12, _, _, _, _, _⟩) rfl rfl _ rfl ?_)
                 intro w8 hB8 hb8 hz8
                 clear hz8)
              | ((with_reducible show wpList _ _ _ (⟨none, .store 95 (.tmp 12) _, _, _, _, _⟩ :: _) _ _)
                 go_must (refine PileP.wpList_storeT (th := thP th) (o := ⟨none, .store 95 (.tmp 12) _, _, _, _, _⟩) rfl (.tmp 12) (.tmp 52) rfl w7.heap.size (by go_simp) x (by go_simp) _ hB8 rfl ?_)
                 intro w9 hB9 hg9 hz9
                 have hb9 : Below w7.heap.size w7 w9 := hb8.grown hg9 hb8.size (fun k hk => by cases hk; exact Nat.le_refl _)
                 clear hB8 hg9 hz9 hb8)
              | ((with_reducible show wpList _ _ _ (⟨some 57, _, _, _, _, _⟩ :: _) _ _)
                 go_must (refine wpList_loadT (th := th) (o := ⟨some 57, _, _, _, _, _⟩) rfl (.tmp 56) rfl w7.heap.size 0 (by go_simp) _ _ hB9 x.1 (thP_thing x) ?_))
              | ((with_reducible show wpList _ _ _ (⟨none, .store 35 (.tmp 58) _, _, _, _, _⟩ :: _) _ _)
                 have hpw7 := Nat.le_trans HP.out.2 X7.out.low.size
                 have s9 := X7.out.grow hpw7 hb9
                 go_must (refine wpList_storeAtT (th := th) (o := ⟨none, .store 35 (.tmp 58) _, _, _, _, _⟩) rfl (.tmp 58) (.tmp 57) rfl H (m * 2) (by go_simp) x.1 (by go_simp) _ _ s9.row (by rw [List.length_append, rep_len]; omega) ?_)
                 intro w10 hB10 hg10 hz10
                 have s10 := s9.store HN2.out.1 HN2.out.2.1 HN2.out.2.2 (Nat.le_trans hpw7 hb9.size) hB10 hg10
                 have X10 := Lib.hid s10
                 clear s9 s10 hB10 hg10 hz10 hB9 hb9 hpw7))
            go_roundw
            case rel => exact ⟨m, _, by have := HM.out; omega, rfl, rfl, X10.out⟩
            case measure => simp [intOf]; try omega
          · obtain rfl : m = 0 := by omega
            subst hiv
            have X5 := Lib.hid hs
            clear hs hm h0
            go_wp2
            go_ret
            have hrow := X5.out.row
            have hbx := X5.out.low
            refine ⟨_, rfl, ?_, gt H1.out (by rw [← HP.out.1]; exact hbx)⟩
            have e1 : (List.replicate 0 [.int .i64 0, .int .i64 0]).flatten ++ ((full.take (N - 0)).reverse).flatMap th.cells = (bestOut lt kN l).flatMap th.cells := by
              rw [X4.out.2.2.2.2.2, Nat.sub_zero, List.take_of_length_le (by rw [HN.out]; exact Nat.le_refl _)]; rfl
            rw [e1] at hrow
            have e2 : (bestOut lt kN l).length = N := by rw [X4.out.2.2.2.2.2, List.length_reverse, HN.out]
            rw [e2]
            exact own_made hrow S0.out.2.2 (by rw [← e2, Best_fl]) (by unfold maxLen; omega)
theorem best_any (o : Swo lt) (W : World) (A : Option Addr) (n c : Nat) (k : Int) (l : List β) (fv : Value) (hr : RV W A (l.flatMap th.cells)) (hA : A = none ∨ ∃ g off, A = some ⟨g, off, none⟩) (hn : n = l.length) (hF : FvOk th W fv lt (fun _ => True)) (hl : l.length ≤ 1073741824) (hk : k ≤ 9223372036854775807) :
    Calls Try.prog 35 #[.slice A n c, .int .i64 k, fv] W fun e W' => ∃ v, e = .returned v ∧ W'.ownsRow W.heap.size 35 2 v ((msort lt l).take k.toNat).length (((msort lt l).take k.toNat).flatMap th.cells) ∧ Below W.heap.size W W' := by
  by_cases h : k < 1
  · have e : (msort lt l).take k.toNat = [] := by rw [show k.toNat = 0 by omega]; rfl
    rw [e]
    refine (best_none W A n c k fv ?_ h).mono fun e W' ⟨h1, h2⟩ => ⟨_, h1, World.ownsRow_nil _ _ _ _, h2⟩
    rcases hF with ⟨h, _⟩ | ⟨h, _⟩
    · exact .inl h
    · exact .inr h
  · obtain ⟨kN, rfl⟩ : ∃ kN : Nat, k = (kN : Int) := ⟨k.toNat, by omega⟩
    rw [← best_eq o]
    exact best_pos W A n c kN l fv hr hA hn hF hl (by omega) (by omega)
end
end Go.Proofs.Ytdebokambldbbaa.PileI
