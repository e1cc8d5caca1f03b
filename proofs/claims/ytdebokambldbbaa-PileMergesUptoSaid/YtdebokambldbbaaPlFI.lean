/- pile over I: Drain. -/
import Derived.Test.YtdebokambldbbaaPlDI
namespace Go.Proofs.Ytdebokambldbbaa.PileI
open Go.RowKit Go.Shelf Go.Proofs.Ytdebokambldbbaa.Mem Go.Proofs.Ytdebokambldbbaa.Heap Go.Proofs.Ytdebokambldbbaa.Pile Go.Proofs.Ytdebokambldbbaa.Drain
attribute [local go_sem] Oper.semAt_some
set_option linter.unusedVariables false
set_option linter.unusedSectionVars false
set_option maxRecDepth 100000
set_option maxHeartbeats 3200000

section
variable {β : Type} [Inhabited β] {th : Th β 2}
theorem drain_any (W : World) (pv : Value) (hpv : ∃ a, pv = .pointer a) : Calls Try.prog 21 #[pv] W fun e W' => e = .returned (.func (.func 47) #[] #[.pointer (some ⟨W.heap.size, 0, none⟩)]) ∧ Boxed W' W.heap.size 30 pv ∧ W' = W.alloc (.cells #[pv] 30) := by
  obtain ⟨a, rfl⟩ := hpv
  go_enter Try.func21, Try.ntmps21
  go_wp2
  go_ret
  exact ⟨rfl, Boxed.new _ _ _, rfl⟩
theorem drain_seq (b : Nat) (pv : Value) : DrainSeq Try.prog 47 #[.pointer (some ⟨b, 0, none⟩)] 17 pv zv (vl th) (fun W => Boxed W b 30 pv) := by
  intro σ μ l J Jd Jx J1 hC hGd hG1 hpop hY s W h0
  have HC := Lib.hid hC
  have HGd := Lib.hid hGd
  have HG1 := Lib.hid hG1
  have HP := Lib.hid hpop
  have HY := Lib.hid hY
  clear hC hpop hY hGd hG1
  refine callsIn_of_wp Try.func47 rfl trivial ?_ rfl
  simp only [Try.ntmps47, List.size_toArray, List.length_cons, List.length_nil, Nat.reduceAdd, Nat.reduceSub, Array.replicate_succ, Array.replicate_zero, List.push_toArray, List.append_toArray, List.nil_append, List.cons_append]
  gi_wp2
  gi_loopw [4] (fun _ wr => ∃ s, J s wr) (fun _ wr => leastOf (fun n => ∃ s, J s wr ∧ μ s = n))
  case atStart => exact ⟨s, h0⟩
  case round =>
    obtain ⟨s1, h1⟩ := hrel
    obtain ⟨⟨s0, hJ, hm⟩, hmin⟩ := leastOf_spec (p := fun n => ∃ s, J s wr ∧ μ s = n) ⟨_, s1, h1, rfl⟩
    have c0 := (HC.out _ _ hJ).cell
    have HM := Lib.hid (And.intro hm hJ)
    clear h1 h0 hmin hm
    gi_wp2
    refine ⟨trivial, (callsIn_wide.2 (HP.out s0 wr hJ)).mono ?_⟩
    rintro e w1 (⟨rfl, hd⟩ | ⟨x, rfl, h1⟩)
    · unfold zv
      gi_wp2
      refine ⟨fun f h => (by cases h), ?_⟩
      gi_wp2
      refine bodyPost_ret (results_none rfl _ _ _) rfl ?_
      exact ⟨⟨_, rfl⟩, .inl ⟨s0, HGd.out s0 w1 _ (ga (gr w1) _) hd⟩⟩
    · have HJ1 := Lib.hid h1
      clear h1
      gi_wp2_with (first
        | ((with_reducible show wpListIn _ _ _ _ _ (⟨some 3, _, _, _, _, _⟩ :: _) _ _)
           go_must (refine wpListIn_val (o := ⟨some 3, _, _, _, _, _⟩) rfl (run_allocT rfl) (fun _ => trivial) (fun c hc => by cases hc) ?_)
           obtain ⟨w3, hr3, hB3, hg3, hz3⟩ := run_storeT (th := th) (b := x) (Blk.new w1 35 [.int .i64 0, .int .i64 0]) rfl)
        | ((with_reducible show wpListIn _ _ _ _ _ (⟨none, .store 35 (.tmp 3) _, _, _, _, _⟩ :: _) _ _)
           go_must (refine wpListIn_skip_ (o := ⟨none, .store 35 (.tmp 3) _, _, _, _, _⟩) (w' := w3) rfl (by simp [execOp, Act.eval, Act.put, hr3, Result.andThen]) (fun _ => trivial) (fun c hc => by cases hc) ?_)
           obtain ⟨fn, tmps, assign, body, hy, hR⟩ := HY.out s0 x w3 (HG1.out s0 x w1 w3 ((ga (gr w1) _).grown hg3 (by simp) (fun k hk => by cases hk; exact Nat.le_refl _)) HJ1.out))
        | ((with_reducible show wpListIn _ _ _ _ _ (⟨some 14, _, _, _, _, _⟩ :: _) _ _)
           go_must (refine wpListIn_valG (o := ⟨some 14, _, _, _, _, _⟩) (w' := w3) (v := vl th x) (by go_simp) (by simp [execOp, Act.eval, Act.put, loadT hB3 (whole_of x), Result.andThen]) (fun _ => trivial) (fun c hc => by cases hc) ?_)))
      refine hR.mono ?_
      rintro e W3 (⟨rfl, s', hlt, hJ3⟩ | ⟨rfl, s', hJx3⟩)
      · gi_wp2
        go_roundw
        case rel => exact ⟨s', hJ3⟩
        case measure =>
          obtain ⟨hm, _⟩ := HM.out
          have := (leastOf_spec (p := fun n => ∃ s, J s W3 ∧ μ s = n) ⟨_, s', hJ3, rfl⟩).2 _ ⟨s', hJ3, rfl⟩
          omega
      · gi_wp2
        refine bodyPost_ret (results_none rfl _ _ _) rfl ?_
        exact ⟨⟨_, rfl⟩, .inr ⟨s', hJx3⟩⟩
end
end Go.Proofs.Ytdebokambldbbaa.PileI
