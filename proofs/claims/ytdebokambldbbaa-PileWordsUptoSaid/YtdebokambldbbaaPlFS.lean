/- pile over S: Drain. -/
import Derived.Test.YtdebokambldbbaaPlDS
namespace Go.Proofs.Ytdebokambldbbaa.PileS
open Go.RowKit Go.Shelf Go.Proofs.Ytdebokambldbbaa.Mem Go.Proofs.Ytdebokambldbbaa.Heap Go.Proofs.Ytdebokambldbbaa.Pile Go.Proofs.Ytdebokambldbbaa.Drain
attribute [local go_sem] Oper.semAt_some
set_option linter.unusedVariables false
set_option linter.unusedSectionVars false
set_option maxRecDepth 100000
set_option maxHeartbeats 3200000

section
variable {β : Type} [Inhabited β] {th : Th β 1}
theorem drain_any (W : World) (pv : Value) (hpv : ∃ a, pv = .pointer a) : Calls Try.prog 62 #[pv] W fun e W' => e = .returned (.func (.func 85) #[] #[.pointer (some ⟨W.heap.size, 0, none⟩)]) ∧ Boxed W' W.heap.size 100 pv ∧ W' = W.alloc (.cells #[pv] 100) := by
  obtain ⟨a, rfl⟩ := hpv
  go_enter Try.func62, Try.ntmps62
  go_wp2
  go_ret
  exact ⟨rfl, Boxed.new _ _ _, rfl⟩
theorem drain_seq (b : Nat) (pv : Value) : DrainSeq Try.prog 85 #[.pointer (some ⟨b, 0, none⟩)] 86 pv zv (vl th) (fun W => Boxed W b 100 pv) := by
  intro σ μ l J Jd Jx J1 hC hGd hG1 hpop hY s W h0
  have HC := Lib.hid hC
  have HGd := Lib.hid hGd
  have HG1 := Lib.hid hG1
  have HP := Lib.hid hpop
  have HY := Lib.hid hY
  clear hC hpop hY hGd hG1
  refine callsIn_of_wp Try.func85 rfl trivial ?_ rfl
  simp only [Try.ntmps85, List.size_toArray, List.length_cons, List.length_nil, Nat.reduceAdd, Nat.reduceSub, Array.replicate_succ, Array.replicate_zero, List.push_toArray, List.append_toArray, List.nil_append, List.cons_append]
  gi_wp2
  gi_loopw [4] (fun _ wr => ∃ s, J s wr) (fun _ wr => leastOf (fun n => ∃ s, J s wr ∧ μ s = n))
  case atStart => exact ⟨s, h0⟩
  case round =>
    obtain ⟨s1, h1⟩ := hrel
    obtain ⟨⟨s0, hJ, hm⟩, hmin⟩ := leastOf_spec (p := fun n => ∃ s, J s wr ∧ μ s = n) ⟨_, s1, h1, rfl⟩
    have c0 := (HC.out _ _ hJ).cell
    have HM := Lib.hid (And.intro hm hJ)
    clear h1 h0 hmin hm
    gi_wp2
    refine ⟨trivial, (callsIn_wide.2 (HP.out s0 wr hJ)).mono ?_⟩
    rintro e w1 (⟨rfl, hd⟩ | ⟨x, rfl, h1⟩)
    · unfold zv
      gi_wp2
      refine ⟨fun f h => (by cases h), ?_⟩
      gi_wp2
      refine bodyPost_ret (results_none rfl _ _ _) rfl ?_
      exact ⟨⟨_, rfl⟩, .inl ⟨s0, hd⟩⟩
    · obtain ⟨fn, tmps, assign, body, hy, hR⟩ := HY.out s0 x w1 h1
      gi_wp2
      refine hR.mono ?_
      rintro e W3 (⟨rfl, s', hlt, hJ3⟩ | ⟨rfl, s', hJx3⟩)
      · gi_wp2
        go_roundw
        case rel => exact ⟨s', hJ3⟩
        case measure =>
          obtain ⟨hm, _⟩ := HM.out
          have := (leastOf_spec (p := fun n => ∃ s, J s W3 ∧ μ s = n) ⟨_, s', hJ3, rfl⟩).2 _ ⟨s', hJ3, rfl⟩
          omega
      · gi_wp2
        refine bodyPost_ret (results_none rfl _ _ _) rfl ?_
        exact ⟨⟨_, rfl⟩, .inr ⟨s', hJx3⟩⟩
end
end Go.Proofs.Ytdebokambldbbaa.PileS
