/- pile over I: Merge. -/
import Derived.Test.YtdebokambldbbaaPlMLI
import Derived.Test.YtdebokambldbbaaPlEH
import Derived.Test.YtdebokambldbbaaRgI
import Derived.Laws.EntriesVeiled
namespace Go.Proofs.Ytdebokambldbbaa.PileI
open Go.RowKit Go.Shelf Go.Proofs.Ytdebokambldbbaa.Mem Go.Proofs.Ytdebokambldbbaa.Heap Go.Proofs.Ytdebokambldbbaa.Pile Go.Proofs.Ytdebokambldbbaa.Drain
attribute [local go_sem] Oper.semAt_some
set_option linter.unusedVariables false
set_option linter.unusedSectionVars false
set_option linter.unusedSimpArgs false
set_option maxRecDepth 100000
set_option maxHeartbeats 6400000

section
variable {β : Type} [Inhabited β] {th : Th β 2}
/-- the pile of heads while it is emptied -/
structure MH (th : Th β 2) (ls : List (List β)) (G c : Nat → Nat) (p bh bo bd : Nat) (fv3 : Value) (W0 : World) (o : List β) (es : List ((Nat × Nat) × Nat)) (nx : Nat) (W : World) : Prop where
  pl : ∃ v, PileH.PlK (thM ls G c) W p p v fv3 es nx
  out : ∃ u, Boxed W bo 32 u ∧ W.ownsRow p 35 2 u o.length (o.flatMap th.cells)
  bxd : Boxed W bd 83 (.pointer (some ⟨p, 0, none⟩))
  bxh : Boxed W bh 83 (.pointer (some ⟨p, 0, none⟩))
  low : Below p W0 W
variable {lt : β → β → Bool} {ls : List (List β)} {G c : Nat → Nat} {p bh bo bd : Nat} {fv3 : Value} {W0 W W' : World} {o : List β} {es : List ((Nat × Nat) × Nat)} {nx : Nat}
theorem blkneM {g g' : Nat} {T T' : TypeId} {cs cs' : List Value} (h : Blk W g T cs) (h' : Blk W g' T' cs') (hT : T ≠ T') : g ≠ g' := by
  rintro rfl
  have := (show W.heap[g]? = _ from h).symm.trans h'
  simp at this
  exact hT this.2
theorem own_lowM {w : World} {B B' n size : Nat} {T : TypeId} {v : Value} {xs : List Value} (h : w.ownsRow B T size v n xs) (hB : B' ≤ B) : w.ownsRow B' T size v n xs := by
  refine ⟨h.1, ?_⟩
  rcases h.2 with h' | ⟨g, cap, cur, hv, hb, rest⟩
  · exact .inl h'
  · exact .inr ⟨g, cap, cur, hv, Nat.le_trans hB hb, rest⟩
theorem MH.turned {B : Nat} {row : Option Nat} (s : MH th ls G c p bh bo bd fv3 W0 o es nx W) (hB : p ≤ B) (h0 : p ≤ W0.heap.size) (hg : W.grownBy W' row) (hr : ∀ r, row = some r → B ≤ r ∧ ∃ o : Obj, W.heap[r]? = some o ∧ o.isCells = false) : MH th ls G c p bh bo bd fv3 W0 o es nx W' := by
  obtain ⟨v, hp⟩ := s.pl
  obtain ⟨u, hb, ho⟩ := s.out
  have hr' : ∀ r, row = some r → ∃ o : Obj, W.heap[r]? = some o ∧ o.isCells = false := fun r e => (hr r e).2
  exact ⟨⟨v, hp.turned hg hr'⟩, ⟨u, boxed_turned hb hg hr', own_turned ho hg hr'⟩, boxed_turned s.bxd hg hr', boxed_turned s.bxh hg hr', s.low.grown hg (Nat.le_trans h0 s.low.size) (fun k e => Nat.le_trans hB (hr k e).1)⟩
theorem MH.grow (s : MH th ls G c p bh bo bd fv3 W0 o es nx W) (h0 : p ≤ W0.heap.size) (hb : Below W.heap.size W W') : MH th ls G c p bh bo bd fv3 W0 o es nx W' :=
  s.turned (row := none) (Nat.le_refl p) h0 ⟨hb.os, hb.tape, hb.output, hb.size, fun k hk _ => hb.block k hk⟩ (fun r e => by cases e)
theorem MH.own (h0 : p ≤ W0.heap.size) {B : Nat} (hB : p ≤ B) {γ : Type} (f : γ → List β) (g : γ → List ((Nat × Nat) × Nat)) (e : γ → Nat) : OwnFrom B (fun (s : γ) W => MH th ls G c p bh bo bd fv3 W0 (f s) (g s) (e s) W) := fun s W W' row hs hg hr => hs.turned hB h0 hg hr
theorem MH.step (s : MH th ls G c p bh bo bd fv3 W0 o es nx W) (h0 : p ≤ W0.heap.size) {v v' : Value} {es' : List ((Nat × Nat) × Nat)} {nx' : Nat} (h : PileH.PlK (thM ls G c) W p p v fv3 es nx) (h' : PileH.PlK (thM ls G c) W' p p v' fv3 es' nx') (hg : Grown2 W W' (some p) v.ownBlock) : KeepsOthers W W' ∧ MH th ls G c p bh bo bd fv3 W0 o es' nx' W' := by
  obtain ⟨u, hb, ho⟩ := s.out
  have nb : ∀ {g : Nat} {T : TypeId} {cs : List Value}, Blk W g T cs → T ≠ 128 → T ≠ 130 → Blk W' g T cs := fun hbl e1 e2 => hg.blk hbl (fun e => blkneM hbl h.blk e1 (by injection e)) (fun e => own_ne_blk h.own hbl e2.symm e.symm)
  exact ⟨h.others hg, ⟨v', h'⟩, ⟨u, nb hb (by decide) (by decide), hg.own ho (.inr (own_ne_blk ho h.blk (by decide))) (own_ne_own ho h.own (by decide))⟩, nb s.bxd (by decide) (by decide), nb s.bxh (by decide) (by decide), hg.low s.low (Nat.le_trans h0 s.low.size) (fun k e => by cases e; exact Nat.le_refl _) (fun k e => (h.own.lt k e).1)⟩
theorem MH.pop (s : MH th ls G c p bh bo bd fv3 W0 o es nx W) (hL : Less Try.prog p W0 (PileH.vl (thM ls G c)) (headOk ls) fv3 (hlt lt ls)) (h0 : p ≤ W0.heap.size) (hd : ∀ e ∈ es, headOk ls e.1) (hl : es.length ≤ 1073741824) :
    Calls Try.prog 78 #[.pointer (some ⟨p, 0, none⟩)] W fun e W' => KeepsOthers W W' ∧ ((e = .returned (.tuple #[PileH.zv, .bool false]) ∧ es = [] ∧ MH th ls G c p bh bo bd fv3 W0 o es nx W') ∨
      (∃ x, e = .returned (.tuple #[PileH.vl (thM ls G c) x, .bool true]) ∧ 0 < es.length ∧ x = (nth es 0).1 ∧ MH th ls G c p bh bo bd fv3 W0 o (Heap.pop (Heap.ahead (hlt lt ls)) es) nx W')) := by
  obtain ⟨v, hp⟩ := s.pl
  refine (PileH.pop_step W hp hL s.low (Nat.le_trans h0 s.low.size) (Nat.le_refl _) hd (by omega)).mono ?_
  rintro e W' ⟨hk, hlow, hg, (⟨rfl, h1, hp'⟩ | ⟨x, r, rfl, hpos, hx, hr, v', hp', hv'⟩)⟩
  · obtain ⟨k1, k2⟩ := s.step h0 hp hp' hg
    exact ⟨k1, .inl ⟨rfl, h1, k2⟩⟩
  · obtain ⟨k1, k2⟩ := s.step h0 hp (hr ▸ hp') hg
    exact ⟨k1, .inr ⟨x, rfl, hpos, hx, k2⟩⟩
theorem MH.push (s : MH th ls G c p bh bo bd fv3 W0 o es nx W) (hL : Less Try.prog p W0 (PileH.vl (thM ls G c)) (headOk ls) fv3 (hlt lt ls)) (h0 : p ≤ W0.heap.size) (hd : ∀ e ∈ es, headOk ls e.1) (hl : es.length ≤ 1073741824) (hnx : nx ≤ 2147483648) (x : Nat × Nat) (hx : headOk ls x) :
    Calls Try.prog 52 #[.pointer (some ⟨p, 0, none⟩), PileH.vl (thM ls G c) x] W fun e W' => (∃ r, e = .returned r) ∧ KeepsOthers W W' ∧ MH th ls G c p bh bo bd fv3 W0 o (Heap.push (Heap.ahead (hlt lt ls)) es (x, nx)) (nx + 1) W' := by
  obtain ⟨v, hp⟩ := s.pl
  refine (PileH.push_any W hp hL s.low (Nat.le_trans h0 s.low.size) (Nat.le_refl _) hd x hx (by omega) (by omega) (by omega)).mono ?_
  rintro e W' ⟨hr, v', hp', hg, _⟩
  obtain ⟨k1, k2⟩ := s.step h0 hp hp' hg
  exact ⟨hr, k1, k2⟩
theorem MH.app (s : MH th ls G c p bh bo bd fv3 W0 o es nx W) (h0 : p ≤ W0.heap.size) (hpo : p ≤ bo) {u v' : Value} {x : β} {w3 : World} (hu : Boxed W bo 32 u) (ho : W.ownsRow p 35 2 u o.length (o.flatMap th.cells))
    (ho3 : w3.ownsRow p 35 2 v' (o.length + 1) (o.flatMap th.cells ++ th.cells x)) (hg3 : W.grownBy w3 u.ownBlock) :
    Boxed w3 bo 32 u ∧ KeepsOthers W (w3.setCell ⟨bo, 0, none⟩ v') ∧ MH th ls G c p bh bo bd fv3 W0 (o ++ [x]) es nx (w3.setCell ⟨bo, 0, none⟩ v') ∧ Grown2 W (w3.setCell ⟨bo, 0, none⟩ v') (some bo) u.ownBlock := by
  obtain ⟨v, hp⟩ := s.pl
  have hpW : p ≤ W.heap.size := Nat.le_of_lt hp.blk.lt
  have hbu : some bo ≠ u.ownBlock := fun e => own_ne_blk ho hu (by decide) e.symm
  have hv1 : Boxed w3 bo 32 u := hu.kept hg3 hbu
  have hG : Grown2 W (w3.setCell ⟨bo, 0, none⟩ v') (some bo) u.ownBlock := ((Grown2.refl W (some bo) u.ownBlock).step hg3 (fun k hk => .inr (.inl hk.symm))).step (grown_set w3 bo 0 v') (fun k hk => .inl hk.symm)
  have nb : ∀ {g : Nat} {T : TypeId} {cs : List Value}, Blk W g T cs → T ≠ 32 → T ≠ 35 → Blk (w3.setCell ⟨bo, 0, none⟩ v') g T cs := fun hbl e1 e2 => hG.blk hbl (fun e => blkneM hbl hu e1 (by injection e)) (fun e => own_ne_blk ho hbl e2.symm e.symm)
  refine ⟨hv1, ⟨hG.size, fun k ob hk hc => ?_⟩, ⟨⟨v, hp.kept fun k hk hor => hG.block k hk (fun e => ?_) (fun e => ?_)⟩, ⟨v', hv1.set v', ?_⟩, nb s.bxd (by decide) (by decide), nb s.bxh (by decide) (by decide), hG.low s.low hpW (fun k e => by cases e; exact hpo) (fun k e => (ho.lt k e).1)⟩, hG⟩
  · have hkl := (Array.getElem?_eq_some_iff.1 hk).1
    refine (hG.block k hkl (fun e => ?_) (fun e => ?_)).trans hk
    · injection e with e
      subst e
      have := (show W.heap[k]? = _ from hu).symm.trans hk
      injection this with this
      rw [← this] at hc; cases hc
    · obtain ⟨ob2, h1, h2⟩ := own_cells ho e.symm
      rw [hk] at h1
      injection h1 with h1
      rw [h1, h2] at hc; cases hc
  · injection e with e
    rcases hor with rfl | h
    · exact blkneM hp.blk hu (by decide) e
    · exact own_ne_blk hp.own hu (by decide) (by rw [h, e])
  · rcases hor with rfl | h
    · exact own_ne_blk ho hp.blk (by decide) e.symm
    · rcases own_ne_own hp.own ho (by decide) with h0 | h0
      · rw [h] at h0; cases h0
      · exact h0 (h.trans e)
  · rw [List.length_append, List.flatMap_append, List.flatMap_cons, List.flatMap_nil, List.append_nil]
    exact own_far ho3 (own_ne_blk ho3 hv1 (by decide)) _
theorem merge_any (so : Swo lt) (W : World) (AL : Option Addr) (N cl : Nat) (lv : Nat → Value) (fv : Value) (hN : N = ls.length) (hr : RV W AL ((List.range N).map lv))
    (hlv : ∀ i, i < N → (∃ A, lv i = .slice A (nth ls i).length (c i)) ∧ (0 < (nth ls i).length → lv i = .slice (some ⟨G i, 0, none⟩) (nth ls i).length (c i))) (hS : LSok th W ls G c) (hF : FvOk th W fv lt (fun _ => True)) (ht : total ls ≤ 1073741824) (hNb : N ≤ 1048576) :
    Calls Try.prog 27 #[fv, .slice AL N cl] W fun e W' => ∃ v, e = .returned v ∧ W'.ownsRow W.heap.size 35 2 v (merged lt ls).length ((merged lt ls).flatMap th.cells) ∧ Below W.heap.size W W' := by
  have H0 := Lib.hid (And.intro hr (And.intro hN (And.intro hlv (And.intro hS (And.intro ht hNb)))))
  have hNb2 : N ≤ 1048576 := hNb
  clear hr hN hlv hS ht hNb
  obtain ⟨fv1, hfv1⟩ : ∃ fv1, (fv = .nilFunc ∧ fv1 = .func (.func 49) #[] #[]) ∨ ((∃ g lb, fv = .func (.func g) #[] lb) ∧ fv1 = fv) := by
    rcases hF with ⟨h, _⟩ | ⟨h, _⟩
    · exact ⟨_, .inl ⟨h, rfl⟩⟩
    · exact ⟨_, .inr ⟨h, rfl⟩⟩
  obtain ⟨w1, hw1⟩ : ∃ w1, w1 = W.alloc (.cells #[fv1] 50) := ⟨_, rfl⟩
  have hb1 : Below W.heap.size W w1 := by rw [hw1]; exact ga (gr W) _
  have hz1 : w1.heap.size = W.heap.size + 1 := by rw [hw1, World.size_alloc]
  have hB1 : Boxed w1 W.heap.size 50 fv1 := by rw [hw1]; exact Boxed.new _ _ _
  have hL1 : Less Try.prog w1.heap.size w1 (vl th) (fun _ => True) fv1 lt := by
    rcases hfv1 with ⟨h1, h2⟩ | ⟨h1, h2⟩
    · rcases hF with ⟨h3, h4⟩ | ⟨⟨g, lb, h3⟩, h4⟩
      · rw [h2, h4]; exact flatM_less
      · rw [h3] at h1; cases h1
    · rcases hF with ⟨h3, h4⟩ | ⟨h3, h4⟩
      · obtain ⟨g, lb, h1⟩ := h1; rw [h3] at h1; cases h1
      · rw [h2]; exact Less_monoM h4 hb1 hb1.size
  have hL2 := merge_less hL1 hB1 (H0.out.2.2.2.1.below hb1)
  obtain ⟨p, hp⟩ : ∃ p, p = W.heap.size + 1 := ⟨_, rfl⟩
  have hp1 : p = w1.heap.size := by rw [hz1, hp]
  rw [← hp1] at hL2
  have HL := Lib.hid hL2
  have HP := Lib.hid (And.intro hp1 (Nat.le_of_eq hp1))
  have HQ := Lib.hid (And.intro hp hw1)
  have H1 := Lib.hid hb1
  clear hL2 hL1 hB1 hb1
  rcases hfv1 with ⟨rfl, rfl⟩ | ⟨⟨g0, lb0, rfl⟩, rfl⟩
  · clear hF hz1 hp1 hw1 hp
    have hq : ∀ w, (binOp BinOp.eql 50 .nilFunc .nilFunc).run Try.prog w = .ok (.bool true) w := fun w => rfl
    have hq2 : ∀ w g lb, (binOp BinOp.eql 50 (.func (.func g) #[] lb) .nilFunc).run Try.prog w = .ok (.bool false) w := fun w g lb => rfl
    refine (callsIn_wide (n := 4)).1 ?_
    refine callsIn_of_wp_marks Try.func27 rfl trivial ?_ rfl
    simp only [Try.ntmps27, List.size_toArray, List.length_cons, List.length_nil, Nat.reduceAdd, Nat.reduceSub, Array.replicate_succ, Array.replicate_zero, List.push_toArray, List.append_toArray, List.nil_append, List.cons_append]
    gi_wp2_with (((with_reducible refine And.intro ?_ ?_); exact trivial; gi_at_call 50; refine (callsIn_wide.2 (PileH.new_any (th := (thM ls G c)) _ _ 51 #[.pointer (some ⟨W.heap.size, 0, none⟩)] rfl)).mono ?_; rintro e w3 ⟨rfl, hP3, hb3⟩))
    have hP3' : PileH.PlK (thM ls G c) w3 p p (.slice none 0 0) (.func (.func 51) #[] #[.pointer (some ⟨W.heap.size, 0, none⟩)]) [] 0 := by rw [HQ.out.1]; simpa using hP3
    have hb3' : Below p w1 w3 := by
      have e1 := HQ.out.2
      have e2 := HP.out.1
      rw [e2, e1]
      exact hb3
    have hp := HQ.out.1
    simp only [← hp]
    obtain ⟨bh, hbh⟩ : ∃ bh, bh = w3.heap.size := ⟨_, rfl⟩
    have hpl : p < w3.heap.size := hP3'.blk.lt
    have X3 := Lib.hid (And.intro hP3' (And.intro hb3' (And.intro hpl hbh)))
    simp only [← hbh]
    clear hP3 hb3 hP3' hb3' hp hq hq2 hpl hbh
    gi_loopw [17, 6] (fun v17 v6 wr => ∃ k : Nat, k ≤ N ∧ v17 = .int .i64 k ∧ v6 = .int .i64 (tot ls k) ∧ (∃ v, PileH.PlK (thM ls G c) wr p p v (.func (.func 51) #[] #[.pointer (some ⟨W.heap.size, 0, none⟩)]) (headsF lt ls k).1 (headsF lt ls k).2) ∧ Below p w1 wr ∧ Boxed wr bh 83 (.pointer (some ⟨p, 0, none⟩))) (fun v _ _ => N - (intOf v).toNat)
    case atStart =>
      have hb4 : Below w3.heap.size w3 (w3.alloc (.cells #[.pointer (some ⟨p, 0, none⟩)] 83)) := ga (gr w3) _
      exact ⟨0, Nat.zero_le _, rfl, rfl, ⟨_, X3.out.1.grow hb4⟩, X3.out.2.1.trans (hb4.mono (Nat.le_of_lt X3.out.2.2.1)), by rw [X3.out.2.2.2]; exact Boxed.new _ _ _⟩
    case round =>
      obtain ⟨k, hk, rfl, rfl, ⟨v, hP⟩, hb, hbx⟩ := hrel
      by_cases hlt : k < N
      · have hkl : k < ls.length := by rw [← H0.out.2.1]; exact hlt
        have hbW : Below W.heap.size W wr := gt H1.out (by rw [← HP.out.1]; exact hb)
        obtain ⟨ad, hAd, cl0⟩ := (H0.out.1.below hbW) k (by simpa using hlt)
        rw [List.getElem_map, List.getElem_range] at cl0
        subst hAd
        obtain ⟨hv1, hv2⟩ := H0.out.2.2.1 k hlt
        have htt := tot_le ls (k + 1)
        rw [tot_succ ls hkl] at htt
        have htb := H0.out.2.2.2.2.1
        obtain ⟨nk, hnk⟩ : ∃ nk, nk = (nth ls k).length := ⟨_, rfl⟩
        rw [← hnk] at hv1 hv2 htt
        have hki : (k : Int) < (N : Int) := by omega
        have hk0 : (0 : Int) ≤ (k : Int) := by omega
        have hn0 : (0 : Int) ≤ (nk : Int) := by omega
        obtain ⟨tk, htk⟩ : ∃ tk, tk = tot ls k := ⟨_, rfl⟩
        have hts : tot ls (k + 1) = tk + nk := by rw [tot_succ ls hkl, htk, hnk]
        have ht0 : (0 : Int) ≤ (tk : Int) := by omega
        have ht1 : (tk : Int) + (nk : Int) ≤ 1073741824 := by omega
        rw [← htk]
        have cbh := hbx.cell
        have hpr : p ≤ wr.heap.size := Nat.le_trans HP.out.2 hb.size
        by_cases hpos : 0 < nk
        · have hl := hv2 hpos
          rw [hl] at cl0
          have cP : Calls Try.prog 52 #[.pointer (some ⟨p, 0, none⟩), .agg #[.slice (some ⟨G k, 0, none⟩) nk (c k), .int .i64 k]] wr fun e W' => (∃ r, e = .returned r) ∧ (∃ v, PileH.PlK (thM ls G c) W' p p v (.func (.func 51) #[] #[.pointer (some ⟨W.heap.size, 0, none⟩)]) (headsF lt ls (k + 1)).1 (headsF lt ls (k + 1)).2) ∧ Below p w1 W' ∧ Boxed W' bh 83 (.pointer (some ⟨p, 0, none⟩)) := by
            have e0 : PileH.vl (thM ls G c) (k, 0) = .agg #[.slice (some ⟨G k, 0, none⟩) nk (c k), .int .i64 k] := by
              rw [hnk]; simp [PileH.vl, thM]
            rw [← e0]
            have hs := headsF_len (lt := lt) ls k
            refine (PileH.push_any wr hP HL.out hb hpr (Nat.le_refl _) (headsF_dom so ls (Nat.le_of_lt hkl)) (k, 0) ⟨hkl, by rw [← hnk]; exact hpos⟩ (by omega) (by omega) (by omega)).mono ?_
            rintro e W' ⟨he, v', h1, h2, _⟩
            have hh : headsF lt ls (k + 1) = (Heap.push (Heap.ahead (Heap.hlt lt ls)) (headsF lt ls k).1 ((k, 0), (headsF lt ls k).2), (headsF lt ls k).2 + 1) := by rw [headsF, if_pos (by rw [← hnk]; exact hpos)]
            rw [hh]
            exact ⟨he, ⟨v', h1⟩, h2.low hb hpr (fun k hk => by cases hk; exact Nat.le_refl _) (fun k hk => (hP.own.lt k hk).1), h2.blk hbx (fun e => blkneM hbx hP.blk (by decide) (by injection e)) (fun e => own_ne_blk hP.own hbx (by decide) e.symm)⟩
          have CP := Lib.hid cP
          have HT := Lib.hid hts
          have HK := Lib.hid hlt
          clear cP hP hb hbx hlt hk hkl hv1 hv2 hl htt htb hnk htk hts hbW hpr
          gi_wp2_with (((with_reducible refine And.intro ?_ ?_); exact trivial; gi_at_call 52; refine (callsIn_wide.2 CP.out).mono ?_; rintro e w4 ⟨⟨r4, rfl⟩, hP4, hb4, hbx4⟩))
          go_roundw
          case rel => exact ⟨k + 1, HK.out, by go_num, by rw [HT.out]; go_num, hP4, hb4, hbx4⟩
          case measure => exact meas_in HK.out
        · obtain rfl : nk = 0 := by omega
          obtain ⟨A, hl⟩ := hv1
          rw [hl] at cl0
          have hh : headsF lt ls (k + 1) = headsF lt ls k := by rw [headsF, if_neg (by rw [← hnk]; omega)]
          have X := Lib.hid (And.intro hP (And.intro hb (And.intro hbx hh)))
          have HT := Lib.hid hts
          have HK := Lib.hid hlt
          clear hP hb hbx hlt hk hkl hv2 hl htt htb hnk htk hts hbW hpr hpos hh
          gi_wp2
          go_roundw
          case rel => exact ⟨k + 1, HK.out, by go_num, by rw [HT.out]; try go_num, by rw [X.out.2.2.2]; exact ⟨_, X.out.1⟩, X.out.2.1, X.out.2.2.1⟩
          case measure => exact meas_in HK.out
      · obtain rfl : N = k := by omega
        obtain ⟨T, hT⟩ : ∃ T, T = total ls := ⟨_, rfl⟩
        have htN : tot ls N = T := by rw [H0.out.2.1, tot_all, hT]
        have hTb : T ≤ 1073741824 := by rw [hT]; exact H0.out.2.2.2.2.1
        have hP4 : PileH.PlK (thM ls G c) wr p p v (.func (.func 51) #[] #[.pointer (some ⟨W.heap.size, 0, none⟩)]) (headsF lt ls ls.length).1 (headsF lt ls ls.length).2 := by rw [← H0.out.2.1]; exact hP
        rw [htN]
        obtain ⟨ti, tz, hti, htz, hts, htb, htc⟩ := ET.inf
        have hkb : ti.bytes * T ≤ 281474976710656 := by rw [htb]; omega
        have hkm : T ≤ maxLen := by unfold maxLen; omega
        have hhw : p ≤ wr.heap.size := Nat.le_of_lt hP.blk.lt
        have X4 := Lib.hid (And.intro hP4 (And.intro hb (And.intro hbx hhw)))
        have HTt := Lib.hid (And.intro hT hTb)
        have cbh := hbx.cell
        have bhl : bh < wr.heap.size := hbx.lt
        have HBH := Lib.hid bhl
        clear hP hb hbx hk hlt htN hP4 hhw hT hTb bhl
        gi_wp2_with (first
          | (gi_at_make; refine wpListIn_make_own _ rfl _ _ 32 rfl p 35 ti tz 2 Try.underlying32 hti htz hts .i64 .i64 T T rfl rfl rfl hkb hkm X4.out.2.2.2 ?_; intro w2 ho2 hg2
             have hbx2 : Boxed w2 bh 83 (.pointer (some ⟨p, 0, none⟩)) := boxed_turned X4.out.2.2.1 hg2 (fun r e => by cases e)
             have cbh2 := hbx2.cell
             have cbh3 := (hbx2.alloc (.cells #[.slice (some ⟨wr.heap.size, 0, none⟩) 0 T] 32)).cell
             have HB2 := Lib.hid hbx2
             clear hbx2 cbh)
          | ((with_reducible refine And.intro ?_ ?_); exact trivial; gi_at_call 53; refine (callsIn_wide.2 (PileH.drain_any _ _ ⟨_, rfl⟩)).mono ?_; rintro e w4 ⟨rfl, hbx4, hw4⟩))
        obtain ⟨bo, hbo⟩ : ∃ bo, bo = w2.heap.size := ⟨_, rfl⟩
        simp only [World.size_alloc, ← hbo] at hbx4
        simp only [← hbo]
        rw [← hw4]
        have hpb : p ≤ bo := by rw [hbo]; exact Nat.le_trans X4.out.2.2.2 hg2.size
        have hb24 : Below w2.heap.size w2 w4 := by rw [hw4]; exact ga (ga (gr w2) _) _
        have hs0 : MH th ls G c p bh bo (bo + 1) (.func (.func 51) #[] #[.pointer (some ⟨W.heap.size, 0, none⟩)]) w1 [] (headsF lt ls ls.length).1 (headsF lt ls ls.length).2 w4 := by
          refine ⟨⟨v, (X4.out.1.turned hg2 (fun r e => by cases e)).grow hb24⟩, ⟨.slice (some ⟨wr.heap.size, 0, none⟩) 0 T, ?_, ?_⟩, hbx4, boxed_by0 HB2.out hb24, ?_⟩
          · rw [hw4, hbo]; exact (Boxed.new _ _ _).alloc _
          · rw [hw4]; exact (ho2.alloc _).alloc _
          · exact (X4.out.2.1.grown hg2 X4.out.2.2.2 (fun j hj => by cases hj)).trans (hb24.mono (by rw [← hbo]; exact hpb))
        have h4s : p ≤ w4.heap.size := Nat.le_trans (by rw [hbo] at hpb; exact hpb) hb24.size
        have HpB := Lib.hid hpb
        have HS0 := Lib.hid hs0
        clear hs0 hpb hb24 hw4 hbx4 hbo hg2 ho2 cbh2 cbh3
        refine wpIn_range_drain (gf := 77) (lb := #[.pointer (some ⟨bo + 1, 0, none⟩)]) rfl (enters_of Try.func77 (by kernel_rfl) rfl) (PileH.drain_seq (th := (thM ls G c)) (bo + 1) (.pointer (some ⟨p, 0, none⟩))) rfl
          (fun s : List β × List ((Nat × Nat) × Nat) × Nat => T - s.1.length) (fun s W' => MH th ls G c p bh bo (bo + 1) (.func (.func 51) #[] #[.pointer (some ⟨W.heap.size, 0, none⟩)]) w1 s.1 s.2.1 s.2.2 W' ∧ MG lt ls s.1 s.2.1 s.2.2) (fun s W' => MH th ls G c p bh bo (bo + 1) (.func (.func 51) #[] #[.pointer (some ⟨W.heap.size, 0, none⟩)]) w1 s.1 s.2.1 s.2.2 W' ∧ (MG lt ls s.1 s.2.1 s.2.2 ∧ s.2.1 = [])) (fun _ _ _ => False)
          (fun s x W' => MH th ls G c p bh bo (bo + 1) (.func (.func 51) #[] #[.pointer (some ⟨W.heap.size, 0, none⟩)]) w1 s.1 (Heap.pop (Heap.ahead (Heap.hlt lt ls)) s.2.1) s.2.2 W' ∧ (MG lt ls s.1 s.2.1 s.2.2 ∧ 0 < s.2.1.length ∧ x = (nth s.2.1 0).1))
          (OwnFrom.and (MH.own HP.out.2 h4s _ _ _) (ownFrom_pure _ _)) (fun x => OwnFrom.and (MH.own HP.out.2 h4s _ _ _) (ownFrom_pure _ _)) (OwnFrom.and (MH.own HP.out.2 h4s _ _ _) (ownFrom_pure _ _)) (fun _ _ _ _ _ hs _ _ => hs)
          (fun s W' hs => hs.1.bxd) (fun s W' hs => (hs.1.pop HL.out HP.out.2 hs.2.dom (by have h1 := hs.2.len; have h2 := H0.out.2.1; omega)).mono fun e W2 ⟨hk, hor⟩ => ⟨hk, hor.imp (fun ⟨a, b, c⟩ => ⟨a, c, hs.2, b⟩) (fun ⟨x, a, b, c, d⟩ => ⟨x, a, d, hs.2, b, c⟩)⟩) ([], (headsF lt ls ls.length).1, (headsF lt ls ls.length).2) ⟨HS0.out, MG.start so ls⟩
          (fun x a' W' => ∃ b, Blk W' b 86 (((thM ls G c) : Th (Nat × Nat) 2).cells x) ∧ a' = { tmps := #[.nilFunc, .slice AL N cl, .pointer (some ⟨W.heap.size, 0, none⟩), undef, .slice none 0 0, .pointer (some ⟨bh, 0, none⟩), .int .i64 T, u7, u8, .pointer (some ⟨bo, 0, none⟩), .pointer (some ⟨b, 0, none⟩), .nilFunc, .bool true, .func (.func 51) #[] #[.pointer (some ⟨W.heap.size, 0, none⟩)], .pointer (some ⟨p, 0, none⟩), .slice AL N cl, .int .i64 N, .int .i64 N, .bool false, u19, u20, u21, u22, u23, u24, u25, u26, u27, u28, u29, u30, u31, u32, u33, u34, .int .i64 T, .slice (some ⟨wr.heap.size, 0, none⟩) 0 T, .pointer (some ⟨p, 0, none⟩), .func (.func 77) #[] #[.pointer (some ⟨bo + 1, 0, none⟩)], PileH.vl (thM ls G c) x, undef, undef, undef, undef, undef, undef, undef, undef, undef, undef, undef, undef, undef, undef, undef, undef, undef, undef, undef, undef], defers := [] }) (fun x a' => fun s W1 W2 row ⟨b, hb, he⟩ hg hr => ⟨b, blk_turned hb hg (fun r e => (hr r e).2), he⟩) ?assign ?body ?done ?stop
        case assign =>
          intro l1 s x W1 K hI hK
          have HI := Lib.hid hI
          clear hI
          gi_wp2_with (first
            | ((with_reducible show wpListIn _ _ _ _ _ (⟨some 10, _, _, _, _, _⟩ :: _) _ _)
               go_must (refine wpListIn_val (o := ⟨some 10, _, _, _, _, _⟩) rfl (PileH.run_allocT rfl) (fun _ => trivial) (fun c hc => by cases hc) ?_)
               obtain ⟨w3, hr3, hB3, hg3, hz3⟩ := PileH.run_storeT (th := (thM ls G c)) (b := x) (Blk.new W1 86 [.slice none 0 0, .int .i64 0]) rfl)
            | ((with_reducible show wpListIn _ _ _ _ _ (⟨none, .store 86 (.tmp 10) _, _, _, _, _⟩ :: _) _ _)
               go_must (refine wpListIn_skip_ (o := ⟨none, .store 86 (.tmp 10) _, _, _, _, _⟩) (w' := w3) rfl (by simp [execOp, Act.eval, Act.put, hr3, Result.andThen]) (fun _ => trivial) (fun c hc => by cases hc) ?_)))
          have hb3 : Below W1.heap.size W1 w3 := (ga (gr W1) _).grown hg3 (by simp) (fun k hk => by cases hk; exact Nat.le_refl _)
          exact hK _ _ (keepsOthers_below hb3) ⟨_, hB3, rfl⟩ ⟨HI.out.1.grow HP.out.2 hb3, HI.out.2⟩
        case body =>
          rintro l1 s x a' W1 ⟨hS, hG, hpos, hx⟩ ⟨b, hbx, rfl⟩
          obtain ⟨u, hbu, hou⟩ := hS.out
          obtain ⟨Au, nu, cu_, rfl, hnu⟩ := own_form hou
          subst hnu
          have hdom := hG.dom _ (nth_mem hpos)
          obtain ⟨hlo, hG2⟩ := hG.step so hpos
          rw [← hx] at hdom hG2
          obtain ⟨i, a⟩ := x
          simp only at hdom hG2
          obtain ⟨y, hy⟩ : ∃ y, y = cellAt ls i a := ⟨_, rfl⟩
          obtain ⟨li, hli⟩ : ∃ li, li = (nth ls i).length - a := ⟨_, rfl⟩
          obtain ⟨ci, hci⟩ : ∃ ci, ci = c i - a := ⟨_, rfl⟩
          have hS1 : LSok th W1 ls G c := (H0.out.2.2.2.1.below H1.out).below (by rw [← HP.out.1]; exact hS.low)
          have hcc := (H0.out.2.2.2.1 i hdom.1 (by have := hdom.2; omega)).2
          have hlc : li ≤ ci := by omega
          have hl1 : ¬ li = 0 := by have := hdom.2; omega
          have cB : ∀ (w : World), Blk w b 86 (((thM ls G c) : Th (Nat × Nat) 2).cells (i, a)) → w.cell? ⟨b, 0, none⟩ = some (.slice (some ⟨G i, a * 2, none⟩) li ci) ∧ w.cell? ⟨b, 1, none⟩ = some (.int .i64 i) := fun w h => ⟨by rw [h.cell, hli, hci]; rfl, by rw [h.cell]; rfl⟩
          have CB := Lib.hid cB
          have Y1 := Lib.hid (And.intro (fun (w : World) (hb : Below W1.heap.size W1 w) => (boxed_by0 hbu hb).cell) (And.intro (fun (w : World) (hb : Below W1.heap.size W1 w) => cB w (hbx.grow hb)) (fun (w : World) (hb : Below W1.heap.size W1 w) => (show (Instr.loadAt 35 (.pointer (some ⟨G i, a * 2, none⟩))).run Try.prog w = .ok (vl th y) w from by rw [hy]; exact (hS1.below hb).load hdom.1 hdom.2))))
          rw [← hy] at hG2
          have hoT : s.1.length < T := by rw [HTt.out.1]; exact hlo
          have hsz : p ≤ W1.heap.size := Nat.le_trans HP.out.2 hS.low.size
          have hnx : s.2.2 ≤ 2147483648 := by have h1 := hG.num; have h2 := H0.out.2.1; have h3 := HTt.out.2; omega
          have hel : (Heap.pop (Heap.ahead (Heap.hlt lt ls)) s.2.1).length ≤ 1073741824 := by rw [pop_len]; have h1 := hG.len; have h2 := H0.out.2.1; omega
          have hdm : ∀ e ∈ Heap.pop (Heap.ahead (Heap.hlt lt ls)) s.2.1, headOk ls e.1 := fun e he => hG.dom e ((pop_perm (ah := Heap.ahead (Heap.hlt lt ls)) hpos).mem_iff.1 (List.mem_cons_of_mem _ he))
          have HLI := Lib.hid (And.intro hli (And.intro hdom hx))
          have X1 := Lib.hid (And.intro hS (And.intro hbx (And.intro hbu (And.intro hou (And.intro hoT (And.intro hsz (And.intro hnx (And.intro hel (And.intro hdm hG2)))))))))
          have HCI := Lib.hid hci
          clear hS hG hpos hx hbx hbu hou hdom hlo hG2 hy hli hci hS1 hcc cB hoT hsz hnx hel hdm
          gi_wp2
          try simp only [Act.put, List.setIfInBounds_toArray, List.set_cons_succ, List.set_cons_zero]
          refine wpIn_region_riT (fun _ => trivial) (fun a b => Below a.heap.size a b) (fun _ _ _ h g => gt h g) (fun _ _ h => h.size) (fun a => (gr a).drew) 6
            [.eq 40 (.slice Au s.1.length cu_), .eq 41 (.pointer (some ⟨b, 0, none⟩)), .eq 42 (.slice (some ⟨G i, a * 2, none⟩) li ci), .eq 43 (.pointer (some ⟨G i, a * 2, none⟩)), .eq 44 (vl th y), .new 45 (NewRow W1.heap.size 35 (th.cells y) 1)]
            (by kernel_rfl) (by kernel_rfl) (by kernel_rfl) (by kernel_rfl) ?hsta ?hoba ?hfina
          case hsta =>
            intro s hs
            simp only [List.mem_cons, List.not_mem_nil, or_false] at hs
            rcases hs with rfl | rfl | rfl | rfl | rfl | rfl
            · exact fun _ _ _ h _ => h
            · exact fun _ _ _ h _ => h
            · exact fun _ _ _ h _ => h
            · exact fun _ _ _ h _ => h
            · exact fun _ _ _ h _ => h
            · rintro vs w1 w2 ⟨v, rfl, h⟩ hb
              exact ⟨_, rfl, NewRow.stable h hb⟩
          case hoba =>
            simp only [List.take_succ_cons, List.take_zero]
            refine ris_cons ?_ (ris_cons ?_ (ris_cons ?_ (ris_cons ?_ (ris_cons ?_ (ris_cons ?_ ris_nil)))))
            · refine ri_eq (fun _ => trivial) (fun c hc => by cases hc) gr (by decide) (by rfl) (by rfl) fun x w' A hg hp hA => ?_
              have e9 := hA 9
              simp [rgDsts] at e9
              have c1 := Y1.out.1 w' hg
              go_simp
            · refine ri_eq (fun _ => trivial) (fun c hc => by cases hc) gr (by decide) (by rfl) (by rfl) fun x w' A hg hp hA => ?_
              have e10 := hA 10
              simp [rgDsts] at e10
              go_simp
            · refine ri_eq (fun _ => trivial) (fun c hc => by cases hc) gr (by decide) (by rfl) (by rfl) fun x w' A hg hp hA => ?_
              have h41 := rg_pred_eq (d := 41) hp 0 rfl rfl rfl
              have e41 := (hA.at_ 41 rfl).trans h41
              have c1 := (Y1.out.2.1 w' hg).1
              go_simp
            · refine ri_eq (fun _ => trivial) (fun c hc => by cases hc) gr (by decide) (by rfl) (by rfl) fun x w' A hg hp hA => ?_
              have h42 := rg_pred_eq (d := 42) hp 0 rfl rfl rfl
              have e42 := (hA.at_ 42 rfl).trans h42
              go_simp
            · refine ri_val (fun _ => trivial) (fun c hc => by cases hc) (by decide) (by rfl) fun x w' A hg hp hA => ?_
              have h43 := rg_pred_eq (d := 43) hp 0 rfl rfl rfl
              have e43 := (hA.at_ 43 rfl).trans h43
              have hr := Y1.out.2.2 w' hg
              exact ⟨vl th y, w', by simp [execOp, Act.eval, e43, hr, Result.andThen], gr _, by simp [rgUpd], by simp⟩
            · refine ri_val (fun _ => trivial) (fun c hc => by cases hc) (by decide) (by rfl) fun x w' A hg hp hA => ?_
              have h44 := rg_pred_eq (d := 44) hp 0 rfl rfl rfl
              have e44 := (hA.at_ 44 rfl).trans h44
              have e44' : A.eval (.tmp 44) = vl th y := by simpa [Act.eval] using e44
              refine ⟨_, _, run_build1 ET (.tmp 44) rfl (by decide) (th.cells y) (by rw [e44']; exact vl_cells y) (th.len y), ga (gr _) _, ?_, ?_⟩
              · exact ⟨_, rfl, _, by simp [rgUpd], hg.size, Blk.new w' _ _⟩
              · simp [blockOf]
          case hfina =>
          intro x w5 hg hall hap
          simp only [RgAll, holds_eq, holds_new, holds_one, and_true] at hall
          obtain ⟨h40, h41, h42, h43, h44, h45⟩ := hall
          obtain ⟨b45, h45, l45, hB45⟩ := h45
          simp only [rgDsts, List.take_succ_cons, List.take_zero, List.filterMap_cons, List.filterMap_nil, putMany, List.foldl_cons, List.foldl_nil, List.setIfInBounds_toArray, List.set_cons_succ, List.set_cons_zero, List.drop_succ_cons, List.drop_zero, h40, h41, h42, h43, h44, h45]
          clear h40 h41 h42 h43 h44 h45
          have hou5 := own_below' X1.out.2.2.2.1 hg
          have hbu5 := boxed_by0 X1.out.2.2.1 hg
          have Z5 := Lib.hid (And.intro hg (And.intro hou5 (And.intro hbu5 hB45)))
          clear hg hap hou5 hbu5 hB45
          by_cases h1 : 1 < li
          · have h2 : (1 : Int) < (li : Int) := by omega
            have h3 : ¬ ci = 1 := by omega
            have h4 : ¬ li ≤ 1 := by omega
            have h5 : (1 : Int) ≤ (li : Int) := by omega
            have h6 : (1 : Int) ≤ (ci : Int) := by omega
            have h7 : (li : Int) ≤ (ci : Int) := by omega
            have H1i := Lib.hid h1
            gi_wp2_with (first
              | ((with_reducible show wpListIn _ _ _ _ _ (⟨some 46, _, _, _, _, _⟩ :: _) _ _)
                 go_must (refine wpListIn_app1 ET (o := ⟨some 46, _, _, _, _, _⟩) rfl (fun _ => trivial) (.tmp 40) (.tmp 45) rfl p (.slice Au s.1.length cu_) s.1.length _ rfl Z5.out.2.1 ⟨b45, 0, none⟩ 1 1 (th.cells y) rfl Z5.out.2.2.2.rv (by rw [th.len]; rfl) (th.one y) (by have h1 := X1.out.2.2.2.2.1; have h2 := HTt.out.2; unfold maxLen; omega) (by have h1 := X1.out.2.2.2.2.1; have h2 := HTt.out.2; omega) (Nat.le_trans X1.out.2.2.2.2.2.1 Z5.out.1.size) ?_)
                 intro v' w6 ho6 hg6 hv6
                 obtain ⟨g', cap', rfl⟩ := ownsRow_succ ho6
                 obtain ⟨hv1, hk2, S2, G2⟩ := (X1.out.1.grow HP.out.2 Z5.out.1).app HP.out.2 HpB.out Z5.out.2.2.1 Z5.out.2.1 ho6 hg6
                 have hc1 := hv1.cell
                 have hf1 := hv1.frozen
                 have bx6 := G2.blk (X1.out.2.1.grow Z5.out.1) (fun e => blkneM (X1.out.2.1.grow Z5.out.1) Z5.out.2.2.1 (by decide) (by injection e)) (fun e => own_ne_blk Z5.out.2.1 (X1.out.2.1.grow Z5.out.1) (by decide) e.symm)
                 have cb6 := (CB.out _ bx6).1
                 have X6 := Lib.hid (And.intro ((keepsOthers_below Z5.out.1).trans hk2) (And.intro S2 bx6))
                 clear hv1 hk2 S2 G2 ho6 hg6 hv6 bx6))
            obtain ⟨w7x, hw7x⟩ : ∃ w, w = (w6.setCell ⟨bo, 0, none⟩ (.slice (some ⟨g', 0, none⟩) (s.1.length + 1) cap')) := ⟨_, rfl⟩
            rw [← hw7x] at X6 ⊢
            have Y6 := Lib.hid (And.intro (fun (w : World) (hb : Below w7x.heap.size w7x w) => (boxed_by0 X6.out.2.1.bxh hb).cell) (fun (w : World) (hb : Below w7x.heap.size w7x w) => CB.out w (X6.out.2.2.grow hb)))
            clear hw7x hc1 hf1 cb6
            try simp only [Act.put, List.setIfInBounds_toArray, List.set_cons_succ, List.set_cons_zero]
            refine wpIn_region_riT (fun _ => trivial) (fun a b => Below a.heap.size a b) (fun _ _ _ h g => gt h g) (fun _ _ h => h.size) (fun a => (gr a).drew) 7
              [.eq 51 (.pointer (some ⟨p, 0, none⟩)), .eq 52 (.pointer (some ⟨b, 0, none⟩)), .eq 53 (.slice (some ⟨G i, a * 2, none⟩) li ci), .eq 54 (.slice (some ⟨G i, a * 2 + 2, none⟩) (li - 1) (ci - 1)), .eq 55 (.pointer (some ⟨b, 1, none⟩)), .eq 56 (.int .i64 (i : Int)), .eq 57 (.agg #[.slice (some ⟨G i, a * 2 + 2, none⟩) (li - 1) (ci - 1), .int .i64 (i : Int)])]
              (by kernel_rfl) (by kernel_rfl) (by kernel_rfl) (by kernel_rfl) ?hstb ?hobb ?hfinb
            case hstb =>
              intro s hs
              simp only [List.mem_cons, List.not_mem_nil, or_false] at hs
              rcases hs with rfl | rfl | rfl | rfl | rfl | rfl | rfl
              · exact fun _ _ _ h _ => h
              · exact fun _ _ _ h _ => h
              · exact fun _ _ _ h _ => h
              · exact fun _ _ _ h _ => h
              · exact fun _ _ _ h _ => h
              · exact fun _ _ _ h _ => h
              · exact fun _ _ _ h _ => h
            case hobb =>
              simp only [List.take_succ_cons, List.take_zero]
              refine ris_cons ?_ (ris_cons ?_ (ris_cons ?_ (ris_cons ?_ (ris_cons ?_ (ris_cons ?_ (ris_cons ?_ ris_nil))))))
              · refine ri_eq (fun _ => trivial) (fun c hc => by cases hc) gr (by decide) (by rfl) (by rfl) fun x w' A hg hp hA => ?_
                have e5 := hA 5
                simp [rgDsts] at e5
                have c1 := (Y6.out.1 w' hg)
                go_simp
              · refine ri_eq (fun _ => trivial) (fun c hc => by cases hc) gr (by decide) (by rfl) (by rfl) fun x w' A hg hp hA => ?_
                have e10 := hA 10
                simp [rgDsts] at e10
                go_simp
              · refine ri_eq (fun _ => trivial) (fun c hc => by cases hc) gr (by decide) (by rfl) (by rfl) fun x w' A hg hp hA => ?_
                have h52 := rg_pred_eq (d := 52) hp 0 rfl rfl rfl
                have e52 := (hA.at_ 52 rfl).trans h52
                have c1 := (Y6.out.2 w' hg).1
                go_simp
              · refine ri_eq (fun _ => trivial) (fun c hc => by cases hc) gr (by decide) (by rfl) (by rfl) fun x w' A hg hp hA => ?_
                have h53 := rg_pred_eq (d := 53) hp 0 rfl rfl rfl
                have e53 := (hA.at_ 53 rfl).trans h53
                go_simp
              · refine ri_eq (fun _ => trivial) (fun c hc => by cases hc) gr (by decide) (by rfl) (by rfl) fun x w' A hg hp hA => ?_
                have e10 := hA 10
                simp [rgDsts] at e10
                go_simp
              · refine ri_eq (fun _ => trivial) (fun c hc => by cases hc) gr (by decide) (by rfl) (by rfl) fun x w' A hg hp hA => ?_
                have h55 := rg_pred_eq (d := 55) hp 0 rfl rfl rfl
                have e55 := (hA.at_ 55 rfl).trans h55
                have c1 := (Y6.out.2 w' hg).2
                go_simp
              · refine ri_eq (fun _ => trivial) (fun c hc => by cases hc) gr (by decide) (by rfl) (by rfl) fun x w' A hg hp hA => ?_
                have h54 := rg_pred_eq (d := 54) hp 0 rfl rfl rfl
                have h56 := rg_pred_eq (d := 56) hp 1 rfl rfl rfl
                have e54 := (hA.at_ 54 rfl).trans h54
                have e56 := (hA.at_ 56 rfl).trans h56
                go_simp
            case hfinb =>
            intro x w7 hg hall hap
            simp only [RgAll, holds_eq, holds_new, holds_one, and_true] at hall
            obtain ⟨h51, h52, h53, h54, h55, h56, h57⟩ := hall
            simp only [rgDsts, List.take_succ_cons, List.take_zero, List.filterMap_cons, List.filterMap_nil, putMany, List.foldl_cons, List.foldl_nil, List.setIfInBounds_toArray, List.set_cons_succ, List.set_cons_zero, List.drop_succ_cons, List.drop_zero, h51, h52, h53, h54, h55, h56, h57]
            clear h51 h52 h53 h54 h55 h56 h57
            have e0 : PileH.vl (thM ls G c) (i, a + 1) = .agg #[.slice (some ⟨G i, a * 2 + 2, none⟩) (li - 1) (ci - 1), .int .i64 i] := by
              have e1 := HLI.out.1
              have e2 := HCI.out
              rw [show (li - 1) = (nth ls i).length - (a + 1) by omega, show (ci - 1) = c i - (a + 1) by omega]
              simp [PileH.vl, thM]
              try omega
            have cP := Lib.hid ((X6.out.2.1.grow HP.out.2 hg).push HL.out HP.out.2 X1.out.2.2.2.2.2.2.2.2.1 X1.out.2.2.2.2.2.2.2.1 X1.out.2.2.2.2.2.2.1 (i, a + 1) ⟨HLI.out.2.1.1, by show a + 1 < (nth ls i).length; have e1 := HLI.out.1; omega⟩)
            rw [e0] at cP
            have Z7 := Lib.hid hg
            clear hg hap e0
            gi_wp2_with (first
              | ((with_reducible refine And.intro ?_ ?_)
                 exact trivial
                 gi_at_call 52
                 refine (callsIn_wide.2 cP.out).mono ?_
                 rintro e w8 ⟨⟨r8, rfl⟩, k8, S8⟩
                 have X8 := Lib.hid (And.intro k8 S8)
                 clear k8 S8))
            refine ⟨X6.out.1.trans ((keepsOthers_below Z7.out).trans X8.out.1), (s.1 ++ [y], mergeStep lt ls s.2.1 s.2.2, mergeNext ls s.2.1 s.2.2), ?_, ?_, X1.out.2.2.2.2.2.2.2.2.2⟩
            · show T - (s.1 ++ [y]).length < T - s.1.length
              have := X1.out.2.2.2.2.1
              rw [List.length_append, List.length_cons, List.length_nil]; omega
            · have e2 : (nth s.2.1 0).1.2 + 1 < (nth ls (nth s.2.1 0).1.1).length := by
                rw [← HLI.out.2.2]
                have e1 := HLI.out.1
                have := H1i.out
                simp only
                omega
              unfold mergeStep mergeNext
              simp only [if_pos e2]
              rw [← HLI.out.2.2]
              exact X8.out.2
          · have h2 : ¬ ((1 : Int) < (li : Int)) := by omega
            have H1i := Lib.hid h1
            clear h1
            gi_wp2_with (first
              | ((with_reducible show wpListIn _ _ _ _ _ (⟨some 46, _, _, _, _, _⟩ :: _) _ _)
                 go_must (refine wpListIn_app1 ET (o := ⟨some 46, _, _, _, _, _⟩) rfl (fun _ => trivial) (.tmp 40) (.tmp 45) rfl p (.slice Au s.1.length cu_) s.1.length _ rfl Z5.out.2.1 ⟨b45, 0, none⟩ 1 1 (th.cells y) rfl Z5.out.2.2.2.rv (by rw [th.len]; rfl) (th.one y) (by have h1 := X1.out.2.2.2.2.1; have h2 := HTt.out.2; unfold maxLen; omega) (by have h1 := X1.out.2.2.2.2.1; have h2 := HTt.out.2; omega) (Nat.le_trans X1.out.2.2.2.2.2.1 Z5.out.1.size) ?_)
                 intro v' w6 ho6 hg6 hv6
                 obtain ⟨g', cap', rfl⟩ := ownsRow_succ ho6
                 obtain ⟨hv1, hk2, S2, G2⟩ := (X1.out.1.grow HP.out.2 Z5.out.1).app HP.out.2 HpB.out Z5.out.2.2.1 Z5.out.2.1 ho6 hg6
                 have hc1 := hv1.cell
                 have hf1 := hv1.frozen
                 have bx6 := G2.blk (X1.out.2.1.grow Z5.out.1) (fun e => blkneM (X1.out.2.1.grow Z5.out.1) Z5.out.2.2.1 (by decide) (by injection e)) (fun e => own_ne_blk Z5.out.2.1 (X1.out.2.1.grow Z5.out.1) (by decide) e.symm)
                 have cb6 := (CB.out _ bx6).1
                 have X6 := Lib.hid (And.intro ((keepsOthers_below Z5.out.1).trans hk2) (And.intro S2 bx6))
                 clear hv1 hk2 S2 G2 ho6 hg6 hv6 bx6))
            refine ⟨X6.out.1, (s.1 ++ [y], mergeStep lt ls s.2.1 s.2.2, mergeNext ls s.2.1 s.2.2), ?_, ?_, X1.out.2.2.2.2.2.2.2.2.2⟩
            · show T - (s.1 ++ [y]).length < T - s.1.length
              have := X1.out.2.2.2.2.1
              rw [List.length_append, List.length_cons, List.length_nil]; omega
            · have e2 : ¬ (nth s.2.1 0).1.2 + 1 < (nth ls (nth s.2.1 0).1.1).length := by
                rw [← HLI.out.2.2]
                have e1 := HLI.out.1
                have := H1i.out
                simp only
                omega
              unfold mergeStep mergeNext
              simp only [if_neg e2]
              exact X6.out.2.1
        case done =>
          rintro Dd s W2 hDd ⟨hS, hG, hnil⟩ hK
          obtain ⟨u, hbu, hou⟩ := hS.out
          obtain ⟨Au, nu, cu_, rfl, hnu⟩ := own_form hou
          subst hnu
          have cu := hbu.cell
          have hall : s.1 = merged lt ls := by rw [hnil] at hG; exact hG.done
          have X1 := Lib.hid (And.intro hall (And.intro hS hou))
          clear hnil hS hbu hou hG hall
          gi_wp2
          refine ⟨by simp, .inl ⟨_, _, rfl, run_takeDeferred hK, ?_⟩⟩
          obtain ⟨hall, hS, hou⟩ := X1.out
          refine ⟨_, by simp [results, Try.results27, go_sem]; rfl, ?_⟩
          have h1 := ownsRow_putObj hou (.deferred none) hK rfl
          rw [hall] at h1
          have hpW : W.heap.size ≤ p := by rw [HQ.out.1]; omega
          have h2 : Below p w1 (W2.putObj Dd (.deferred none)) := hS.low.trans (belowK_b (w := w4) h4s W2 Dd _ _ hDd hK rfl rfl)
          refine ⟨_, rfl, own_lowM (by rw [hall]; exact h1) hpW, gt H1.out (by rw [← HP.out.1]; exact h2)⟩
        case stop => exact fun _ _ _ _ _ hs => hs.elim
  · clear hF hz1 hp1 hw1 hp
    have hq : ∀ w, (binOp BinOp.eql 50 .nilFunc .nilFunc).run Try.prog w = .ok (.bool true) w := fun w => rfl
    have hq2 : ∀ w g lb, (binOp BinOp.eql 50 (.func (.func g) #[] lb) .nilFunc).run Try.prog w = .ok (.bool false) w := fun w g lb => rfl
    refine (callsIn_wide (n := 4)).1 ?_
    refine callsIn_of_wp_marks Try.func27 rfl trivial ?_ rfl
    simp only [Try.ntmps27, List.size_toArray, List.length_cons, List.length_nil, Nat.reduceAdd, Nat.reduceSub, Array.replicate_succ, Array.replicate_zero, List.push_toArray, List.append_toArray, List.nil_append, List.cons_append]
    gi_wp2_with (((with_reducible refine And.intro ?_ ?_); exact trivial; gi_at_call 50; refine (callsIn_wide.2 (PileH.new_any (th := (thM ls G c)) _ _ 51 #[.pointer (some ⟨W.heap.size, 0, none⟩)] rfl)).mono ?_; rintro e w3 ⟨rfl, hP3, hb3⟩))
    have hP3' : PileH.PlK (thM ls G c) w3 p p (.slice none 0 0) (.func (.func 51) #[] #[.pointer (some ⟨W.heap.size, 0, none⟩)]) [] 0 := by rw [HQ.out.1]; simpa using hP3
    have hb3' : Below p w1 w3 := by
      have e1 := HQ.out.2
      have e2 := HP.out.1
      rw [e2, e1]
      exact hb3
    have hp := HQ.out.1
    simp only [← hp]
    obtain ⟨bh, hbh⟩ : ∃ bh, bh = w3.heap.size := ⟨_, rfl⟩
    have hpl : p < w3.heap.size := hP3'.blk.lt
    have X3 := Lib.hid (And.intro hP3' (And.intro hb3' (And.intro hpl hbh)))
    simp only [← hbh]
    clear hP3 hb3 hP3' hb3' hp hq hq2 hpl hbh
    gi_loopw [17, 6] (fun v17 v6 wr => ∃ k : Nat, k ≤ N ∧ v17 = .int .i64 k ∧ v6 = .int .i64 (tot ls k) ∧ (∃ v, PileH.PlK (thM ls G c) wr p p v (.func (.func 51) #[] #[.pointer (some ⟨W.heap.size, 0, none⟩)]) (headsF lt ls k).1 (headsF lt ls k).2) ∧ Below p w1 wr ∧ Boxed wr bh 83 (.pointer (some ⟨p, 0, none⟩))) (fun v _ _ => N - (intOf v).toNat)
    case atStart =>
      have hb4 : Below w3.heap.size w3 (w3.alloc (.cells #[.pointer (some ⟨p, 0, none⟩)] 83)) := ga (gr w3) _
      exact ⟨0, Nat.zero_le _, rfl, rfl, ⟨_, X3.out.1.grow hb4⟩, X3.out.2.1.trans (hb4.mono (Nat.le_of_lt X3.out.2.2.1)), by rw [X3.out.2.2.2]; exact Boxed.new _ _ _⟩
    case round =>
      obtain ⟨k, hk, rfl, rfl, ⟨v, hP⟩, hb, hbx⟩ := hrel
      by_cases hlt : k < N
      · have hkl : k < ls.length := by rw [← H0.out.2.1]; exact hlt
        have hbW : Below W.heap.size W wr := gt H1.out (by rw [← HP.out.1]; exact hb)
        obtain ⟨ad, hAd, cl0⟩ := (H0.out.1.below hbW) k (by simpa using hlt)
        rw [List.getElem_map, List.getElem_range] at cl0
        subst hAd
        obtain ⟨hv1, hv2⟩ := H0.out.2.2.1 k hlt
        have htt := tot_le ls (k + 1)
        rw [tot_succ ls hkl] at htt
        have htb := H0.out.2.2.2.2.1
        obtain ⟨nk, hnk⟩ : ∃ nk, nk = (nth ls k).length := ⟨_, rfl⟩
        rw [← hnk] at hv1 hv2 htt
        have hki : (k : Int) < (N : Int) := by omega
        have hk0 : (0 : Int) ≤ (k : Int) := by omega
        have hn0 : (0 : Int) ≤ (nk : Int) := by omega
        obtain ⟨tk, htk⟩ : ∃ tk, tk = tot ls k := ⟨_, rfl⟩
        have hts : tot ls (k + 1) = tk + nk := by rw [tot_succ ls hkl, htk, hnk]
        have ht0 : (0 : Int) ≤ (tk : Int) := by omega
        have ht1 : (tk : Int) + (nk : Int) ≤ 1073741824 := by omega
        rw [← htk]
        have cbh := hbx.cell
        have hpr : p ≤ wr.heap.size := Nat.le_trans HP.out.2 hb.size
        by_cases hpos : 0 < nk
        · have hl := hv2 hpos
          rw [hl] at cl0
          have cP : Calls Try.prog 52 #[.pointer (some ⟨p, 0, none⟩), .agg #[.slice (some ⟨G k, 0, none⟩) nk (c k), .int .i64 k]] wr fun e W' => (∃ r, e = .returned r) ∧ (∃ v, PileH.PlK (thM ls G c) W' p p v (.func (.func 51) #[] #[.pointer (some ⟨W.heap.size, 0, none⟩)]) (headsF lt ls (k + 1)).1 (headsF lt ls (k + 1)).2) ∧ Below p w1 W' ∧ Boxed W' bh 83 (.pointer (some ⟨p, 0, none⟩)) := by
            have e0 : PileH.vl (thM ls G c) (k, 0) = .agg #[.slice (some ⟨G k, 0, none⟩) nk (c k), .int .i64 k] := by
              rw [hnk]; simp [PileH.vl, thM]
            rw [← e0]
            have hs := headsF_len (lt := lt) ls k
            refine (PileH.push_any wr hP HL.out hb hpr (Nat.le_refl _) (headsF_dom so ls (Nat.le_of_lt hkl)) (k, 0) ⟨hkl, by rw [← hnk]; exact hpos⟩ (by omega) (by omega) (by omega)).mono ?_
            rintro e W' ⟨he, v', h1, h2, _⟩
            have hh : headsF lt ls (k + 1) = (Heap.push (Heap.ahead (Heap.hlt lt ls)) (headsF lt ls k).1 ((k, 0), (headsF lt ls k).2), (headsF lt ls k).2 + 1) := by rw [headsF, if_pos (by rw [← hnk]; exact hpos)]
            rw [hh]
            exact ⟨he, ⟨v', h1⟩, h2.low hb hpr (fun k hk => by cases hk; exact Nat.le_refl _) (fun k hk => (hP.own.lt k hk).1), h2.blk hbx (fun e => blkneM hbx hP.blk (by decide) (by injection e)) (fun e => own_ne_blk hP.own hbx (by decide) e.symm)⟩
          have CP := Lib.hid cP
          have HT := Lib.hid hts
          have HK := Lib.hid hlt
          clear cP hP hb hbx hlt hk hkl hv1 hv2 hl htt htb hnk htk hts hbW hpr
          gi_wp2_with (((with_reducible refine And.intro ?_ ?_); exact trivial; gi_at_call 52; refine (callsIn_wide.2 CP.out).mono ?_; rintro e w4 ⟨⟨r4, rfl⟩, hP4, hb4, hbx4⟩))
          go_roundw
          case rel => exact ⟨k + 1, HK.out, by go_num, by rw [HT.out]; go_num, hP4, hb4, hbx4⟩
          case measure => exact meas_in HK.out
        · obtain rfl : nk = 0 := by omega
          obtain ⟨A, hl⟩ := hv1
          rw [hl] at cl0
          have hh : headsF lt ls (k + 1) = headsF lt ls k := by rw [headsF, if_neg (by rw [← hnk]; omega)]
          have X := Lib.hid (And.intro hP (And.intro hb (And.intro hbx hh)))
          have HT := Lib.hid hts
          have HK := Lib.hid hlt
          clear hP hb hbx hlt hk hkl hv2 hl htt htb hnk htk hts hbW hpr hpos hh
          gi_wp2
          go_roundw
          case rel => exact ⟨k + 1, HK.out, by go_num, by rw [HT.out]; try go_num, by rw [X.out.2.2.2]; exact ⟨_, X.out.1⟩, X.out.2.1, X.out.2.2.1⟩
          case measure => exact meas_in HK.out
      · obtain rfl : N = k := by omega
        obtain ⟨T, hT⟩ : ∃ T, T = total ls := ⟨_, rfl⟩
        have htN : tot ls N = T := by rw [H0.out.2.1, tot_all, hT]
        have hTb : T ≤ 1073741824 := by rw [hT]; exact H0.out.2.2.2.2.1
        have hP4 : PileH.PlK (thM ls G c) wr p p v (.func (.func 51) #[] #[.pointer (some ⟨W.heap.size, 0, none⟩)]) (headsF lt ls ls.length).1 (headsF lt ls ls.length).2 := by rw [← H0.out.2.1]; exact hP
        rw [htN]
        obtain ⟨ti, tz, hti, htz, hts, htb, htc⟩ := ET.inf
        have hkb : ti.bytes * T ≤ 281474976710656 := by rw [htb]; omega
        have hkm : T ≤ maxLen := by unfold maxLen; omega
        have hhw : p ≤ wr.heap.size := Nat.le_of_lt hP.blk.lt
        have X4 := Lib.hid (And.intro hP4 (And.intro hb (And.intro hbx hhw)))
        have HTt := Lib.hid (And.intro hT hTb)
        have cbh := hbx.cell
        have bhl : bh < wr.heap.size := hbx.lt
        have HBH := Lib.hid bhl
        clear hP hb hbx hk hlt htN hP4 hhw hT hTb bhl
        gi_wp2_with (first
          | (gi_at_make; refine wpListIn_make_own _ rfl _ _ 32 rfl p 35 ti tz 2 Try.underlying32 hti htz hts .i64 .i64 T T rfl rfl rfl hkb hkm X4.out.2.2.2 ?_; intro w2 ho2 hg2
             have hbx2 : Boxed w2 bh 83 (.pointer (some ⟨p, 0, none⟩)) := boxed_turned X4.out.2.2.1 hg2 (fun r e => by cases e)
             have cbh2 := hbx2.cell
             have cbh3 := (hbx2.alloc (.cells #[.slice (some ⟨wr.heap.size, 0, none⟩) 0 T] 32)).cell
             have HB2 := Lib.hid hbx2
             clear hbx2 cbh)
          | ((with_reducible refine And.intro ?_ ?_); exact trivial; gi_at_call 53; refine (callsIn_wide.2 (PileH.drain_any _ _ ⟨_, rfl⟩)).mono ?_; rintro e w4 ⟨rfl, hbx4, hw4⟩))
        obtain ⟨bo, hbo⟩ : ∃ bo, bo = w2.heap.size := ⟨_, rfl⟩
        simp only [World.size_alloc, ← hbo] at hbx4
        simp only [← hbo]
        rw [← hw4]
        have hpb : p ≤ bo := by rw [hbo]; exact Nat.le_trans X4.out.2.2.2 hg2.size
        have hb24 : Below w2.heap.size w2 w4 := by rw [hw4]; exact ga (ga (gr w2) _) _
        have hs0 : MH th ls G c p bh bo (bo + 1) (.func (.func 51) #[] #[.pointer (some ⟨W.heap.size, 0, none⟩)]) w1 [] (headsF lt ls ls.length).1 (headsF lt ls ls.length).2 w4 := by
          refine ⟨⟨v, (X4.out.1.turned hg2 (fun r e => by cases e)).grow hb24⟩, ⟨.slice (some ⟨wr.heap.size, 0, none⟩) 0 T, ?_, ?_⟩, hbx4, boxed_by0 HB2.out hb24, ?_⟩
          · rw [hw4, hbo]; exact (Boxed.new _ _ _).alloc _
          · rw [hw4]; exact (ho2.alloc _).alloc _
          · exact (X4.out.2.1.grown hg2 X4.out.2.2.2 (fun j hj => by cases hj)).trans (hb24.mono (by rw [← hbo]; exact hpb))
        have h4s : p ≤ w4.heap.size := Nat.le_trans (by rw [hbo] at hpb; exact hpb) hb24.size
        have HpB := Lib.hid hpb
        have HS0 := Lib.hid hs0
        clear hs0 hpb hb24 hw4 hbx4 hbo hg2 ho2 cbh2 cbh3
        refine wpIn_range_drain (gf := 77) (lb := #[.pointer (some ⟨bo + 1, 0, none⟩)]) rfl (enters_of Try.func77 (by kernel_rfl) rfl) (PileH.drain_seq (th := (thM ls G c)) (bo + 1) (.pointer (some ⟨p, 0, none⟩))) rfl
          (fun s : List β × List ((Nat × Nat) × Nat) × Nat => T - s.1.length) (fun s W' => MH th ls G c p bh bo (bo + 1) (.func (.func 51) #[] #[.pointer (some ⟨W.heap.size, 0, none⟩)]) w1 s.1 s.2.1 s.2.2 W' ∧ MG lt ls s.1 s.2.1 s.2.2) (fun s W' => MH th ls G c p bh bo (bo + 1) (.func (.func 51) #[] #[.pointer (some ⟨W.heap.size, 0, none⟩)]) w1 s.1 s.2.1 s.2.2 W' ∧ (MG lt ls s.1 s.2.1 s.2.2 ∧ s.2.1 = [])) (fun _ _ _ => False)
          (fun s x W' => MH th ls G c p bh bo (bo + 1) (.func (.func 51) #[] #[.pointer (some ⟨W.heap.size, 0, none⟩)]) w1 s.1 (Heap.pop (Heap.ahead (Heap.hlt lt ls)) s.2.1) s.2.2 W' ∧ (MG lt ls s.1 s.2.1 s.2.2 ∧ 0 < s.2.1.length ∧ x = (nth s.2.1 0).1))
          (OwnFrom.and (MH.own HP.out.2 h4s _ _ _) (ownFrom_pure _ _)) (fun x => OwnFrom.and (MH.own HP.out.2 h4s _ _ _) (ownFrom_pure _ _)) (OwnFrom.and (MH.own HP.out.2 h4s _ _ _) (ownFrom_pure _ _)) (fun _ _ _ _ _ hs _ _ => hs)
          (fun s W' hs => hs.1.bxd) (fun s W' hs => (hs.1.pop HL.out HP.out.2 hs.2.dom (by have h1 := hs.2.len; have h2 := H0.out.2.1; omega)).mono fun e W2 ⟨hk, hor⟩ => ⟨hk, hor.imp (fun ⟨a, b, c⟩ => ⟨a, c, hs.2, b⟩) (fun ⟨x, a, b, c, d⟩ => ⟨x, a, d, hs.2, b, c⟩)⟩) ([], (headsF lt ls ls.length).1, (headsF lt ls ls.length).2) ⟨HS0.out, MG.start so ls⟩
          (fun x a' W' => ∃ b, Blk W' b 86 (((thM ls G c) : Th (Nat × Nat) 2).cells x) ∧ a' = { tmps := #[.func (.func g0) #[] lb0, .slice AL N cl, .pointer (some ⟨W.heap.size, 0, none⟩), undef, .slice none 0 0, .pointer (some ⟨bh, 0, none⟩), .int .i64 T, u7, u8, .pointer (some ⟨bo, 0, none⟩), .pointer (some ⟨b, 0, none⟩), .func (.func g0) #[] lb0, .bool false, .func (.func 51) #[] #[.pointer (some ⟨W.heap.size, 0, none⟩)], .pointer (some ⟨p, 0, none⟩), .slice AL N cl, .int .i64 N, .int .i64 N, .bool false, u19, u20, u21, u22, u23, u24, u25, u26, u27, u28, u29, u30, u31, u32, u33, u34, .int .i64 T, .slice (some ⟨wr.heap.size, 0, none⟩) 0 T, .pointer (some ⟨p, 0, none⟩), .func (.func 77) #[] #[.pointer (some ⟨bo + 1, 0, none⟩)], PileH.vl (thM ls G c) x, undef, undef, undef, undef, undef, undef, undef, undef, undef, undef, undef, undef, undef, undef, undef, undef, undef, undef, undef, undef], defers := [] }) (fun x a' => fun s W1 W2 row ⟨b, hb, he⟩ hg hr => ⟨b, blk_turned hb hg (fun r e => (hr r e).2), he⟩) ?assign ?body ?done ?stop
        case assign =>
          intro l1 s x W1 K hI hK
          have HI := Lib.hid hI
          clear hI
          gi_wp2_with (first
            | ((with_reducible show wpListIn _ _ _ _ _ (⟨some 10, _, _, _, _, _⟩ :: _) _ _)
               go_must (refine wpListIn_val (o := ⟨some 10, _, _, _, _, _⟩) rfl (PileH.run_allocT rfl) (fun _ => trivial) (fun c hc => by cases hc) ?_)
               obtain ⟨w3, hr3, hB3, hg3, hz3⟩ := PileH.run_storeT (th := (thM ls G c)) (b := x) (Blk.new W1 86 [.slice none 0 0, .int .i64 0]) rfl)
            | ((with_reducible show wpListIn _ _ _ _ _ (⟨none, .store 86 (.tmp 10) _, _, _, _, _⟩ :: _) _ _)
               go_must (refine wpListIn_skip_ (o := ⟨none, .store 86 (.tmp 10) _, _, _, _, _⟩) (w' := w3) rfl (by simp [execOp, Act.eval, Act.put, hr3, Result.andThen]) (fun _ => trivial) (fun c hc => by cases hc) ?_)))
          have hb3 : Below W1.heap.size W1 w3 := (ga (gr W1) _).grown hg3 (by simp) (fun k hk => by cases hk; exact Nat.le_refl _)
          exact hK _ _ (keepsOthers_below hb3) ⟨_, hB3, rfl⟩ ⟨HI.out.1.grow HP.out.2 hb3, HI.out.2⟩
        case body =>
          rintro l1 s x a' W1 ⟨hS, hG, hpos, hx⟩ ⟨b, hbx, rfl⟩
          obtain ⟨u, hbu, hou⟩ := hS.out
          obtain ⟨Au, nu, cu_, rfl, hnu⟩ := own_form hou
          subst hnu
          have hdom := hG.dom _ (nth_mem hpos)
          obtain ⟨hlo, hG2⟩ := hG.step so hpos
          rw [← hx] at hdom hG2
          obtain ⟨i, a⟩ := x
          simp only at hdom hG2
          obtain ⟨y, hy⟩ : ∃ y, y = cellAt ls i a := ⟨_, rfl⟩
          obtain ⟨li, hli⟩ : ∃ li, li = (nth ls i).length - a := ⟨_, rfl⟩
          obtain ⟨ci, hci⟩ : ∃ ci, ci = c i - a := ⟨_, rfl⟩
          have hS1 : LSok th W1 ls G c := (H0.out.2.2.2.1.below H1.out).below (by rw [← HP.out.1]; exact hS.low)
          have hcc := (H0.out.2.2.2.1 i hdom.1 (by have := hdom.2; omega)).2
          have hlc : li ≤ ci := by omega
          have hl1 : ¬ li = 0 := by have := hdom.2; omega
          have cB : ∀ (w : World), Blk w b 86 (((thM ls G c) : Th (Nat × Nat) 2).cells (i, a)) → w.cell? ⟨b, 0, none⟩ = some (.slice (some ⟨G i, a * 2, none⟩) li ci) ∧ w.cell? ⟨b, 1, none⟩ = some (.int .i64 i) := fun w h => ⟨by rw [h.cell, hli, hci]; rfl, by rw [h.cell]; rfl⟩
          have CB := Lib.hid cB
          have Y1 := Lib.hid (And.intro (fun (w : World) (hb : Below W1.heap.size W1 w) => (boxed_by0 hbu hb).cell) (And.intro (fun (w : World) (hb : Below W1.heap.size W1 w) => cB w (hbx.grow hb)) (fun (w : World) (hb : Below W1.heap.size W1 w) => (show (Instr.loadAt 35 (.pointer (some ⟨G i, a * 2, none⟩))).run Try.prog w = .ok (vl th y) w from by rw [hy]; exact (hS1.below hb).load hdom.1 hdom.2))))
          rw [← hy] at hG2
          have hoT : s.1.length < T := by rw [HTt.out.1]; exact hlo
          have hsz : p ≤ W1.heap.size := Nat.le_trans HP.out.2 hS.low.size
          have hnx : s.2.2 ≤ 2147483648 := by have h1 := hG.num; have h2 := H0.out.2.1; have h3 := HTt.out.2; omega
          have hel : (Heap.pop (Heap.ahead (Heap.hlt lt ls)) s.2.1).length ≤ 1073741824 := by rw [pop_len]; have h1 := hG.len; have h2 := H0.out.2.1; omega
          have hdm : ∀ e ∈ Heap.pop (Heap.ahead (Heap.hlt lt ls)) s.2.1, headOk ls e.1 := fun e he => hG.dom e ((pop_perm (ah := Heap.ahead (Heap.hlt lt ls)) hpos).mem_iff.1 (List.mem_cons_of_mem _ he))
          have HLI := Lib.hid (And.intro hli (And.intro hdom hx))
          have X1 := Lib.hid (And.intro hS (And.intro hbx (And.intro hbu (And.intro hou (And.intro hoT (And.intro hsz (And.intro hnx (And.intro hel (And.intro hdm hG2)))))))))
          have HCI := Lib.hid hci
          clear hS hG hpos hx hbx hbu hou hdom hlo hG2 hy hli hci hS1 hcc cB hoT hsz hnx hel hdm
          gi_wp2
          try simp only [Act.put, List.setIfInBounds_toArray, List.set_cons_succ, List.set_cons_zero]
          refine wpIn_region_riT (fun _ => trivial) (fun a b => Below a.heap.size a b) (fun _ _ _ h g => gt h g) (fun _ _ h => h.size) (fun a => (gr a).drew) 6
            [.eq 40 (.slice Au s.1.length cu_), .eq 41 (.pointer (some ⟨b, 0, none⟩)), .eq 42 (.slice (some ⟨G i, a * 2, none⟩) li ci), .eq 43 (.pointer (some ⟨G i, a * 2, none⟩)), .eq 44 (vl th y), .new 45 (NewRow W1.heap.size 35 (th.cells y) 1)]
            (by kernel_rfl) (by kernel_rfl) (by kernel_rfl) (by kernel_rfl) ?hsta ?hoba ?hfina
          case hsta =>
            intro s hs
            simp only [List.mem_cons, List.not_mem_nil, or_false] at hs
            rcases hs with rfl | rfl | rfl | rfl | rfl | rfl
            · exact fun _ _ _ h _ => h
            · exact fun _ _ _ h _ => h
            · exact fun _ _ _ h _ => h
            · exact fun _ _ _ h _ => h
            · exact fun _ _ _ h _ => h
            · rintro vs w1 w2 ⟨v, rfl, h⟩ hb
              exact ⟨_, rfl, NewRow.stable h hb⟩
          case hoba =>
            simp only [List.take_succ_cons, List.take_zero]
            refine ris_cons ?_ (ris_cons ?_ (ris_cons ?_ (ris_cons ?_ (ris_cons ?_ (ris_cons ?_ ris_nil)))))
            · refine ri_eq (fun _ => trivial) (fun c hc => by cases hc) gr (by decide) (by rfl) (by rfl) fun x w' A hg hp hA => ?_
              have e9 := hA 9
              simp [rgDsts] at e9
              have c1 := Y1.out.1 w' hg
              go_simp
            · refine ri_eq (fun _ => trivial) (fun c hc => by cases hc) gr (by decide) (by rfl) (by rfl) fun x w' A hg hp hA => ?_
              have e10 := hA 10
              simp [rgDsts] at e10
              go_simp
            · refine ri_eq (fun _ => trivial) (fun c hc => by cases hc) gr (by decide) (by rfl) (by rfl) fun x w' A hg hp hA => ?_
              have h41 := rg_pred_eq (d := 41) hp 0 rfl rfl rfl
              have e41 := (hA.at_ 41 rfl).trans h41
              have c1 := (Y1.out.2.1 w' hg).1
              go_simp
            · refine ri_eq (fun _ => trivial) (fun c hc => by cases hc) gr (by decide) (by rfl) (by rfl) fun x w' A hg hp hA => ?_
              have h42 := rg_pred_eq (d := 42) hp 0 rfl rfl rfl
              have e42 := (hA.at_ 42 rfl).trans h42
              go_simp
            · refine ri_val (fun _ => trivial) (fun c hc => by cases hc) (by decide) (by rfl) fun x w' A hg hp hA => ?_
              have h43 := rg_pred_eq (d := 43) hp 0 rfl rfl rfl
              have e43 := (hA.at_ 43 rfl).trans h43
              have hr := Y1.out.2.2 w' hg
              exact ⟨vl th y, w', by simp [execOp, Act.eval, e43, hr, Result.andThen], gr _, by simp [rgUpd], by simp⟩
            · refine ri_val (fun _ => trivial) (fun c hc => by cases hc) (by decide) (by rfl) fun x w' A hg hp hA => ?_
              have h44 := rg_pred_eq (d := 44) hp 0 rfl rfl rfl
              have e44 := (hA.at_ 44 rfl).trans h44
              have e44' : A.eval (.tmp 44) = vl th y := by simpa [Act.eval] using e44
              refine ⟨_, _, run_build1 ET (.tmp 44) rfl (by decide) (th.cells y) (by rw [e44']; exact vl_cells y) (th.len y), ga (gr _) _, ?_, ?_⟩
              · exact ⟨_, rfl, _, by simp [rgUpd], hg.size, Blk.new w' _ _⟩
              · simp [blockOf]
          case hfina =>
          intro x w5 hg hall hap
          simp only [RgAll, holds_eq, holds_new, holds_one, and_true] at hall
          obtain ⟨h40, h41, h42, h43, h44, h45⟩ := hall
          obtain ⟨b45, h45, l45, hB45⟩ := h45
          simp only [rgDsts, List.take_succ_cons, List.take_zero, List.filterMap_cons, List.filterMap_nil, putMany, List.foldl_cons, List.foldl_nil, List.setIfInBounds_toArray, List.set_cons_succ, List.set_cons_zero, List.drop_succ_cons, List.drop_zero, h40, h41, h42, h43, h44, h45]
          clear h40 h41 h42 h43 h44 h45
          have hou5 := own_below' X1.out.2.2.2.1 hg
          have hbu5 := boxed_by0 X1.out.2.2.1 hg
          have Z5 := Lib.hid (And.intro hg (And.intro hou5 (And.intro hbu5 hB45)))
          clear hg hap hou5 hbu5 hB45
          by_cases h1 : 1 < li
          · have h2 : (1 : Int) < (li : Int) := by omega
            have h3 : ¬ ci = 1 := by omega
            have h4 : ¬ li ≤ 1 := by omega
            have h5 : (1 : Int) ≤ (li : Int) := by omega
            have h6 : (1 : Int) ≤ (ci : Int) := by omega
            have h7 : (li : Int) ≤ (ci : Int) := by omega
            have H1i := Lib.hid h1
            gi_wp2_with (first
              | ((with_reducible show wpListIn _ _ _ _ _ (⟨some 46, _, _, _, _, _⟩ :: _) _ _)
                 go_must (refine wpListIn_app1 ET (o := ⟨some 46, _, _, _, _, _⟩) rfl (fun _ => trivial) (.tmp 40) (.tmp 45) rfl p (.slice Au s.1.length cu_) s.1.length _ rfl Z5.out.2.1 ⟨b45, 0, none⟩ 1 1 (th.cells y) rfl Z5.out.2.2.2.rv (by rw [th.len]; rfl) (th.one y) (by have h1 := X1.out.2.2.2.2.1; have h2 := HTt.out.2; unfold maxLen; omega) (by have h1 := X1.out.2.2.2.2.1; have h2 := HTt.out.2; omega) (Nat.le_trans X1.out.2.2.2.2.2.1 Z5.out.1.size) ?_)
                 intro v' w6 ho6 hg6 hv6
                 obtain ⟨g', cap', rfl⟩ := ownsRow_succ ho6
                 obtain ⟨hv1, hk2, S2, G2⟩ := (X1.out.1.grow HP.out.2 Z5.out.1).app HP.out.2 HpB.out Z5.out.2.2.1 Z5.out.2.1 ho6 hg6
                 have hc1 := hv1.cell
                 have hf1 := hv1.frozen
                 have bx6 := G2.blk (X1.out.2.1.grow Z5.out.1) (fun e => blkneM (X1.out.2.1.grow Z5.out.1) Z5.out.2.2.1 (by decide) (by injection e)) (fun e => own_ne_blk Z5.out.2.1 (X1.out.2.1.grow Z5.out.1) (by decide) e.symm)
                 have cb6 := (CB.out _ bx6).1
                 have X6 := Lib.hid (And.intro ((keepsOthers_below Z5.out.1).trans hk2) (And.intro S2 bx6))
                 clear hv1 hk2 S2 G2 ho6 hg6 hv6 bx6))
            obtain ⟨w7x, hw7x⟩ : ∃ w, w = (w6.setCell ⟨bo, 0, none⟩ (.slice (some ⟨g', 0, none⟩) (s.1.length + 1) cap')) := ⟨_, rfl⟩
            rw [← hw7x] at X6 ⊢
            have Y6 := Lib.hid (And.intro (fun (w : World) (hb : Below w7x.heap.size w7x w) => (boxed_by0 X6.out.2.1.bxh hb).cell) (fun (w : World) (hb : Below w7x.heap.size w7x w) => CB.out w (X6.out.2.2.grow hb)))
            clear hw7x hc1 hf1 cb6
            try simp only [Act.put, List.setIfInBounds_toArray, List.set_cons_succ, List.set_cons_zero]
            refine wpIn_region_riT (fun _ => trivial) (fun a b => Below a.heap.size a b) (fun _ _ _ h g => gt h g) (fun _ _ h => h.size) (fun a => (gr a).drew) 7
              [.eq 51 (.pointer (some ⟨p, 0, none⟩)), .eq 52 (.pointer (some ⟨b, 0, none⟩)), .eq 53 (.slice (some ⟨G i, a * 2, none⟩) li ci), .eq 54 (.slice (some ⟨G i, a * 2 + 2, none⟩) (li - 1) (ci - 1)), .eq 55 (.pointer (some ⟨b, 1, none⟩)), .eq 56 (.int .i64 (i : Int)), .eq 57 (.agg #[.slice (some ⟨G i, a * 2 + 2, none⟩) (li - 1) (ci - 1), .int .i64 (i : Int)])]
              (by kernel_rfl) (by kernel_rfl) (by kernel_rfl) (by kernel_rfl) ?hstb ?hobb ?hfinb
            case hstb =>
              intro s hs
              simp only [List.mem_cons, List.not_mem_nil, or_false] at hs
              rcases hs with rfl | rfl | rfl | rfl | rfl | rfl | rfl
              · exact fun _ _ _ h _ => h
              · exact fun _ _ _ h _ => h
              · exact fun _ _ _ h _ => h
              · exact fun _ _ _ h _ => h
              · exact fun _ _ _ h _ => h
              · exact fun _ _ _ h _ => h
              · exact fun _ _ _ h _ => h
            case hobb =>
              simp only [List.take_succ_cons, List.take_zero]
              refine ris_cons ?_ (ris_cons ?_ (ris_cons ?_ (ris_cons ?_ (ris_cons ?_ (ris_cons ?_ (ris_cons ?_ ris_nil))))))
              · refine ri_eq (fun _ => trivial) (fun c hc => by cases hc) gr (by decide) (by rfl) (by rfl) fun x w' A hg hp hA => ?_
                have e5 := hA 5
                simp [rgDsts] at e5
                have c1 := (Y6.out.1 w' hg)
                go_simp
              · refine ri_eq (fun _ => trivial) (fun c hc => by cases hc) gr (by decide) (by rfl) (by rfl) fun x w' A hg hp hA => ?_
                have e10 := hA 10
                simp [rgDsts] at e10
                go_simp
              · refine ri_eq (fun _ => trivial) (fun c hc => by cases hc) gr (by decide) (by rfl) (by rfl) fun x w' A hg hp hA => ?_
                have h52 := rg_pred_eq (d := 52) hp 0 rfl rfl rfl
                have e52 := (hA.at_ 52 rfl).trans h52
                have c1 := (Y6.out.2 w' hg).1
                go_simp
              · refine ri_eq (fun _ => trivial) (fun c hc => by cases hc) gr (by decide) (by rfl) (by rfl) fun x w' A hg hp hA => ?_
                have h53 := rg_pred_eq (d := 53) hp 0 rfl rfl rfl
                have e53 := (hA.at_ 53 rfl).trans h53
                go_simp
              · refine ri_eq (fun _ => trivial) (fun c hc => by cases hc) gr (by decide) (by rfl) (by rfl) fun x w' A hg hp hA => ?_
                have e10 := hA 10
                simp [rgDsts] at e10
                go_simp
              · refine ri_eq (fun _ => trivial) (fun c hc => by cases hc) gr (by decide) (by rfl) (by rfl) fun x w' A hg hp hA => ?_
                have h55 := rg_pred_eq (d := 55) hp 0 rfl rfl rfl
                have e55 := (hA.at_ 55 rfl).trans h55
                have c1 := (Y6.out.2 w' hg).2
                go_simp
              · refine ri_eq (fun _ => trivial) (fun c hc => by cases hc) gr (by decide) (by rfl) (by rfl) fun x w' A hg hp hA => ?_
                have h54 := rg_pred_eq (d := 54) hp 0 rfl rfl rfl
                have h56 := rg_pred_eq (d := 56) hp 1 rfl rfl rfl
                have e54 := (hA.at_ 54 rfl).trans h54
                have e56 := (hA.at_ 56 rfl).trans h56
                go_simp
            case hfinb =>
            intro x w7 hg hall hap
            simp only [RgAll, holds_eq, holds_new, holds_one, and_true] at hall
            obtain ⟨h51, h52, h53, h54, h55, h56, h57⟩ := hall
            simp only [rgDsts, List.take_succ_cons, List.take_zero, List.filterMap_cons, List.filterMap_nil, putMany, List.foldl_cons, List.foldl_nil, List.setIfInBounds_toArray, List.set_cons_succ, List.set_cons_zero, List.drop_succ_cons, List.drop_zero, h51, h52, h53, h54, h55, h56, h57]
            clear h51 h52 h53 h54 h55 h56 h57
            have e0 : PileH.vl (thM ls G c) (i, a + 1) = .agg #[.slice (some ⟨G i, a * 2 + 2, none⟩) (li - 1) (ci - 1), .int .i64 i] := by
              have e1 := HLI.out.1
              have e2 := HCI.out
              rw [show (li - 1) = (nth ls i).length - (a + 1) by omega, show (ci - 1) = c i - (a + 1) by omega]
              simp [PileH.vl, thM]
              try omega
            have cP := Lib.hid ((X6.out.2.1.grow HP.out.2 hg).push HL.out HP.out.2 X1.out.2.2.2.2.2.2.2.2.1 X1.out.2.2.2.2.2.2.2.1 X1.out.2.2.2.2.2.2.1 (i, a + 1) ⟨HLI.out.2.1.1, by show a + 1 < (nth ls i).length; have e1 := HLI.out.1; omega⟩)
            rw [e0] at cP
            have Z7 := Lib.hid hg
            clear hg hap e0
            gi_wp2_with (first
              | ((with_reducible refine And.intro ?_ ?_)
                 exact trivial
                 gi_at_call 52
                 refine (callsIn_wide.2 cP.out).mono ?_
                 rintro e w8 ⟨⟨r8, rfl⟩, k8, S8⟩
                 have X8 := Lib.hid (And.intro k8 S8)
                 clear k8 S8))
            refine ⟨X6.out.1.trans ((keepsOthers_below Z7.out).trans X8.out.1), (s.1 ++ [y], mergeStep lt ls s.2.1 s.2.2, mergeNext ls s.2.1 s.2.2), ?_, ?_, X1.out.2.2.2.2.2.2.2.2.2⟩
            · show T - (s.1 ++ [y]).length < T - s.1.length
              have := X1.out.2.2.2.2.1
              rw [List.length_append, List.length_cons, List.length_nil]; omega
            · have e2 : (nth s.2.1 0).1.2 + 1 < (nth ls (nth s.2.1 0).1.1).length := by
                rw [← HLI.out.2.2]
                have e1 := HLI.out.1
                have := H1i.out
                simp only
                omega
              unfold mergeStep mergeNext
              simp only [if_pos e2]
              rw [← HLI.out.2.2]
              exact X8.out.2
          · have h2 : ¬ ((1 : Int) < (li : Int)) := by omega
            have H1i := Lib.hid h1
            clear h1
            gi_wp2_with (first
              | ((with_reducible show wpListIn _ _ _ _ _ (⟨some 46, _, _, _, _, _⟩ :: _) _ _)
                 go_must (refine wpListIn_app1 ET (o := ⟨some 46, _, _, _, _, _⟩) rfl (fun _ => trivial) (.tmp 40) (.tmp 45) rfl p (.slice Au s.1.length cu_) s.1.length _ rfl Z5.out.2.1 ⟨b45, 0, none⟩ 1 1 (th.cells y) rfl Z5.out.2.2.2.rv (by rw [th.len]; rfl) (th.one y) (by have h1 := X1.out.2.2.2.2.1; have h2 := HTt.out.2; unfold maxLen; omega) (by have h1 := X1.out.2.2.2.2.1; have h2 := HTt.out.2; omega) (Nat.le_trans X1.out.2.2.2.2.2.1 Z5.out.1.size) ?_)
                 intro v' w6 ho6 hg6 hv6
                 obtain ⟨g', cap', rfl⟩ := ownsRow_succ ho6
                 obtain ⟨hv1, hk2, S2, G2⟩ := (X1.out.1.grow HP.out.2 Z5.out.1).app HP.out.2 HpB.out Z5.out.2.2.1 Z5.out.2.1 ho6 hg6
                 have hc1 := hv1.cell
                 have hf1 := hv1.frozen
                 have bx6 := G2.blk (X1.out.2.1.grow Z5.out.1) (fun e => blkneM (X1.out.2.1.grow Z5.out.1) Z5.out.2.2.1 (by decide) (by injection e)) (fun e => own_ne_blk Z5.out.2.1 (X1.out.2.1.grow Z5.out.1) (by decide) e.symm)
                 have cb6 := (CB.out _ bx6).1
                 have X6 := Lib.hid (And.intro ((keepsOthers_below Z5.out.1).trans hk2) (And.intro S2 bx6))
                 clear hv1 hk2 S2 G2 ho6 hg6 hv6 bx6))
            refine ⟨X6.out.1, (s.1 ++ [y], mergeStep lt ls s.2.1 s.2.2, mergeNext ls s.2.1 s.2.2), ?_, ?_, X1.out.2.2.2.2.2.2.2.2.2⟩
            · show T - (s.1 ++ [y]).length < T - s.1.length
              have := X1.out.2.2.2.2.1
              rw [List.length_append, List.length_cons, List.length_nil]; omega
            · have e2 : ¬ (nth s.2.1 0).1.2 + 1 < (nth ls (nth s.2.1 0).1.1).length := by
                rw [← HLI.out.2.2]
                have e1 := HLI.out.1
                have := H1i.out
                simp only
                omega
              unfold mergeStep mergeNext
              simp only [if_neg e2]
              exact X6.out.2.1
        case done =>
          rintro Dd s W2 hDd ⟨hS, hG, hnil⟩ hK
          obtain ⟨u, hbu, hou⟩ := hS.out
          obtain ⟨Au, nu, cu_, rfl, hnu⟩ := own_form hou
          subst hnu
          have cu := hbu.cell
          have hall : s.1 = merged lt ls := by rw [hnil] at hG; exact hG.done
          have X1 := Lib.hid (And.intro hall (And.intro hS hou))
          clear hnil hS hbu hou hG hall
          gi_wp2
          refine ⟨by simp, .inl ⟨_, _, rfl, run_takeDeferred hK, ?_⟩⟩
          obtain ⟨hall, hS, hou⟩ := X1.out
          refine ⟨_, by simp [results, Try.results27, go_sem]; rfl, ?_⟩
          have h1 := ownsRow_putObj hou (.deferred none) hK rfl
          rw [hall] at h1
          have hpW : W.heap.size ≤ p := by rw [HQ.out.1]; omega
          have h2 : Below p w1 (W2.putObj Dd (.deferred none)) := hS.low.trans (belowK_b (w := w4) h4s W2 Dd _ _ hDd hK rfl rfl)
          refine ⟨_, rfl, own_lowM (by rw [hall]; exact h1) hpW, gt H1.out (by rw [← HP.out.1]; exact h2)⟩
        case stop => exact fun _ _ _ _ _ hs => hs.elim
end
end Go.Proofs.Ytdebokambldbbaa.PileI
