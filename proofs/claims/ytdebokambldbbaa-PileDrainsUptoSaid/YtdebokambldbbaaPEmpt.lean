/- weirlaw07.piles and weirlaw07.emptied. -/
import Derived.Test.YtdebokambldbbaaPFam
namespace Go.Proofs.Ytdebokambldbbaa.LawP
open Go.RowKit Go.Shelf Go.Proofs.Ytdebokambldbbaa.Mem Go.Proofs.Ytdebokambldbbaa.Heap Go.Proofs.Ytdebokambldbbaa.Pile Go.Proofs.Ytdebokambldbbaa.PileI
set_option linter.unusedVariables false
set_option linter.unusedSectionVars false
set_option maxRecDepth 4000
set_option maxHeartbeats 3200000

theorem EPP : Elt Try.prog 24 30 [.pointer none] 8 := Elt.mk1 Try.underlying24 (by kernel_rfl) rfl
/-- as many piles, k of them made -/
structure PSt (N R : Nat) (p : Nat → Nat) (k : Nat) (W W' : World) : Prop where
  blk : Blk W' R 30 ((List.range N).map fun j => if j < k then .pointer (some ⟨p j, 0, none⟩) else .pointer none)
  low : Below W.heap.size W W'
  hR : W.heap.size ≤ R
  pl : ∀ j, j < k → W.heap.size ≤ p j ∧ PlK thI W' W.heap.size (p j) (.slice none 0 0) (fvF (j % 3 == 2)) [] 0
  pp : ∀ i j, i < k → j < k → i ≠ j → p i ≠ p j
theorem PSt.next {N R k : Nat} {p : Nat → Nat} {W wr w1 : World} (s : PSt N R p k W wr) (hk : k < N) (hP : PlK thI w1 wr.heap.size wr.heap.size (.slice none 0 0) (fvF (k % 3 == 2)) [] 0) (hb : Below wr.heap.size wr w1) :
    PSt N R (fupd p k wr.heap.size) (k + 1) W (w1.setCell ⟨R, k, none⟩ (.pointer (some ⟨wr.heap.size, 0, none⟩))) := by
  have hB1 := s.blk.grow hb
  have hle := s.low.size
  have hne : ∀ j, j < k → p j ≠ wr.heap.size := fun j hj => Nat.ne_of_lt (s.pl j hj).2.blk.lt
  have pset : ∀ {q : Nat} {fv : Value}, PlK thI w1 W.heap.size q (.slice none 0 0) fv [] 0 → PlK thI (w1.setCell ⟨R, k, none⟩ (.pointer (some ⟨wr.heap.size, 0, none⟩))) W.heap.size q (.slice none 0 0) fv [] 0 := fun {q fv} h =>
    ⟨h.blk.far (blk_ne_blk h.blk hB1 (by decide)) _, World.ownsRow_nil _ _ _ _, h.ne⟩
  refine ⟨?_, ?_, s.hR, fun j hj => ?_, fun i j hi hj hij => ?_⟩
  · have h1 := hB1.set_ k (.pointer (some ⟨wr.heap.size, 0, none⟩))
    have e : (((List.range N).map fun j => if j < k then Value.pointer (some ⟨p j, 0, none⟩) else .pointer none).set k (.pointer (some ⟨wr.heap.size, 0, none⟩))) = (List.range N).map fun j => if j < k + 1 then Value.pointer (some ⟨fupd p k wr.heap.size j, 0, none⟩) else .pointer none := by
      apply List.ext_getElem
      · simp
      · intro i h1 h2
        rw [List.getElem_set]
        simp only [List.getElem_map, List.getElem_range]
        by_cases e : k = i
        · subst e; simp [fupd_same]
        · rw [if_neg e]
          by_cases h : i < k
          · rw [if_pos h, if_pos (by omega), fupd_ne _ _ (by omega)]
          · rw [if_neg h, if_neg (by omega)]
    rw [e] at h1
    exact h1
  · exact (s.low.trans (hb.mono hle)).grown (grown_set w1 R k _) (Nat.le_trans hle hb.size) (fun j hj => by cases hj; exact s.hR)
  · by_cases e : j = k
    · subst e
      rw [fupd_same]
      exact ⟨hle, pset ⟨hP.blk, World.ownsRow_nil _ _ _ _, hP.ne⟩⟩
    · rw [fupd_ne _ _ e]
      exact ⟨(s.pl j (by omega)).1, pset ((s.pl j (by omega)).2.grow hb)⟩
  · by_cases e : i = k
    · subst e
      rw [fupd_same, fupd_ne _ _ (Ne.symm hij)]
      exact (hne j (by omega)).symm
    · rw [fupd_ne _ _ e]
      by_cases e2 : j = k
      · subst e2; rw [fupd_same]; exact hne i (by omega)
      · rw [fupd_ne _ _ e2]; exact s.pp i j (by omega) (by omega) hij
theorem piles_any (n : Nat) (hn : n ≤ 1000) (W : World) : Calls Try.prog 11 #[.int .i64 n] W fun e W' => ∃ (R : Nat) (p : Nat → Nat), e = .returned (.slice (some ⟨R, 0, none⟩) n n) ∧ PSt n R p n W W' := by
  have hn63 : n ≤ maxLen := by unfold maxLen; omega
  go_enter Try.func11, Try.ntmps11
  go_wp2_with (((with_reducible show wpList _ _ _ (⟨some 6, _, _, _, _, _⟩ :: _) _ _); go_must (refine wpList_make1 EPP (o := ⟨some 6, _, _, _, _, _⟩) rfl _ _ rfl .i64 .i64 _ _ n rfl rfl rfl rfl (by omega) hn63 _ rfl ?_); intro w1 hB1 hb1 hz1))
  have hs0 : PSt n W.heap.size (fun _ => 0) 0 W w1 := by
    refine ⟨?_, hb1, Nat.le_refl _, fun j hj => absurd hj (Nat.not_lt_zero j), fun i j hi => absurd hi (Nat.not_lt_zero i)⟩
    have e : ((List.range n).map fun j => if j < 0 then Value.pointer (some ⟨(fun _ => 0) j, 0, none⟩) else .pointer none) = List.replicate n (.pointer none) := by
      apply List.ext_getElem <;> simp
    rw [e]; exact hB1
  have HS := Lib.hid hs0
  obtain ⟨R, hR⟩ : ∃ R, R = W.heap.size := ⟨_, rfl⟩
  rw [← hR] at HS
  simp only [← hR]
  clear hs0 hB1 hb1 hz1 hn63 hR
  go_loopw [9] (fun v9 wr => ∃ (k : Nat) (p : Nat → Nat), k ≤ n ∧ v9 = .int .i64 k ∧ PSt n R p k W wr) (fun v _ => n - (intOf v).toNat)
  case atStart => exact ⟨0, _, Nat.zero_le _, rfl, HS.out⟩
  case round =>
    obtain ⟨k, p, hk, rfl, hs⟩ := hrel
    by_cases hlt : k < n
    · have hki : (k : Int) < (n : Int) := by omega
      have hk0 : (0 : Int) ≤ (k : Int) := by omega
      have q7 : wrap64 ((k : Int) + 1) = (k : Int) + 1 := wrap_in (by omega) (by omega)
      have t3 : ((k : Int)).tmod 3 = (k : Int) % 3 := Int.tmod_eq_emod_of_nonneg hk0
      obtain ⟨ri, hri⟩ : ∃ ri : Int, ri = (k : Int) % 3 := ⟨_, rfl⟩
      have t1 := t3.trans hri.symm
      have t2 := hri.symm
      have nx : ∀ w1, PlK thI w1 wr.heap.size wr.heap.size (.slice none 0 0) (fvF (k % 3 == 2)) [] 0 → Below wr.heap.size wr w1 → w1.cell? ⟨R, k, none⟩ = some (.pointer none) ∧ w1.frozen? ⟨R, k, none⟩ = false ∧ PSt n R (fupd p k wr.heap.size) (k + 1) W (w1.setCell ⟨R, k, none⟩ (.pointer (some ⟨wr.heap.size, 0, none⟩))) := fun w1 hP hb => by
        have hB := hs.blk.grow hb
        refine ⟨?_, hB.frozen k, hs.next hlt hP hb⟩
        rw [hB.cell k]
        simp [hlt]
      have NX := Lib.hid nx
      have Q := Lib.hid hlt
      clear nx hs hlt hk
      by_cases hf : k % 3 = 2
      · obtain rfl : ri = 2 := by omega
        have hfb : (k % 3 == 2) = true := by rw [hf]; rfl
        have HF := Lib.hid hfb
        clear hf hfb t3 hri
        go_wp2_with (go_at_call 25; refine (new_nil (th := thI) _).mono ?_; rintro e w1 ⟨rfl, hP, hb⟩; obtain ⟨c1, f1, hn⟩ := NX.out w1 (by rw [HF.out]; exact hP) hb; have X := Lib.hid hn; clear hP hb hn)
        go_roundw
        case rel => exact ⟨k + 1, _, Q.out, by go_num, X.out⟩
        case measure =>
          exact meas_in Q.out
      · have hf2 : ¬ ri = 2 := by omega
        have hfb : (k % 3 == 2) = false := by rw [beq_eq_false_iff_ne]; exact hf
        have HF := Lib.hid hfb
        clear hf hfb t3 hri
        go_wp2_with (go_at_call 25; refine (new_any (th := thI) _ _ 28 #[] rfl).mono ?_; rintro e w1 ⟨rfl, hP, hb⟩; obtain ⟨c1, f1, hn⟩ := NX.out w1 (by rw [HF.out]; exact hP) hb; have X := Lib.hid hn; clear hP hb hn)
        go_roundw
        case rel => exact ⟨k + 1, _, Q.out, by go_num, X.out⟩
        case measure =>
          exact meas_in Q.out
    · obtain rfl : k = n := by omega
      have X := Lib.hid hs
      clear hs hlt hk
      go_wp2
      go_ret
      exact ⟨R, p, rfl, X.out⟩

/-- a pile while it is emptied, k of X taken out -/
structure ES (B p : Nat) (vb : Option Nat) (flat : Bool) (nx : Nat) (X : List Itm) (W0 : World) (k : Nat) (W : World) : Prop where
  pl : ∃ v es, PlK thI W B p v (fvF flat) es nx ∧ v.ownBlock = vb ∧ (popAll (Heap.ahead (ltF flat)) es.length es).map (·.1) = X.drop k
  gr : Grown2 W0 W (some p) vb
theorem ES.grow {B p : Nat} {vb : Option Nat} {flat : Bool} {nx : Nat} {X : List Itm} {W0 W W' : World} {k : Nat} (s : ES B p vb flat nx X W0 k W) (hb : Below W.heap.size W W') : ES B p vb flat nx X W0 k W' := by
  obtain ⟨v, es, h1, h2⟩ := s.pl
  exact ⟨⟨v, es, h1.grow hb, h2⟩, s.gr.below hb⟩
theorem ES.pop {B p : Nat} {vb : Option Nat} {flat : Bool} {nx : Nat} {X : List Itm} {W0 W w0 : World} {k : Nat} (s : ES B p vb flat nx X W0 k W) (hk : k < X.length) (hX : X.length ≤ 1073741824) (hw : Below B w0 W0) (hB0 : B ≤ w0.heap.size) (hBp : B ≤ p) (hvb : ∀ g, vb = some g → B ≤ g) :
    Calls Try.prog 17 #[.pointer (some ⟨p, 0, none⟩)] W fun e W' => e = .returned (.tuple #[.agg #[.int .i64 X[k].1, .int .i64 X[k].2], .bool true]) ∧ ES B p vb flat nx X W0 (k + 1) W' ∧ Grown2 W W' (some p) vb := by
  obtain ⟨v, es, hP, hv, he⟩ := s.pl
  have hlen : es.length = X.length - k := by
    have := congrArg List.length he
    rw [List.length_map, popAll_len, List.length_drop] at this
    exact this
  have hB : B ≤ W0.heap.size := Nat.le_trans hB0 hw.size
  refine (pop_any W hP (less_F flat (D := fun _ => True) (w0 := w0)) (s.gr.low hw hB (fun j hj => by cases hj; exact hBp) hvb) (Nat.le_trans hB s.gr.size) hBp (fun _ _ => trivial) (by omega) (by omega)).mono ?_
  rintro e W' ⟨rfl, v', hP', hg, hv'⟩
  obtain ⟨m, hm⟩ : ∃ m, es.length = m + 1 := ⟨es.length - 1, by omega⟩
  rw [hm, popAll, List.map_cons, List.drop_eq_getElem_cons hk] at he
  injection he with h1 h2
  refine ⟨?_, ⟨⟨v', _, hP', hv'.trans hv, ?_⟩, s.gr.trans2 (hv ▸ hg)⟩, hv ▸ hg⟩
  · rw [← h1]; rfl
  · rw [pop_len, hm, Nat.add_sub_cancel, h2]
theorem emptied_any (flat : Bool) {B p nx : Nat} {v : Value} {es L : List (Itm × Nat)} {w0 : World} (W : World) (hP : PlK thI W B p v (fvF flat) es nx) (hw : Below B w0 W) (hB0 : B ≤ w0.heap.size) (hBp : B ≤ p) (hbk : Book (ltF flat) es L nx)
    (A : Option Addr) (n c : Nat) (hr : RV W A ((L.map (·.1)).flatMap Itm.cells)) (hn : n = L.length) (hc : n ≤ c) (hl : L.length ≤ 1073741824) :
    Calls Try.prog 20 #[.pointer (some ⟨p, 0, none⟩), .slice A n c, .bool flat] W fun e W' => e = .returned (.bool true) ∧ ∃ v', PlK thI W' B p v' (fvF flat) [] nx ∧ Grown2 W W' (some p) v.ownBlock ∧ v'.ownBlock = v.ownBlock := by
  obtain ⟨X, hX⟩ : ∃ X, X = msort (ltF flat) (L.map (·.1)) := ⟨_, rfl⟩
  have hXl : X.length = n := by rw [hX, msort_len, List.length_map, hn]
  have hvb : ∀ g, v.ownBlock = some g → B ≤ g := fun g hg => (hP.own.lt g hg).1
  have cS := refsort_any flat n A n c (L.map (·.1)) W (Nat.le_refl _) hr (by rw [List.length_map]; exact hn) hc (by rw [List.length_map]; exact hl)
  rw [← hX, List.length_map, ← hn] at cS
  have hall := hbk.all_map (swo_ltF flat)
  rw [← hX] at hall
  have hnb : n ≤ 1073741824 := by omega
  have H0 := Lib.hid (And.intro hP (And.intro hw (And.intro hXl (And.intro hall hvb))))
  have HV := Lib.hid (own_ne_blk hP.own hP.blk (by decide))
  clear hP hw hbk hr hn hl hX hall hvb hc hXl
  go_enter Try.func20, Try.ntmps20
  go_wp2_with (go_at_call 29; refine cS.mono ?_; rintro e w1 ⟨vs, rfl, hos, hb1⟩; obtain ⟨As, cs, rfl, hcs⟩ := own_slice hos; clear hcs)
  have hs0 : ES B p v.ownBlock flat nx X w1 0 w1 := ⟨⟨v, es, H0.out.1.grow hb1, rfl, by rw [H0.out.2.2.2.1]; rfl⟩, Grown2.refl _ _ _⟩
  have hb01 : Below B w0 w1 := H0.out.2.1.trans (hb1.mono (Nat.le_trans hB0 H0.out.2.1.size))
  have H1 := Lib.hid (And.intro hs0 (And.intro hos (And.intro hb1 (And.intro hb01 (H0.out.1.grow hb1)))))
  clear hs0 hos hb1 hb01 cS
  go_loopw [17] (fun v17 wr => ∃ k : Nat, k ≤ n ∧ v17 = .int .i64 k ∧ ES B p v.ownBlock flat nx X w1 k wr) (fun v _ => n - (intOf v).toNat)
  case atStart => exact ⟨0, Nat.zero_le _, rfl, H1.out.1⟩
  case round =>
    obtain ⟨k, hk, rfl, hs⟩ := hrel
    have hosr := hs.gr.own H1.out.2.1 (.inr (own_ne_blk H1.out.2.1 H1.out.2.2.2.2.blk (by decide))) (own_ne_own H1.out.2.1 H1.out.2.2.2.2.own (by decide))
    by_cases hlt : k < n
    · have hkX : k < X.length := by rw [H0.out.2.2.1]; exact hlt
      have hki : (k : Int) < (n : Int) := by omega
      have hk0 : (0 : Int) ≤ (k : Int) := by omega
      have q7 : wrap64 ((k : Int) + 1) = (k : Int) + 1 := wrap_in (by omega) (by omega)
      obtain ⟨ad, rfl, c1, c2⟩ := item_gen (own_rv hosr) hkX
      have cP : ∀ w, Below wr.heap.size wr w → _ := fun w hb => (hs.grow hb).pop hkX (by rw [H0.out.2.2.1]; exact hnb) H1.out.2.2.2.1 hB0 hBp H0.out.2.2.2.2
      obtain ⟨y, hy⟩ : ∃ y, y = X[k] := ⟨_, rfl⟩
      rw [← hy] at c1 c2 cP
      have CP := Lib.hid cP
      have Q := Lib.hid (And.intro hlt hs)
      have hbn : Below wr.heap.size wr (wr.alloc (.cells #[.int .i64 y.1, .int .i64 y.2] 35)) := ga (gr wr) _
      have B8 : Blk (wr.alloc (.cells #[.int .i64 y.1, .int .i64 y.2] 35)) wr.heap.size 35 [.int .i64 y.1, .int .i64 y.2] := Blk.new wr _ [_, _]
      have hpw : p < wr.heap.size := Nat.lt_of_lt_of_le H1.out.2.2.2.2.blk.lt hs.gr.size
      have hvw : ∀ g, v.ownBlock = some g → g < wr.heap.size := fun g hg => Nat.lt_of_lt_of_le ((H1.out.2.2.2.2.own.lt g hg).2) hs.gr.size
      have hY : ∀ w2, Grown2 (wr.alloc (.cells #[.int .i64 y.1, .int .i64 y.2] 35)) w2 (some p) v.ownBlock → w2.cell? ⟨wr.heap.size, 0, none⟩ = some (.int .i64 y.1) ∧ w2.cell? ⟨wr.heap.size, 1, none⟩ = some (.int .i64 y.2) ∧ wr.heap.size ≠ w2.heap.size ∧ (w2.alloc (.cells #[.int .i64 y.1, .int .i64 y.2] 35)).cell? ⟨wr.heap.size, 0, none⟩ = some (.int .i64 y.1) ∧ (w2.alloc (.cells #[.int .i64 y.1, .int .i64 y.2] 35)).cell? ⟨wr.heap.size, 1, none⟩ = some (.int .i64 y.2) := fun w2 hg => by
        have h1 := hg.blk B8 (fun e => by injection e with e; omega) (fun e => by have := hvw _ e.symm; omega)
        exact ⟨h1.cell 0, h1.cell 1, Nat.ne_of_lt h1.lt, (h1.alloc _).cell 0, (h1.alloc _).cell 1⟩
      have HB := Lib.hid (And.intro hbn hY)
      clear hosr hk hlt cP hs hy hbn B8 hY hpw hvw hkX
      obtain ⟨y1, y2⟩ := y
      simp only at c1 c2
      go_wp2_with (go_at_call 17; go_must (refine (CP.out _ HB.out.1).mono ?_); rintro e w2 ⟨rfl, hs2, hg2⟩; obtain ⟨d1, d2, hz, d3, d4⟩ := HB.out.2 w2 hg2; have S2 := Lib.hid hs2; clear hs2 hg2)
      go_roundw
      case rel => exact ⟨k + 1, Q.out.1, by go_num, ES.grow S2.out (ga (gr w2) _)⟩
      case measure => exact meas_in Q.out.1
    · obtain rfl : n = k := by omega
      obtain ⟨v1, es1, hP1, hv1, he1⟩ := hs.pl
      have hes1 : es1 = [] := by
        have := congrArg List.length he1
        rw [List.length_map, popAll_len, List.length_drop, H0.out.2.2.1, Nat.sub_self] at this
        exact List.eq_nil_of_length_eq_zero this
      subst hes1
      have cL : ∀ w, Below wr.heap.size wr w → Calls Try.prog 19 #[.pointer (some ⟨p, 0, none⟩)] w fun e W' => e = .returned (.int .i64 0) ∧ Below w.heap.size w W' := fun w hb => by
        have := len_any w (hP1.grow hb)
        exact this
      have cP := pop_none wr (.pointer (some ⟨p, 0, none⟩)) cL
      have CC := Lib.hid (And.intro cP cL)
      have X := Lib.hid (And.intro hP1 (And.intro hv1 hs.gr))
      clear hP1 hv1 he1 hs cL cP hosr hlt hk
      unfold zv at CC
      go_wp2_with (first
        | (go_at_call 17; go_must (refine CC.out.1.mono ?_); rintro e w2 ⟨rfl, hb2⟩; have hb2' := ga hb2 (.cells #[.int .i64 0, .int .i64 0] 35))
        | (go_at_call 19; go_must (refine (CC.out.2 _ hb2').mono ?_); rintro e w3 ⟨rfl, hb3⟩; have hb4 := gt hb2' hb3))
      go_ret
      exact ⟨rfl, v1, X.out.1.grow hb4, ((Grown2.of_below H1.out.2.2.1).trans2 X.out.2.2).below hb4, X.out.2.1⟩
end Go.Proofs.Ytdebokambldbbaa.LawP
