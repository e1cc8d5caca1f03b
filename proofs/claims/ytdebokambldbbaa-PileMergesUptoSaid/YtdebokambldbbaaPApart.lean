/- weirlaw07.apart: true for lists that lie apart; what changed lies in them or is new. -/
import Derived.Test.YtdebokambldbbaaPApB
namespace Go.Proofs.Ytdebokambldbbaa.LawP
open Go.RowKit Go.Shelf Go.Proofs.Ytdebokambldbbaa.Mem Go.Proofs.Ytdebokambldbbaa.Heap Go.Proofs.Ytdebokambldbbaa.Pile Go.Proofs.Ytdebokambldbbaa.PileI
set_option linter.unusedVariables false
set_option linter.unusedSectionVars false
set_option linter.unusedSimpArgs false
set_option maxRecDepth 8000
set_option maxHeartbeats 12800000

theorem E26 : Elt Try.prog 26 32 [.slice none 0 0] 24 := Elt.mk1 Try.underlying26 (by kernel_rfl) rfl
theorem it_cells {W : World} {g : Nat} {l : List Itm} (h : RV W (some ⟨g, 0, none⟩) (l.flatMap Itm.cells)) {k : Nat} {y : Itm} (hk : l[k]? = some y) : W.cell? ⟨g, k * 2, none⟩ = some (.int .i64 y.1) ∧ W.cell? ⟨g, k * 2 + 1, none⟩ = some (.int .i64 y.2) := by
  obtain ⟨hlt, rfl⟩ := List.getElem?_eq_some_iff.1 hk
  obtain ⟨ad, e, hc⟩ := rv_at (th := thI) h hlt
  injection e with e
  subst e
  have h0 := hc 0 _ rfl
  have h1 := hc 1 _ rfl
  rw [add_none] at h0 h1
  simp only [Nat.zero_add, Nat.add_zero] at h0 h1
  exact ⟨h0, h1⟩
theorem apart_items (gL N cL B : Nat) (cs : List Value) (vs : Nat → Value) (n : Nat → Nat) (L : Nat → List Itm) (R : Nat → Prop) (w : World) (hN : N ≤ 4194304) (hL : Blk w gL 32 cs) (hcs : ∀ i, i < N → cs[i]? = some (vs i))
    (h : Ap0 w w B TI 2 N R (fun b => b = gL) vs n (fl L)) (hn : ∀ i, i < N → n i ≤ 1073741824) (hB : B ≤ w.heap.size) :
    Calls Try.prog 33 #[.slice (some ⟨gL, 0, none⟩) N cL] w fun e w' => e = .returned (.bool true) ∧ GrownS w w' R := by
  have hLl : ∀ i, i < N → (L i).length = n i := fun i hi => by
    have := (h.own i hi).1
    unfold fl at this
    rw [fl_len] at this
    omega
  have H0 := Lib.hid (And.intro hL (And.intro hcs (And.intro h (And.intro hn (And.intro hB hLl)))))
  clear hL hcs h hn hB hLl
  go_enter Try.func33, Try.ntmps33
  go_wp2
  go_loopw [22] (fun v wr => ∃ k : Nat, k ≤ N ∧ v = .int .i64 k ∧ Ap0 w wr B TI 2 N R (fun b => b = gL) vs n (fl (X1 n L k 0)) ∧ Blk wr gL 32 cs) (fun v _ => N - (intOf v).toNat)
  case atStart => exact ⟨0, by omega, rfl, by rw [x1_start]; exact H0.out.2.2.1, H0.out.1⟩
  case round =>
    obtain ⟨k, hk, rfl, hA, hL⟩ := hrel
    by_cases hlt : k < N
    · obtain ⟨Ak, nk', ck, hvk, hnk⟩ := own_form (hA.own k hlt)
      obtain ⟨nk, hnk2⟩ : ∃ x, x = n k := ⟨_, rfl⟩
      rw [← hnk2] at hnk
      subst hnk
      have hnki : nk' ≤ 1073741824 := hnk2 ▸ H0.out.2.2.2.1 k hlt
      have hki : (k : Int) < (N : Int) := by omega
      have hk0 : (0 : Int) ≤ (k : Int) := by omega
      have hck : wr.cell? ⟨gL, k, none⟩ = some (.slice Ak nk' ck) := by
        rw [hL.cell, H0.out.2.1 k hlt, hvk]
      have HK := Lib.hid (And.intro hA (And.intro hL (And.intro hlt (And.intro hvk hnk2))))
      clear hA hL hlt hk hvk hnk2
      go_wp2
      go_loopw [29] (fun v wr2 => ∃ j : Nat, j ≤ nk' ∧ v = .int .i64 j ∧ Ap0 w wr2 B TI 2 N R (fun b => b = gL) vs n (fl (X1 n L k j)) ∧ Blk wr2 gL 32 cs) (fun v _ => nk' - (intOf v).toNat)
      case atStart => exact ⟨0, by omega, rfl, HK.out.1, HK.out.2.1⟩
      case round =>
        obtain ⟨j, hj, rfl, hA, hL⟩ := hrel
        by_cases hlj : j < nk'
        · have ho := hA.own k HK.out.2.2.1
          rw [HK.out.2.2.2.1, ← HK.out.2.2.2.2] at ho
          obtain ⟨ga, rfl, _, hca⟩ := own_addr ho (by omega)
          have hji : (j : Int) < (nk' : Int) := by omega
          have hj0 : (0 : Int) ≤ (j : Int) := by omega
          have HJ := Lib.hid (And.intro hA (And.intro hL (And.intro ho hlj)))
          clear hA hL ho hlj hj hca
          go_wp2_with (first
            | (go_at_call 15; go_must (refine (it_any (1000 + (k : Int)) 1 _).mono ?_); rintro e w3 ⟨rfl, hb3⟩; unfold Itm.val)
            | ((with_reducible show wpList _ _ _ (⟨none, .store 35 (.tmp 37) _, _, _, _, _⟩ :: _) _ _)
               go_must (refine wpList_storeI (o := ⟨none, .store 35 (.tmp 37) _, _, _, _, _⟩) rfl (.tmp 37) (.tmp 36) rfl ga (j * 2) (by go_simp) (mkI 1 k) (by go_simp; rfl) (own_there (own_below'' HJ.out.2.2.1 hb3) (by have := HJ.out.2.2.2; omega)) ?_)))
          have hgl : gL ≠ ga := fun e => HJ.out.1.av gL rfl k HK.out.2.2.1 (by rw [HK.out.2.2.2.1, e]; rfl)
          have hX := ap0_storeI (HJ.out.1.below hb3) HK.out.2.2.1 (by rw [← HK.out.2.2.2.2]; exact HK.out.2.2.2.1) j (mkI 1 k)
          rw [x1_step n L (by rw [H0.out.2.2.2.2.2 k HK.out.2.2.1, ← HK.out.2.2.2.2]; exact HJ.out.2.2.2)] at hX
          have X := Lib.hid (And.intro hX (And.intro (((HJ.out.2.1.grow hb3).far (p := ⟨ga, j * 2, none⟩) hgl (.int .i64 (mkI 1 k).1)).far (p := ⟨ga, j * 2 + 1, none⟩) hgl (.int .i64 (mkI 1 k).2)) HJ.out.2.2.2))
          clear hX hgl HJ hb3
          go_roundw
          case rel => exact ⟨j + 1, X.out.2.2, by go_num, X.out.1, X.out.2.1⟩
          case measure => exact meas_in X.out.2.2
        · obtain rfl : j = nk' := by omega
          have hji : ¬ (j : Int) < (j : Int) := by omega
          have hX := hA
          rw [HK.out.2.2.2.2, x1_next n L (by exact H0.out.2.2.2.2.2 k HK.out.2.2.1)] at hX
          have X := Lib.hid (And.intro hX (And.intro hL HK.out.2.2.1))
          clear hA hL hlj hj hX
          go_wp2
          go_roundw
          case rel => exact ⟨k + 1, X.out.2.2, by go_num, X.out.1, X.out.2.1⟩
          case measure => exact meas_in X.out.2.2
    · obtain rfl : k = N := by omega
      have hki : ¬ (k : Int) < (k : Int) := by omega
      have hA1 : Ap0 w wr B TI 2 k R (fun b => b = gL) vs n (fl (C1 n)) := Mem_Ap0_congr hA fun i hi => by unfold fl; rw [x1_done n L k i hi]
      have HA := Lib.hid (And.intro hA1 hL)
      clear hA hL hlt hk hA1
      obtain ⟨gG, hgG⟩ : ∃ gG, gG = wr.heap.size := ⟨_, rfl⟩
      have HG := Lib.hid hgG
      clear hgG
      go_wp2_with (first
        | ((with_reducible show wpList _ _ _ (⟨some 42, _, _, _, _, _⟩ :: _) _ _)
           go_must (refine wpList_make1 E26 (o := ⟨some 42, _, _, _, _, _⟩) rfl _ _ rfl .i64 .i64 _ _ k rfl rfl (by go_simp) (by go_simp) (by omega) (by unfold maxLen; omega) gG HG.out.symm ?_)
           intro w1 hG1 hb1 hz1))
      have hgG := HG.out
      obtain ⟨K1, hK1⟩ : ∃ K1 : Nat → Value → Nat → List Value → Prop, K1 = fun i u kk zs => i < k ∧ u = vs i ∧ kk = n i ∧ zs = fl (C1 n) i := ⟨_, rfl⟩
      obtain ⟨A1, hA1⟩ : ∃ A1 : Nat → Prop, A1 = fun b => b = gL ∨ b = gG := ⟨_, rfl⟩
      have G0 : Gr w w1 B k gL gG cs R A1 K1 n (C1 n) vs vs 2 16 0 0 vs := by
        have h1 := apL_new HA.out.1.apL (hgG ▸ hb1) (by rw [hz1, hgG]; exact Nat.lt_succ_self _)
        rw [← hgG, ← hK1, ← hA1] at h1
        refine ⟨apL_congr h1 (fun i hi => by unfold M2; rw [cnt_zero]; rfl) (fun i hi => by rw [x2_zero]), HA.out.2.grow (hgG ▸ hb1), ?_, fun i _ _ => rfl, fun i hi => rfl⟩
        rw [upTo_zero]
        exact hG1
      have a1 : A1 gL ∧ A1 gG ∧ w.heap.size ≤ gG ∧ gL ≠ gG := by
        rw [hA1]
        refine ⟨.inl rfl, .inr rfl, by rw [hgG]; exact HA.out.1.gr.size, fun e => ?_⟩
        have := HA.out.2.lt
        omega
      have G := Lib.hid (And.intro G0 (And.intro a1 hK1))
      clear hG1 hb1 hz1 hgG hK1 hA1 G0 a1
      go_loopw [45] (fun v wr2 => ∃ (i : Nat) (gv gs : Nat → Value), i ≤ k ∧ v = .int .i64 i ∧ Gr w wr2 B k gL gG cs R A1 K1 n (C1 n) vs gs 2 16 i 0 gv ∧ (i < k → gv i = vs i)) (fun v _ => k - (intOf v).toNat)
      case atStart => exact ⟨0, vs, vs, by omega, rfl, G.out.1, fun _ => rfl⟩
      case round =>
        obtain ⟨i, gv, gs, hi, rfl, hI, hvi⟩ := hrel
        by_cases hlt : i < k
        · obtain ⟨Ai, ni, ci, hgi, hni⟩ := own_form (hI.row hlt)
          have hck : wr.cell? ⟨gL, i, none⟩ = some (.slice Ai ni ci) := by
            rw [hI.bL.cell, H0.out.2.1 i hlt, ← hvi hlt, hgi]
          have hii : (i : Int) < (k : Int) := by omega
          have hi0 : (0 : Int) ≤ (i : Int) := by omega
          have Y := Lib.hid (And.intro hI (And.intro hlt hgi))
          clear hI hlt hi hvi hgi hni
          go_wp2
          go_loopw [9, 51] (fun v9 v51 wr2 => ∃ (q : Nat) (gv : Nat → Value), q ≤ 16 ∧ v51 = .int .i64 q ∧ v9 = gv i ∧ Gr w wr2 B k gL gG cs R A1 K1 n (C1 n) vs gs 2 16 i q gv) (fun _ v _ => 16 - (intOf v).toNat)
          case atStart => exact ⟨0, gv, by omega, rfl, Y.out.2.2.symm, Y.out.1⟩
          case round =>
            obtain ⟨q, gv, hq, rfl, rfl, hI⟩ := hrel
            have hniB := H0.out.2.2.2.1 i Y.out.2.1
            by_cases hlq : q < 16
            · have hqi : (q : Int) < 16 := by omega
              have hq0 : (0 : Int) ≤ (q : Int) := by omega
              have Z := Lib.hid (And.intro hI (And.intro hlq hniB))
              clear hI hq hlq hniB
              go_wp2_with (first
                | (go_at_call 15; go_must (refine (it_any (1000 + (i : Int)) 2 _).mono ?_); rintro e w3 ⟨rfl, hb3⟩; unfold Itm.val)
                | ((with_reducible show wpList _ _ _ (⟨some 57, _, _, _, _, _⟩ :: _) _ _)
                   go_must (refine wpList_build1 ET (o := ⟨some 57, _, _, _, _, _⟩) rfl (.tmp 56) rfl (by decide) (Itm.cells (mkI 2 i)) rfl rfl _ rfl ?_)
                   intro w4 hB4 hb4 hz4
                   have Z4 := Lib.hid ((Z.out.1.below hb3).below hb4))
                | ((with_reducible show wpList _ _ _ (⟨some 58, _, _, _, _, _⟩ :: _) _ _)
                   go_must (refine wpList_app2 ET (o := ⟨some 58, _, _, _, _, _⟩) rfl (.tmp 53) (.tmp 57) rfl B (gv i) (n i + q) _ rfl (Z4.out.row Y.out.2.1) _ 1 1 (Itm.cells (mkI 2 i)) rfl hB4.rv rfl (fun u hu => thI.one _ u hu) (by have := Z.out.2; unfold maxLen; omega) (by have := Z.out.2; omega) (by have h1 := H0.out.2.2.2.2.1; have h2 := Z4.out.ap.gr.size; omega) ?_)
                   intro v5 w5 ho5 hg5 hv5 hk5))
              have hP := Z4.out.push G.out.2.1.1 G.out.2.1.2.1 Y.out.2.1 1 (by rw [← rep_app]; simpa using ho5) hg5 hv5 hk5
              have X := Lib.hid (And.intro hP Z.out.2.1)
              clear hb3 hB4 hb4 hz4 Z4 Z ho5 hg5 hv5 hk5 hP
              go_roundw
              case rel => exact ⟨q + 1, _, X.out.2, by go_num, (fupd_same gv i v5).symm, X.out.1⟩
              case measure => exact meas_in X.out.2
            · obtain rfl : q = 16 := by omega
              obtain ⟨Ag, ng, cg, hgi, hng⟩ := own_form (hI.row Y.out.2.1)
              have hfg := hI.bG.frozen i
              obtain ⟨og, hog⟩ := hI.bG.at_ (i := i) (by simp; exact Y.out.2.1)
              have hX := hI.next G.out.2.1.2.1 G.out.2.1.2.2.1 G.out.2.1.2.2.2
              have hvn : i + 1 < k → gv (i + 1) = vs (i + 1) := fun h => hI.old (i + 1) h (Nat.lt_succ_self i)
              rw [hgi] at hX ⊢
              have X := Lib.hid (And.intro hX (And.intro hvn Y.out.2.1))
              clear hI hq hlq hniB hgi hng hX hvn
              go_wp2
              go_roundw
              case rel => exact ⟨i + 1, _, _, X.out.2.2, by go_num, X.out.1, X.out.2.1⟩
              case measure => exact meas_in X.out.2.2
        · obtain rfl : i = k := by omega
          have hii : ¬ (i : Int) < (i : Int) := by omega
          obtain ⟨gM, hgM⟩ : ∃ gM, gM = wr.heap.size := ⟨_, rfl⟩
          have HI := Lib.hid (And.intro hI hgM)
          clear hI hvi hi hlt hgM
          go_wp2_with (first
            | ((with_reducible show wpList _ _ _ (⟨some 67, _, _, _, _, _⟩ :: _) _ _)
               go_must (refine wpList_make1 E26 (o := ⟨some 67, _, _, _, _, _⟩) rfl _ _ rfl .i64 .i64 _ _ i rfl rfl (by go_simp) (by go_simp) (by omega) (by unfold maxLen; omega) gM HI.out.2.symm ?_)
               intro w2 hM2 hb2 hz2))
          obtain ⟨N2, hN2⟩ : ∃ N2 : Nat → Nat, N2 = fun j => n j + 16 := ⟨_, rfl⟩
          obtain ⟨K2, hK2⟩ : ∃ K2 : Nat → Value → Nat → List Value → Prop, K2 = fun j u kk zs => K1 j u kk zs ∨ (j < i ∧ u = gv j ∧ kk = N2 j ∧ zs = fl (C2 n) j) := ⟨_, rfl⟩
          obtain ⟨A3, hA3⟩ : ∃ A3 : Nat → Prop, A3 = fun b => A1 b ∨ b = gM := ⟨_, rfl⟩
          obtain ⟨csG, hcsG⟩ : ∃ csG : List Value, csG = (List.range i).map (upTo i gs) := ⟨_, rfl⟩
          have e1 : ∀ j, j < i → M2 n 16 i 0 j = N2 j := fun j hj => by rw [hN2]; unfold M2; rw [cnt_lt _ _ _ _ hj]
          have e2 : ∀ j, j < i → fl (X2 (C1 n) 2 16 i 0) j = fl (C2 n) j := fun j hj => by unfold fl X2 C2; rw [cnt_lt _ _ _ _ hj]
          have h1 := apL_new ((apL_congr HI.out.1.ap e1 e2).more) (HI.out.2 ▸ hb2) (by rw [hz2, HI.out.2]; exact Nat.lt_succ_self _)
          rw [← hK2, ← HI.out.2, ← hA3] at h1
          have G3 : Gr w w2 B i gL gM cs R A3 K2 N2 (C2 n) gv gv 3 200 0 0 gv := by
            refine ⟨apL_congr h1 (fun j hj => by unfold M2; rw [cnt_zero]; rfl) (fun j hj => by rw [x2_zero]), HI.out.1.bL.grow (HI.out.2 ▸ hb2), ?_, fun j _ _ => rfl, fun j hj => rfl⟩
            rw [upTo_zero]
            exact hM2
          have G3b : Blk w2 gG 32 csG := by rw [hcsG]; exact HI.out.1.bG.grow (HI.out.2 ▸ hb2)
          have G3c : ∀ j, j < i → csG[j]? = some (gv j) := fun j hj => by rw [hcsG, upTo_at gs hj]; unfold upTo; rw [if_pos hj, HI.out.1.new j hj]
          have a3 : A3 gL ∧ A3 gG ∧ A3 gM ∧ w.heap.size ≤ gM ∧ gL ≠ gM ∧ gG ≠ gM := by
            rw [hA3]
            refine ⟨.inl G.out.2.1.1, .inl G.out.2.1.2.1, .inr rfl, by rw [HI.out.2]; exact HI.out.1.ap.gr.size, fun e => ?_, fun e => ?_⟩
            · have := HI.out.1.bL.lt; have := HI.out.2; omega
            · have := HI.out.1.bG.lt; have := HI.out.2; omega
          have H3 := Lib.hid (And.intro G3 (And.intro G3b (And.intro G3c (And.intro a3 (And.intro hN2 hK2)))))
          clear hM2 hb2 hz2 hN2 hK2 hA3 hcsG e1 e2 h1 G3 G3b G3c a3
          go_loopw [70] (fun v wr2 => ∃ (j : Nat) (mv ms : Nat → Value), j ≤ i ∧ v = .int .i64 j ∧ Gr w wr2 B i gL gM cs R A3 K2 N2 (C2 n) gv ms 3 200 j 0 mv ∧ Blk wr2 gG 32 csG ∧ (j < i → mv j = gv j)) (fun v _ => i - (intOf v).toNat)
          case atStart => exact ⟨0, gv, gv, by omega, rfl, H3.out.1, H3.out.2.1, fun _ => rfl⟩
          case round =>
            obtain ⟨j, mv, ms, hj, rfl, hI, hbG, hvj⟩ := hrel
            by_cases hlt : j < i
            · obtain ⟨Aj, nj, cj, hgj, hnj⟩ := own_form (hI.row hlt)
              have hck : wr.cell? ⟨gG, j, none⟩ = some (.slice Aj nj cj) := by
                rw [hbG.cell, H3.out.2.2.1 j hlt, ← hvj hlt, hgj]
              have hji : (j : Int) < (i : Int) := by omega
              have hj0 : (0 : Int) ≤ (j : Int) := by omega
              obtain ⟨gT, hgT⟩ : ∃ gT, gT = wr.heap.size := ⟨_, rfl⟩
              have hnjB := H0.out.2.2.2.1 j hlt
              have Y := Lib.hid (And.intro hI (And.intro hbG (And.intro hlt (And.intro hgj (And.intro hgT hnjB)))))
              clear hI hbG hlt hj hvj hgj hnj hgT hnjB
              go_wp2_with (first
                | ((with_reducible show wpList _ _ _ (⟨some 75, _, _, _, _, _⟩ :: _) _ _)
                   go_must (refine wpList_makeM ET (o := ⟨some 75, _, _, _, _, _⟩) rfl _ _ rfl .i64 .i64 _ _ 200 200 rfl rfl (by go_simp) (by go_simp) (Nat.le_refl _) (by omega) (by unfold maxLen; omega) gT Y.out.2.2.2.2.1.symm ?_)
                   intro w3 hT3 hb3 hz3))
              rw [til_zero j] at hT3
              have T3 := Lib.hid (And.intro hT3 (show Below wr.heap.size wr w3 from Y.out.2.2.2.2.1 ▸ hb3))
              clear hT3 hb3 hz3
              go_loopw [78] (fun v wr2 => ∃ q : Nat, q ≤ 200 ∧ v = .int .i64 q ∧ Blk wr2 gT TI (til j q) ∧ Below wr.heap.size wr wr2) (fun v _ => 200 - (intOf v).toNat)
              case atStart => exact ⟨0, by omega, rfl, T3.out.1, T3.out.2⟩
              case round =>
                clear T3
                obtain ⟨q, hq, rfl, hT, hb⟩ := hrel
                by_cases hlq : q < 200
                · have hqi : (q : Int) < 200 := by omega
                  have hq0 : (0 : Int) ≤ (q : Int) := by omega
                  have Z := Lib.hid (And.intro hT (And.intro hb hlq))
                  clear hT hb hq hlq
                  go_wp2_with (first
                    | (go_at_call 15; go_must (refine (it_any (1000 + (j : Int)) 3 _).mono ?_); rintro e w4 ⟨rfl, hb4⟩; unfold Itm.val)
                    | ((with_reducible show wpList _ _ _ (⟨none, .store 35 (.tmp 86) _, _, _, _, _⟩ :: _) _ _)
                       go_must (refine wpList_storeAtT (th := thI) (o := ⟨none, .store 35 (.tmp 86) _, _, _, _, _⟩) rfl (.tmp 86) (.tmp 85) rfl gT (q * 2) (by go_simp) (mkI 3 j) (by go_simp; rfl) _ _ (Z.out.1.grow hb4) (by rw [til_len j (by have := Z.out.2.2; omega)]; have := Z.out.2.2; omega) ?_)
                       intro w5 hB5 hg5 hz5))
                  have hB6 : Blk w5 gT TI (til j (q + 1)) := by rw [← til_step j Z.out.2.2]; exact hB5
                  have hge := Y.out.2.2.2.2.1
                  have hb6 := (gt Z.out.2.1 hb4).grown hg5 (by have h1 := Z.out.2.1.size; have h2 := hb4.size; omega) (fun r hr => by cases hr; omega)
                  have X := Lib.hid (And.intro hB6 (And.intro hb6 Z.out.2.2))
                  clear hb4 hB5 hg5 hz5 hB6 hb6 hge Z
                  go_roundw
                  case rel => exact ⟨q + 1, X.out.2.2, by go_num, X.out.1, X.out.2.1⟩
                  case measure => exact meas_in X.out.2.2
                · obtain rfl : q = 200 := by omega
                  have Z := Lib.hid (And.intro hT (Y.out.1.below hb))
                  have ZG := Lib.hid (Y.out.2.1.grow hb)
                  clear hT hb hq hlq
                  go_wp2_with (first
                    | ((with_reducible show wpList _ _ _ (⟨some 92, _, _, _, _, _⟩ :: _) _ _)
                       go_must (refine wpList_app2 ET (o := ⟨some 92, _, _, _, _, _⟩) rfl (.tmp 90) (.tmp 91) rfl B (.slice Aj nj cj) (N2 j + 0) _ rfl (by have h := Z.out.2.row Y.out.2.2.1; rw [Y.out.2.2.2.1] at h; exact h) (some ⟨gT, 0, none⟩) 200 200 (til j 200) rfl Z.out.1.rv (by rw [til_len j (Nat.le_refl _)]; rfl) (by rw [til_done]; exact fl_one) (by rw [H3.out.2.2.2.2.1]; have h1 := Y.out.2.2.2.2.2; unfold maxLen; simp only; omega) (by rw [H3.out.2.2.2.2.1]; have h1 := Y.out.2.2.2.2.2; simp only; omega) (by have h1 := H0.out.2.2.2.2.1; have h2 := Z.out.2.ap.gr.size; omega) ?_)
                       intro v6 w6 ho6 hg6 hv6 hk6
                       obtain ⟨A7, n7, c7, rfl, hn7⟩ := own_form ho6
                       have hP := Z.out.2.push (v' := .slice A7 n7 c7) (W' := w6) H3.out.2.2.2.1.1 H3.out.2.2.2.1.2.2.1 Y.out.2.2.1 200 (by rw [← rep_app, ← til_done]; exact ho6) (by rw [Y.out.2.2.2.1]; exact hg6) (by rw [Y.out.2.2.2.1]; exact hv6) (by rw [Y.out.2.2.2.1]; exact hk6)
                       have hGk := Z.out.2.ap.kept Y.out.2.2.1 (W' := w6) (by rw [Y.out.2.2.2.1]; exact hg6) H3.out.2.2.2.1.2.1 ZG.out
                       have hfm := hP.bG.frozen j
                       obtain ⟨om, hom⟩ := hP.bG.at_ (i := j) (by simp; exact Y.out.2.2.1)
                       have hX := hP.next H3.out.2.2.2.1.2.2.1 H3.out.2.2.2.1.2.2.2.1 H3.out.2.2.2.1.2.2.2.2.1
                       have hvn : j + 1 < i → fupd mv j (.slice A7 n7 c7) (j + 1) = gv (j + 1) := fun h => by rw [fupd_ne _ _ (by omega)]; exact Y.out.1.old (j + 1) h (Nat.lt_succ_self j)
                       rw [fupd_same] at hX
                       have X := Lib.hid (And.intro hX (And.intro (hGk.far (p := ⟨gM, j, none⟩) H3.out.2.2.2.1.2.2.2.2.2 (.slice A7 n7 c7)) (And.intro hvn Y.out.2.2.1)))
                       clear ho6 hg6 hv6 hk6 hP hGk hX hvn hn7))
                  go_roundw
                  case rel => exact ⟨j + 1, _, _, X.out.2.2.2, by go_num, X.out.1, X.out.2.1, X.out.2.2.1⟩
                  case measure => exact meas_in X.out.2.2.2
            · obtain rfl : j = i := by omega
              have I := Lib.hid hI
              have IG := Lib.hid hbG
              clear hI hbG hvj hj hlt
              rename World => wI
              go_wp2
              go_loopw [97] (fun v wr2 => ∃ a : Nat, a ≤ j ∧ v = .int .i64 a ∧ Below wI.heap.size wI wr2) (fun v _ => j - (intOf v).toNat)
              case atStart => exact ⟨0, by omega, rfl, gr wI⟩
              case round =>
                obtain ⟨a, ha, rfl, hb⟩ := hrel
                by_cases hlt : a < j
                · have kl := (I.out.ap.kown a (vs a) (n a) (fl (C1 n) a) (by rw [H3.out.2.2.2.2.2]; exact .inl (by rw [G.out.2.2]; exact ⟨hlt, rfl, rfl, rfl⟩))).2.2
                  have kg := (I.out.ap.kown a (gv a) (N2 a) (fl (C2 n) a) (by rw [H3.out.2.2.2.2.2]; exact .inr ⟨hlt, rfl, rfl, rfl⟩)).2.2
                  have km : wI.ownsRow B TI 2 (mv a) (n a + 216) ((C3 n a).flatMap Itm.cells) := by
                    have h := I.out.ap.gown a hlt
                    unfold M2 fl X2 at h
                    rw [cnt_lt _ _ _ _ hlt, H3.out.2.2.2.2.1] at h
                    exact h
                  rw [H3.out.2.2.2.2.1] at kg
                  obtain ⟨nl, hnl⟩ : ∃ nl, nl = n a := ⟨_, rfl⟩
                  obtain ⟨Al, nl1, cl, hvl, hl1⟩ := own_form kl
                  obtain ⟨Ag, nl2, cg, hvg, hl2⟩ := own_form kg
                  obtain ⟨Am, nl3, cm, hvm, hl3⟩ := own_form km
                  simp only [← hnl] at kl kg km hl1 hl2 hl3
                  subst hl1 hl2 hl3
                  rw [hvl] at kl
                  rw [hvg] at kg
                  rw [hvm] at km
                  have hnB : nl1 ≤ 1073741824 := hnl ▸ H0.out.2.2.2.1 a hlt
                  have fL := fun (w' : World) (h : Below wI.heap.size wI w') => cell_grow (show wI.cell? ⟨gL, a, none⟩ = some (.slice Al nl1 cl) by rw [I.out.bL.cell, H0.out.2.1 a hlt, hvl]) h
                  have fG := fun (w' : World) (h : Below wI.heap.size wI w') => cell_grow (show wI.cell? ⟨gG, a, none⟩ = some (.slice Ag (nl1 + 16) cg) by rw [IG.out.cell, H3.out.2.2.1 a hlt, hvg]) h
                  have fM := fun (w' : World) (h : Below wI.heap.size wI w') => cell_grow (show wI.cell? ⟨gM, a, none⟩ = some (.slice Am (nl1 + 216) cm) by rw [I.out.bG.cell, upTo_at ms hlt]; unfold upTo; rw [if_pos hlt, ← I.out.new a hlt, hvm]) h
                  have F := Lib.hid (And.intro fL (And.intro fG fM))
                  have KK := Lib.hid (And.intro kl (And.intro kg (And.intro km (And.intro hnl hlt))))
                  have hai : (a : Int) < (j : Int) := by omega
                  have ha0 : (0 : Int) ≤ (a : Int) := by omega
                  have g1 := fL _ hb
                  have g2 := fM _ hb
                  have HB := Lib.hid hb
                  clear kl kg km hvl hvg hvm hnl hlt ha hb fL fG fM
                  rename World => wC
                  go_wp2
                  go_loopw [107] (fun v wr2 => ∃ q : Nat, q ≤ nl1 + 216 ∧ v = .int .i64 q ∧ Below wC.heap.size wC wr2) (fun v _ => nl1 + 216 - (intOf v).toNat)
                  case atStart => exact ⟨0, by omega, rfl, gr _⟩
                  case round =>
                    obtain ⟨q, hq, rfl, hb⟩ := hrel
                    by_cases hlq : q < nl1 + 216
                    · obtain ⟨gm, rfl, _, _⟩ := own_addr KK.out.2.2.1 (by omega)
                      have rm := own_rv (own_below'' KK.out.2.2.1 (gt HB.out hb))
                      have hqi : (q : Int) < ((nl1 + 216 : Nat) : Int) := by omega
                      have hq0 : (0 : Int) ≤ (q : Int) := by omega
                      have hqB : (q : Int) ≤ 1073742040 := by omega
                      by_cases h1 : q < nl1
                      · skip
                        have hx : (C3 n a)[q]? = some (mkI 1 a) := by rw [c3_at12 _ _ _ (by rw [← KK.out.2.2.2.1]; omega)]; exact c2_at1 _ _ _ (by rw [← KK.out.2.2.2.1]; exact h1)
                        obtain ⟨m1, m2⟩ := it_cells rm hx
                        rw [show mkI 1 a = ((1000 + (a : Int), 1) : Itm) from rfl] at m1 m2
                        simp only at m1 m2
                        have i1 : (q : Int) < (nl1 : Int) := by omega
                        have i2 : (q : Int) < (nl1 : Int) + 16 := by omega
                        have i3 : ¬ (nl1 : Int) ≤ (q : Int) := by omega
                        have i4 : ¬ ((nl1 : Int) + 16 ≤ (q : Int)) := by omega
                        obtain ⟨gl, rfl, _, _⟩ := own_addr KK.out.1 (by omega)
                        obtain ⟨gg, rfl, _, _⟩ := own_addr KK.out.2.1 (by omega)
                        have Q := Lib.hid (And.intro hb (And.intro hlq h1))
                        clear hb hlq h1 hq rm hx
                        go_upto_region 44 with (first
                          | (go_at_call 15; go_must (refine (it_any (1000 + (a : Int)) 1 _).mono ?_); rintro e w4 ⟨rfl, hb4⟩; unfold Itm.val))
                        have hbF : Below wr.heap.size wr (w4.alloc (.cells #[.int .i64 (1000 + (a : Int)), .int .i64 1] TI)) := ga (gt (ga (gr wr) _) hb4) _
                        have hbw := gt (gt HB.out Q.out.1) hbF
                        have bx := ((Blk.new wr TI [.int .i64 (1000 + (a : Int)), .int .i64 1]).grow hb4).alloc (.cells #[.int .i64 (1000 + (a : Int)), .int .i64 1] TI)
                        have bw := Blk.new w4 TI [.int .i64 (1000 + (a : Int)), .int .i64 1]
                        have y1 := bx.cell 0
                        have y2 := bx.cell 1
                        have y3 := bw.cell 0
                        have y4 := bw.cell 1
                        simp only [List.getElem?_cons_zero, List.getElem?_cons_succ] at y1 y2 y3 y4
                        have y5 := F.out.2.1 _ hbw
                        obtain ⟨y6, y7⟩ := it_cells (own_rv (own_below'' KK.out.2.1 hbw)) (c2_at1 n a q (by rw [← KK.out.2.2.2.1]; exact Q.out.2.2))
                        rw [show mkI 1 a = ((1000 + (a : Int), 1) : Itm) from rfl] at y6 y7
                        simp only at y6 y7
                        obtain ⟨y8, y9⟩ := it_cells (own_rv (own_below'' KK.out.1 hbw)) (c1_at n a q (by rw [← KK.out.2.2.2.1]; exact Q.out.2.2))
                        rw [show mkI 1 a = ((1000 + (a : Int), 1) : Itm) from rfl] at y8 y9
                        simp only at y8 y9
                        have CC := Lib.hid (And.intro y1 (And.intro y2 (And.intro y3 (And.intro y4 (And.intro y5 (And.intro y6 (And.intro y7 (And.intro y8 y9))))))))
                        have QF := Lib.hid (And.intro (gt Q.out.1 hbF) Q.out.2.1)
                        clear m1 m2 hbF hbw bx bw hb4 Q y1 y2 y3 y4 y5 y6 y7 y8 y9
                        refine wp_region_qb (by kernel_rfl) (by kernel_rfl) ?_
                        refine wq_val (o := ⟨some 126, _, _, _, _, _⟩) (v := .agg #[.int .i64 (1000 + (a : Int)), .int .i64 1]) rfl (fun w' hC => by have x1 := cell_grow CC.out.1 hC; have x2 := cell_grow CC.out.2.1 hC; go_simp) ?_
                        simp only [Act.put, List.setIfInBounds_toArray, List.set_cons_succ, List.set_cons_zero]
                        refine wq_val (o := ⟨some 127, _, _, _, _, _⟩) (v := .agg #[.int .i64 (1000 + (a : Int)), .int .i64 1]) rfl (fun w' hC => by have x1 := cell_grow CC.out.2.2.1 hC; have x2 := cell_grow CC.out.2.2.2.1 hC; go_simp) ?_
                        simp only [Act.put, List.setIfInBounds_toArray, List.set_cons_succ, List.set_cons_zero]
                        refine wq_val (o := ⟨some 128, _, _, _, _, _⟩) (v := .bool false) rfl (fun w' hC => by go_simp) ?_
                        simp only [Act.put, List.setIfInBounds_toArray, List.set_cons_succ, List.set_cons_zero]
                        refine wq_val (o := ⟨some 129, _, _, _, _, _⟩) (v := .bool false) rfl (fun w' hC => by go_simp) ?_
                        simp only [Act.put, List.setIfInBounds_toArray, List.set_cons_succ, List.set_cons_zero]
                        refine wq_val (o := ⟨some 130, _, _, _, _, _⟩) (v := .int .i64 q) rfl (fun w' hC => by go_simp) ?_
                        simp only [Act.put, List.setIfInBounds_toArray, List.set_cons_succ, List.set_cons_zero]
                        refine wq_val (o := ⟨some 131, _, _, _, _, _⟩) (v := .slice (some ⟨gl, 0, none⟩) nl1 cl) rfl (fun w' hC => by go_simp) ?_
                        simp only [Act.put, List.setIfInBounds_toArray, List.set_cons_succ, List.set_cons_zero]
                        refine wq_val (o := ⟨some 132, _, _, _, _, _⟩) (v := .int .i64 nl1) rfl (fun w' hC => by go_simp) ?_
                        simp only [Act.put, List.setIfInBounds_toArray, List.set_cons_succ, List.set_cons_zero]
                        refine wq_val (o := ⟨some 133, _, _, _, _, _⟩) (v := .bool true) rfl (fun w' hC => by go_simp) ?_
                        simp only [Act.put, List.setIfInBounds_toArray, List.set_cons_succ, List.set_cons_zero]
                        refine wq_val (o := ⟨some 134, _, _, _, _, _⟩) (v := .bool true) rfl (fun w' hC => by go_simp) ?_
                        simp only [Act.put, List.setIfInBounds_toArray, List.set_cons_succ, List.set_cons_zero]
                        refine wq_val (o := ⟨some 135, _, _, _, _, _⟩) (v := .slice (some ⟨gl, 0, none⟩) nl1 cl) rfl (fun w' hC => by go_simp) ?_
                        simp only [Act.put, List.setIfInBounds_toArray, List.set_cons_succ, List.set_cons_zero]
                        refine wq_val (o := ⟨some 136, _, _, _, _, _⟩) (v := .int .i64 q) rfl (fun w' hC => by go_simp) ?_
                        simp only [Act.put, List.setIfInBounds_toArray, List.set_cons_succ, List.set_cons_zero]
                        refine wq_val (o := ⟨some 137, _, _, _, _, _⟩) (v := .pointer (some ⟨gl, q * 2, none⟩)) rfl (fun w' hC => by go_simp) ?_
                        simp only [Act.put, List.setIfInBounds_toArray, List.set_cons_succ, List.set_cons_zero]
                        refine wq_val (o := ⟨some 138, _, _, _, _, _⟩) (v := .agg #[.int .i64 (1000 + (a : Int)), .int .i64 1]) rfl (fun w' hC => by have x1 := cell_grow CC.out.2.2.2.2.2.2.2.1 hC; have x2 := cell_grow CC.out.2.2.2.2.2.2.2.2 hC; go_simp) ?_
                        simp only [Act.put, List.setIfInBounds_toArray, List.set_cons_succ, List.set_cons_zero]
                        refine wq_val (o := ⟨some 139, _, _, _, _, _⟩) (v := .agg #[.int .i64 (1000 + (a : Int)), .int .i64 1]) rfl (fun w' hC => by have x1 := cell_grow CC.out.2.2.1 hC; have x2 := cell_grow CC.out.2.2.2.1 hC; go_simp) ?_
                        simp only [Act.put, List.setIfInBounds_toArray, List.set_cons_succ, List.set_cons_zero]
                        refine wq_val (o := ⟨some 140, _, _, _, _, _⟩) (v := .bool false) rfl (fun w' hC => by go_simp) ?_
                        simp only [Act.put, List.setIfInBounds_toArray, List.set_cons_succ, List.set_cons_zero]
                        refine wq_val (o := ⟨some 141, _, _, _, _, _⟩) (v := .bool false) rfl (fun w' hC => by go_simp) ?_
                        simp only [Act.put, List.setIfInBounds_toArray, List.set_cons_succ, List.set_cons_zero]
                        refine wq_val (o := ⟨some 142, _, _, _, _, _⟩) (v := .bool false) rfl (fun w' hC => by go_simp) ?_
                        simp only [Act.put, List.setIfInBounds_toArray, List.set_cons_succ, List.set_cons_zero]
                        refine wq_val (o := ⟨some 143, _, _, _, _, _⟩) (v := .bool false) rfl (fun w' hC => by go_simp) ?_
                        simp only [Act.put, List.setIfInBounds_toArray, List.set_cons_succ, List.set_cons_zero]
                        refine wq_val (o := ⟨some 144, _, _, _, _, _⟩) (v := .int .i64 q) rfl (fun w' hC => by go_simp) ?_
                        simp only [Act.put, List.setIfInBounds_toArray, List.set_cons_succ, List.set_cons_zero]
                        refine wq_val (o := ⟨some 145, _, _, _, _, _⟩) (v := .slice (some ⟨gG, 0, none⟩) j j) rfl (fun w' hC => by go_simp) ?_
                        simp only [Act.put, List.setIfInBounds_toArray, List.set_cons_succ, List.set_cons_zero]
                        refine wq_val (o := ⟨some 146, _, _, _, _, _⟩) (v := .int .i64 a) rfl (fun w' hC => by go_simp) ?_
                        simp only [Act.put, List.setIfInBounds_toArray, List.set_cons_succ, List.set_cons_zero]
                        refine wq_val (o := ⟨some 147, _, _, _, _, _⟩) (v := .pointer (some ⟨gG, a, none⟩)) rfl (fun w' hC => by go_simp) ?_
                        simp only [Act.put, List.setIfInBounds_toArray, List.set_cons_succ, List.set_cons_zero]
                        refine wq_val (o := ⟨some 148, _, _, _, _, _⟩) (v := .slice (some ⟨gg, 0, none⟩) (nl1 + 16) cg) rfl (fun w' hC => by have x1 := cell_grow CC.out.2.2.2.2.1 hC; go_simp) ?_
                        simp only [Act.put, List.setIfInBounds_toArray, List.set_cons_succ, List.set_cons_zero]
                        refine wq_val (o := ⟨some 149, _, _, _, _, _⟩) (v := .int .i64 ((nl1 + 16 : Nat) : Int)) rfl (fun w' hC => by go_simp) ?_
                        simp only [Act.put, List.setIfInBounds_toArray, List.set_cons_succ, List.set_cons_zero]
                        refine wq_val (o := ⟨some 150, _, _, _, _, _⟩) (v := .bool true) rfl (fun w' hC => by go_simp) ?_
                        simp only [Act.put, List.setIfInBounds_toArray, List.set_cons_succ, List.set_cons_zero]
                        refine wq_val (o := ⟨some 151, _, _, _, _, _⟩) (v := .bool true) rfl (fun w' hC => by go_simp) ?_
                        simp only [Act.put, List.setIfInBounds_toArray, List.set_cons_succ, List.set_cons_zero]
                        refine wq_val (o := ⟨some 152, _, _, _, _, _⟩) (v := .slice (some ⟨gG, 0, none⟩) j j) rfl (fun w' hC => by go_simp) ?_
                        simp only [Act.put, List.setIfInBounds_toArray, List.set_cons_succ, List.set_cons_zero]
                        refine wq_val (o := ⟨some 153, _, _, _, _, _⟩) (v := .int .i64 a) rfl (fun w' hC => by go_simp) ?_
                        simp only [Act.put, List.setIfInBounds_toArray, List.set_cons_succ, List.set_cons_zero]
                        refine wq_val (o := ⟨some 154, _, _, _, _, _⟩) (v := .pointer (some ⟨gG, a, none⟩)) rfl (fun w' hC => by go_simp) ?_
                        simp only [Act.put, List.setIfInBounds_toArray, List.set_cons_succ, List.set_cons_zero]
                        refine wq_val (o := ⟨some 155, _, _, _, _, _⟩) (v := .slice (some ⟨gg, 0, none⟩) (nl1 + 16) cg) rfl (fun w' hC => by have x1 := cell_grow CC.out.2.2.2.2.1 hC; go_simp) ?_
                        simp only [Act.put, List.setIfInBounds_toArray, List.set_cons_succ, List.set_cons_zero]
                        refine wq_val (o := ⟨some 156, _, _, _, _, _⟩) (v := .int .i64 q) rfl (fun w' hC => by go_simp) ?_
                        simp only [Act.put, List.setIfInBounds_toArray, List.set_cons_succ, List.set_cons_zero]
                        refine wq_val (o := ⟨some 157, _, _, _, _, _⟩) (v := .pointer (some ⟨gg, q * 2, none⟩)) rfl (fun w' hC => by go_simp) ?_
                        simp only [Act.put, List.setIfInBounds_toArray, List.set_cons_succ, List.set_cons_zero]
                        refine wq_val (o := ⟨some 158, _, _, _, _, _⟩) (v := .agg #[.int .i64 (1000 + (a : Int)), .int .i64 1]) rfl (fun w' hC => by have x1 := cell_grow CC.out.2.2.2.2.2.1 hC; have x2 := cell_grow CC.out.2.2.2.2.2.2.1 hC; go_simp) ?_
                        simp only [Act.put, List.setIfInBounds_toArray, List.set_cons_succ, List.set_cons_zero]
                        refine wq_val (o := ⟨some 159, _, _, _, _, _⟩) (v := .agg #[.int .i64 (1000 + (a : Int)), .int .i64 1]) rfl (fun w' hC => by have x1 := cell_grow CC.out.2.2.1 hC; have x2 := cell_grow CC.out.2.2.2.1 hC; go_simp) ?_
                        simp only [Act.put, List.setIfInBounds_toArray, List.set_cons_succ, List.set_cons_zero]
                        refine wq_val (o := ⟨some 160, _, _, _, _, _⟩) (v := .bool false) rfl (fun w' hC => by go_simp) ?_
                        simp only [Act.put, List.setIfInBounds_toArray, List.set_cons_succ, List.set_cons_zero]
                        refine wq_val (o := ⟨some 161, _, _, _, _, _⟩) (v := .bool false) rfl (fun w' hC => by go_simp) ?_
                        simp only [Act.put, List.setIfInBounds_toArray, List.set_cons_succ, List.set_cons_zero]
                        refine wq_val (o := ⟨some 162, _, _, _, _, _⟩) (v := .bool false) rfl (fun w' hC => by go_simp) ?_
                        simp only [Act.put, List.setIfInBounds_toArray, List.set_cons_succ, List.set_cons_zero]
                        refine wpQuiet_nil ?_
                        intro w5 hC5
                        have Z := Lib.hid (And.intro (gt QF.out.1 hC5) QF.out.2)
                        clear hC5 QF CC
                        go_wp2
                        go_roundw
                        case rel => exact ⟨q + 1, Z.out.2, by go_num, Z.out.1⟩
                        case measure => exact meas_in Z.out.2
                      · by_cases h2 : q < nl1 + 16
                        · skip
                          have hx : (C3 n a)[q]? = some (mkI 2 a) := by rw [c3_at12 _ _ _ (by rw [← KK.out.2.2.2.1]; omega)]; exact c2_at2 _ _ _ (by rw [← KK.out.2.2.2.1]; omega) (by rw [← KK.out.2.2.2.1]; omega)
                          obtain ⟨m1, m2⟩ := it_cells rm hx
                          rw [show mkI 2 a = ((1000 + (a : Int), 2) : Itm) from rfl] at m1 m2
                          simp only at m1 m2
                          have i1 : ¬ (q : Int) < (nl1 : Int) := by omega
                          have i2 : (q : Int) < (nl1 : Int) + 16 := by omega
                          have i3 : (nl1 : Int) ≤ (q : Int) := by omega
                          have i4 : ¬ ((nl1 : Int) + 16 ≤ (q : Int)) := by omega
                          have i5 : nl1 ≤ q := by omega
                          have i6 : q < nl1 + 16 := by omega
                          obtain ⟨gg, rfl, _, _⟩ := own_addr KK.out.2.1 (by omega)
                          have Q := Lib.hid (And.intro hb (And.intro hlq (And.intro h1 h2)))
                          clear hb hlq h1 h2 hq rm hx
                          go_upto_region 44 with (first
                            | (go_at_call 15; go_must (refine (it_any (1000 + (a : Int)) 1 _).mono ?_); rintro e w4 ⟨rfl, hb4⟩; unfold Itm.val))
                          have hbF : Below wr.heap.size wr (w4.alloc (.cells #[.int .i64 (1000 + (a : Int)), .int .i64 2] TI)) := ga (gt (ga (gr wr) _) hb4) _
                          have hbw := gt (gt HB.out Q.out.1) hbF
                          have bx := ((Blk.new wr TI [.int .i64 (1000 + (a : Int)), .int .i64 2]).grow hb4).alloc (.cells #[.int .i64 (1000 + (a : Int)), .int .i64 2] TI)
                          have bw := Blk.new w4 TI [.int .i64 (1000 + (a : Int)), .int .i64 2]
                          have y1 := bx.cell 0
                          have y2 := bx.cell 1
                          have y3 := bw.cell 0
                          have y4 := bw.cell 1
                          simp only [List.getElem?_cons_zero, List.getElem?_cons_succ] at y1 y2 y3 y4
                          have y5 := F.out.2.1 _ hbw
                          obtain ⟨y6, y7⟩ := it_cells (own_rv (own_below'' KK.out.2.1 hbw)) (c2_at2 n a q (by rw [← KK.out.2.2.2.1]; have := Q.out.2.2; omega) (by rw [← KK.out.2.2.2.1]; have := Q.out.2.2; omega))
                          rw [show mkI 2 a = ((1000 + (a : Int), 2) : Itm) from rfl] at y6 y7
                          simp only at y6 y7
                          have CC := Lib.hid (And.intro y1 (And.intro y2 (And.intro y3 (And.intro y4 (And.intro y5 (And.intro y6 (And.intro y7 trivial)))))))
                          have QF := Lib.hid (And.intro (gt Q.out.1 hbF) Q.out.2.1)
                          clear m1 m2 hbF hbw bx bw hb4 Q y1 y2 y3 y4 y5 y6 y7
                          refine wp_region_qb (by kernel_rfl) (by kernel_rfl) ?_
                          refine wq_val (o := ⟨some 126, _, _, _, _, _⟩) (v := .agg #[.int .i64 (1000 + (a : Int)), .int .i64 2]) rfl (fun w' hC => by have x1 := cell_grow CC.out.1 hC; have x2 := cell_grow CC.out.2.1 hC; go_simp) ?_
                          simp only [Act.put, List.setIfInBounds_toArray, List.set_cons_succ, List.set_cons_zero]
                          refine wq_val (o := ⟨some 127, _, _, _, _, _⟩) (v := .agg #[.int .i64 (1000 + (a : Int)), .int .i64 2]) rfl (fun w' hC => by have x1 := cell_grow CC.out.2.2.1 hC; have x2 := cell_grow CC.out.2.2.2.1 hC; go_simp) ?_
                          simp only [Act.put, List.setIfInBounds_toArray, List.set_cons_succ, List.set_cons_zero]
                          refine wq_val (o := ⟨some 128, _, _, _, _, _⟩) (v := .bool false) rfl (fun w' hC => by go_simp) ?_
                          simp only [Act.put, List.setIfInBounds_toArray, List.set_cons_succ, List.set_cons_zero]
                          refine wq_val (o := ⟨some 129, _, _, _, _, _⟩) (v := .bool false) rfl (fun w' hC => by go_simp) ?_
                          simp only [Act.put, List.setIfInBounds_toArray, List.set_cons_succ, List.set_cons_zero]
                          refine wq_val (o := ⟨some 130, _, _, _, _, _⟩) (v := .int .i64 q) rfl (fun w' hC => by go_simp) ?_
                          simp only [Act.put, List.setIfInBounds_toArray, List.set_cons_succ, List.set_cons_zero]
                          refine wq_val (o := ⟨some 131, _, _, _, _, _⟩) (v := .slice Al nl1 cl) rfl (fun w' hC => by go_simp) ?_
                          simp only [Act.put, List.setIfInBounds_toArray, List.set_cons_succ, List.set_cons_zero]
                          refine wq_val (o := ⟨some 132, _, _, _, _, _⟩) (v := .int .i64 nl1) rfl (fun w' hC => by go_simp) ?_
                          simp only [Act.put, List.setIfInBounds_toArray, List.set_cons_succ, List.set_cons_zero]
                          refine wq_val (o := ⟨some 133, _, _, _, _, _⟩) (v := .bool false) rfl (fun w' hC => by go_simp) ?_
                          simp only [Act.put, List.setIfInBounds_toArray, List.set_cons_succ, List.set_cons_zero]
                          refine wq_val (o := ⟨some 134, _, _, _, _, _⟩) (v := .bool false) rfl (fun w' hC => by go_simp) ?_
                          simp only [Act.put, List.setIfInBounds_toArray, List.set_cons_succ, List.set_cons_zero]
                          go_big_quiet_step (fail)
                          go_big_quiet_step (fail)
                          go_big_quiet_step (fail)
                          go_big_quiet_step (fail)
                          go_big_quiet_step (fail)
                          go_big_quiet_step (fail)
                          refine wq_val (o := ⟨some 141, _, _, _, _, _⟩) (v := .bool false) rfl (fun w' hC => by go_simp) ?_
                          simp only [Act.put, List.setIfInBounds_toArray, List.set_cons_succ, List.set_cons_zero]
                          refine wq_val (o := ⟨some 142, _, _, _, _, _⟩) (v := .bool false) rfl (fun w' hC => by go_simp) ?_
                          simp only [Act.put, List.setIfInBounds_toArray, List.set_cons_succ, List.set_cons_zero]
                          refine wq_val (o := ⟨some 143, _, _, _, _, _⟩) (v := .bool false) rfl (fun w' hC => by go_simp) ?_
                          simp only [Act.put, List.setIfInBounds_toArray, List.set_cons_succ, List.set_cons_zero]
                          refine wq_val (o := ⟨some 144, _, _, _, _, _⟩) (v := .int .i64 q) rfl (fun w' hC => by go_simp) ?_
                          simp only [Act.put, List.setIfInBounds_toArray, List.set_cons_succ, List.set_cons_zero]
                          refine wq_val (o := ⟨some 145, _, _, _, _, _⟩) (v := .slice (some ⟨gG, 0, none⟩) j j) rfl (fun w' hC => by go_simp) ?_
                          simp only [Act.put, List.setIfInBounds_toArray, List.set_cons_succ, List.set_cons_zero]
                          refine wq_val (o := ⟨some 146, _, _, _, _, _⟩) (v := .int .i64 a) rfl (fun w' hC => by go_simp) ?_
                          simp only [Act.put, List.setIfInBounds_toArray, List.set_cons_succ, List.set_cons_zero]
                          refine wq_val (o := ⟨some 147, _, _, _, _, _⟩) (v := .pointer (some ⟨gG, a, none⟩)) rfl (fun w' hC => by go_simp) ?_
                          simp only [Act.put, List.setIfInBounds_toArray, List.set_cons_succ, List.set_cons_zero]
                          refine wq_val (o := ⟨some 148, _, _, _, _, _⟩) (v := .slice (some ⟨gg, 0, none⟩) (nl1 + 16) cg) rfl (fun w' hC => by have x1 := cell_grow CC.out.2.2.2.2.1 hC; go_simp) ?_
                          simp only [Act.put, List.setIfInBounds_toArray, List.set_cons_succ, List.set_cons_zero]
                          refine wq_val (o := ⟨some 149, _, _, _, _, _⟩) (v := .int .i64 ((nl1 + 16 : Nat) : Int)) rfl (fun w' hC => by go_simp) ?_
                          simp only [Act.put, List.setIfInBounds_toArray, List.set_cons_succ, List.set_cons_zero]
                          refine wq_val (o := ⟨some 150, _, _, _, _, _⟩) (v := .bool true) rfl (fun w' hC => by go_simp) ?_
                          simp only [Act.put, List.setIfInBounds_toArray, List.set_cons_succ, List.set_cons_zero]
                          refine wq_val (o := ⟨some 151, _, _, _, _, _⟩) (v := .bool true) rfl (fun w' hC => by go_simp) ?_
                          simp only [Act.put, List.setIfInBounds_toArray, List.set_cons_succ, List.set_cons_zero]
                          refine wq_val (o := ⟨some 152, _, _, _, _, _⟩) (v := .slice (some ⟨gG, 0, none⟩) j j) rfl (fun w' hC => by go_simp) ?_
                          simp only [Act.put, List.setIfInBounds_toArray, List.set_cons_succ, List.set_cons_zero]
                          refine wq_val (o := ⟨some 153, _, _, _, _, _⟩) (v := .int .i64 a) rfl (fun w' hC => by go_simp) ?_
                          simp only [Act.put, List.setIfInBounds_toArray, List.set_cons_succ, List.set_cons_zero]
                          refine wq_val (o := ⟨some 154, _, _, _, _, _⟩) (v := .pointer (some ⟨gG, a, none⟩)) rfl (fun w' hC => by go_simp) ?_
                          simp only [Act.put, List.setIfInBounds_toArray, List.set_cons_succ, List.set_cons_zero]
                          refine wq_val (o := ⟨some 155, _, _, _, _, _⟩) (v := .slice (some ⟨gg, 0, none⟩) (nl1 + 16) cg) rfl (fun w' hC => by have x1 := cell_grow CC.out.2.2.2.2.1 hC; go_simp) ?_
                          simp only [Act.put, List.setIfInBounds_toArray, List.set_cons_succ, List.set_cons_zero]
                          refine wq_val (o := ⟨some 156, _, _, _, _, _⟩) (v := .int .i64 q) rfl (fun w' hC => by go_simp) ?_
                          simp only [Act.put, List.setIfInBounds_toArray, List.set_cons_succ, List.set_cons_zero]
                          refine wq_val (o := ⟨some 157, _, _, _, _, _⟩) (v := .pointer (some ⟨gg, q * 2, none⟩)) rfl (fun w' hC => by go_simp) ?_
                          simp only [Act.put, List.setIfInBounds_toArray, List.set_cons_succ, List.set_cons_zero]
                          refine wq_val (o := ⟨some 158, _, _, _, _, _⟩) (v := .agg #[.int .i64 (1000 + (a : Int)), .int .i64 2]) rfl (fun w' hC => by have x1 := cell_grow CC.out.2.2.2.2.2.1 hC; have x2 := cell_grow CC.out.2.2.2.2.2.2.1 hC; go_simp) ?_
                          simp only [Act.put, List.setIfInBounds_toArray, List.set_cons_succ, List.set_cons_zero]
                          refine wq_val (o := ⟨some 159, _, _, _, _, _⟩) (v := .agg #[.int .i64 (1000 + (a : Int)), .int .i64 2]) rfl (fun w' hC => by have x1 := cell_grow CC.out.2.2.1 hC; have x2 := cell_grow CC.out.2.2.2.1 hC; go_simp) ?_
                          simp only [Act.put, List.setIfInBounds_toArray, List.set_cons_succ, List.set_cons_zero]
                          refine wq_val (o := ⟨some 160, _, _, _, _, _⟩) (v := .bool false) rfl (fun w' hC => by go_simp) ?_
                          simp only [Act.put, List.setIfInBounds_toArray, List.set_cons_succ, List.set_cons_zero]
                          refine wq_val (o := ⟨some 161, _, _, _, _, _⟩) (v := .bool false) rfl (fun w' hC => by go_simp) ?_
                          simp only [Act.put, List.setIfInBounds_toArray, List.set_cons_succ, List.set_cons_zero]
                          refine wq_val (o := ⟨some 162, _, _, _, _, _⟩) (v := .bool false) rfl (fun w' hC => by go_simp) ?_
                          simp only [Act.put, List.setIfInBounds_toArray, List.set_cons_succ, List.set_cons_zero]
                          refine wpQuiet_nil ?_
                          intro w5 hC5
                          have Z := Lib.hid (And.intro (gt QF.out.1 hC5) QF.out.2)
                          clear hC5 QF CC
                          go_wp2
                          go_roundw
                          case rel => exact ⟨q + 1, Z.out.2, by go_num, Z.out.1⟩
                          case measure => exact meas_in Z.out.2
                        · skip
                          have hx : (C3 n a)[q]? = some (mkI 3 a) := c3_at3 _ _ _ (by rw [← KK.out.2.2.2.1]; omega) (by rw [← KK.out.2.2.2.1]; omega)
                          obtain ⟨m1, m2⟩ := it_cells rm hx
                          rw [show mkI 3 a = ((1000 + (a : Int), 3) : Itm) from rfl] at m1 m2
                          simp only at m1 m2
                          have i1 : ¬ (q : Int) < (nl1 : Int) := by omega
                          have i2 : ¬ (q : Int) < (nl1 : Int) + 16 := by omega
                          have i3 : (nl1 : Int) ≤ (q : Int) := by omega
                          have i4 : (nl1 : Int) + 16 ≤ (q : Int) := by omega
                          have i5 : nl1 ≤ q := by omega
                          have i6 : nl1 + 16 ≤ q := by omega
                          have Q := Lib.hid (And.intro hb (And.intro hlq (And.intro h1 h2)))
                          clear hb hlq h1 h2 hq rm hx
                          go_upto_region 44 with (first
                            | (go_at_call 15; go_must (refine (it_any (1000 + (a : Int)) 1 _).mono ?_); rintro e w4 ⟨rfl, hb4⟩; unfold Itm.val))
                          have hbF : Below wr.heap.size wr (w4.alloc (.cells #[.int .i64 (1000 + (a : Int)), .int .i64 3] TI)) := ga (gt (ga (gr wr) _) hb4) _
                          have hbw := gt (gt HB.out Q.out.1) hbF
                          have bx := ((Blk.new wr TI [.int .i64 (1000 + (a : Int)), .int .i64 3]).grow hb4).alloc (.cells #[.int .i64 (1000 + (a : Int)), .int .i64 3] TI)
                          have bw := Blk.new w4 TI [.int .i64 (1000 + (a : Int)), .int .i64 3]
                          have y1 := bx.cell 0
                          have y2 := bx.cell 1
                          have y3 := bw.cell 0
                          have y4 := bw.cell 1
                          simp only [List.getElem?_cons_zero, List.getElem?_cons_succ] at y1 y2 y3 y4
                          have y5 := F.out.2.1 _ hbw
                          have CC := Lib.hid (And.intro y1 (And.intro y2 (And.intro y3 (And.intro y4 (And.intro y5 trivial)))))
                          have QF := Lib.hid (And.intro (gt Q.out.1 hbF) Q.out.2.1)
                          clear m1 m2 hbF hbw bx bw hb4 Q y1 y2 y3 y4 y5
                          refine wp_region_qb (by kernel_rfl) (by kernel_rfl) ?_
                          refine wq_val (o := ⟨some 126, _, _, _, _, _⟩) (v := .agg #[.int .i64 (1000 + (a : Int)), .int .i64 3]) rfl (fun w' hC => by have x1 := cell_grow CC.out.1 hC; have x2 := cell_grow CC.out.2.1 hC; go_simp) ?_
                          simp only [Act.put, List.setIfInBounds_toArray, List.set_cons_succ, List.set_cons_zero]
                          refine wq_val (o := ⟨some 127, _, _, _, _, _⟩) (v := .agg #[.int .i64 (1000 + (a : Int)), .int .i64 3]) rfl (fun w' hC => by have x1 := cell_grow CC.out.2.2.1 hC; have x2 := cell_grow CC.out.2.2.2.1 hC; go_simp) ?_
                          simp only [Act.put, List.setIfInBounds_toArray, List.set_cons_succ, List.set_cons_zero]
                          refine wq_val (o := ⟨some 128, _, _, _, _, _⟩) (v := .bool false) rfl (fun w' hC => by go_simp) ?_
                          simp only [Act.put, List.setIfInBounds_toArray, List.set_cons_succ, List.set_cons_zero]
                          refine wq_val (o := ⟨some 129, _, _, _, _, _⟩) (v := .bool false) rfl (fun w' hC => by go_simp) ?_
                          simp only [Act.put, List.setIfInBounds_toArray, List.set_cons_succ, List.set_cons_zero]
                          refine wq_val (o := ⟨some 130, _, _, _, _, _⟩) (v := .int .i64 q) rfl (fun w' hC => by go_simp) ?_
                          simp only [Act.put, List.setIfInBounds_toArray, List.set_cons_succ, List.set_cons_zero]
                          refine wq_val (o := ⟨some 131, _, _, _, _, _⟩) (v := .slice Al nl1 cl) rfl (fun w' hC => by go_simp) ?_
                          simp only [Act.put, List.setIfInBounds_toArray, List.set_cons_succ, List.set_cons_zero]
                          refine wq_val (o := ⟨some 132, _, _, _, _, _⟩) (v := .int .i64 nl1) rfl (fun w' hC => by go_simp) ?_
                          simp only [Act.put, List.setIfInBounds_toArray, List.set_cons_succ, List.set_cons_zero]
                          refine wq_val (o := ⟨some 133, _, _, _, _, _⟩) (v := .bool false) rfl (fun w' hC => by go_simp) ?_
                          simp only [Act.put, List.setIfInBounds_toArray, List.set_cons_succ, List.set_cons_zero]
                          refine wq_val (o := ⟨some 134, _, _, _, _, _⟩) (v := .bool false) rfl (fun w' hC => by go_simp) ?_
                          simp only [Act.put, List.setIfInBounds_toArray, List.set_cons_succ, List.set_cons_zero]
                          go_big_quiet_step (fail)
                          go_big_quiet_step (fail)
                          go_big_quiet_step (fail)
                          go_big_quiet_step (fail)
                          go_big_quiet_step (fail)
                          go_big_quiet_step (fail)
                          refine wq_val (o := ⟨some 141, _, _, _, _, _⟩) (v := .bool false) rfl (fun w' hC => by go_simp) ?_
                          simp only [Act.put, List.setIfInBounds_toArray, List.set_cons_succ, List.set_cons_zero]
                          refine wq_val (o := ⟨some 142, _, _, _, _, _⟩) (v := .bool false) rfl (fun w' hC => by go_simp) ?_
                          simp only [Act.put, List.setIfInBounds_toArray, List.set_cons_succ, List.set_cons_zero]
                          refine wq_val (o := ⟨some 143, _, _, _, _, _⟩) (v := .bool false) rfl (fun w' hC => by go_simp) ?_
                          simp only [Act.put, List.setIfInBounds_toArray, List.set_cons_succ, List.set_cons_zero]
                          refine wq_val (o := ⟨some 144, _, _, _, _, _⟩) (v := .int .i64 q) rfl (fun w' hC => by go_simp) ?_
                          simp only [Act.put, List.setIfInBounds_toArray, List.set_cons_succ, List.set_cons_zero]
                          refine wq_val (o := ⟨some 145, _, _, _, _, _⟩) (v := .slice (some ⟨gG, 0, none⟩) j j) rfl (fun w' hC => by go_simp) ?_
                          simp only [Act.put, List.setIfInBounds_toArray, List.set_cons_succ, List.set_cons_zero]
                          refine wq_val (o := ⟨some 146, _, _, _, _, _⟩) (v := .int .i64 a) rfl (fun w' hC => by go_simp) ?_
                          simp only [Act.put, List.setIfInBounds_toArray, List.set_cons_succ, List.set_cons_zero]
                          refine wq_val (o := ⟨some 147, _, _, _, _, _⟩) (v := .pointer (some ⟨gG, a, none⟩)) rfl (fun w' hC => by go_simp) ?_
                          simp only [Act.put, List.setIfInBounds_toArray, List.set_cons_succ, List.set_cons_zero]
                          refine wq_val (o := ⟨some 148, _, _, _, _, _⟩) (v := .slice Ag (nl1 + 16) cg) rfl (fun w' hC => by have x1 := cell_grow CC.out.2.2.2.2.1 hC; go_simp) ?_
                          simp only [Act.put, List.setIfInBounds_toArray, List.set_cons_succ, List.set_cons_zero]
                          refine wq_val (o := ⟨some 149, _, _, _, _, _⟩) (v := .int .i64 ((nl1 + 16 : Nat) : Int)) rfl (fun w' hC => by go_simp) ?_
                          simp only [Act.put, List.setIfInBounds_toArray, List.set_cons_succ, List.set_cons_zero]
                          refine wq_val (o := ⟨some 150, _, _, _, _, _⟩) (v := .bool false) rfl (fun w' hC => by go_simp) ?_
                          simp only [Act.put, List.setIfInBounds_toArray, List.set_cons_succ, List.set_cons_zero]
                          refine wq_val (o := ⟨some 151, _, _, _, _, _⟩) (v := .bool false) rfl (fun w' hC => by go_simp) ?_
                          simp only [Act.put, List.setIfInBounds_toArray, List.set_cons_succ, List.set_cons_zero]
                          go_big_quiet_step (fail)
                          go_big_quiet_step (fail)
                          go_big_quiet_step (fail)
                          go_big_quiet_step (fail)
                          go_big_quiet_step (fail)
                          go_big_quiet_step (fail)
                          go_big_quiet_step (fail)
                          go_big_quiet_step (fail)
                          go_big_quiet_step (fail)
                          refine wq_val (o := ⟨some 161, _, _, _, _, _⟩) (v := .bool false) rfl (fun w' hC => by go_simp) ?_
                          simp only [Act.put, List.setIfInBounds_toArray, List.set_cons_succ, List.set_cons_zero]
                          refine wq_val (o := ⟨some 162, _, _, _, _, _⟩) (v := .bool false) rfl (fun w' hC => by go_simp) ?_
                          simp only [Act.put, List.setIfInBounds_toArray, List.set_cons_succ, List.set_cons_zero]
                          refine wpQuiet_nil ?_
                          intro w5 hC5
                          have Z := Lib.hid (And.intro (gt QF.out.1 hC5) QF.out.2)
                          clear hC5 QF CC
                          go_wp2
                          go_roundw
                          case rel => exact ⟨q + 1, Z.out.2, by go_num, Z.out.1⟩
                          case measure => exact meas_in Z.out.2
                    · obtain rfl : q = nl1 + 216 := by omega
                      have X := Lib.hid (And.intro (gt HB.out hb) KK.out.2.2.2.2)
                      clear hb hlq hq
                      go_wp2
                      go_roundw
                      case rel => exact ⟨a + 1, X.out.2, by go_num, X.out.1⟩
                      case measure => exact meas_in X.out.2
                · obtain rfl : a = j := by omega
                  have hai : ¬ (a : Int) < (a : Int) := by omega
                  have X := Lib.hid (I.out.ap.gr.below hb)
                  clear hb hlt ha
                  go_wp2
                  go_ret
                  exact ⟨rfl, X.out⟩
end Go.Proofs.Ytdebokambldbbaa.LawP
