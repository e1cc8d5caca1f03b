/- weirlaw07.PileSorts: the walk. -/
import Derived.Test.YtdebokambldbbaaPSorts
namespace Go.Proofs.Ytdebokambldbbaa.LawP
open Go.RowKit Go.Shelf Go.Proofs.Ytdebokambldbbaa.Mem Go.Proofs.Ytdebokambldbbaa.Heap Go.Proofs.Ytdebokambldbbaa.Pile Go.Proofs.Ytdebokambldbbaa.PileI
set_option linter.unusedVariables false
set_option linter.unusedSectionVars false
set_option linter.unusedSimpArgs false
set_option maxRecDepth 8000
set_option maxHeartbeats 12800000

theorem msort_pair : msort ltK [(2, 1), (1, 2)] = [(1, 2), (2, 1)] := by
  rw [msort_step _ (by simp)]
  rw [msort_short _ (by simp), msort_short _ (by simp)]
  simp [mrg, ltK]
theorem sorts_walk (A0 A1 : Option Addr) (n c n1 c1 : Nat) (l : List Itm) (ks : List Int) (W : World) (hr : RV W A0 (l.flatMap Itm.cells)) (hn : n = l.length) (hl : n ≤ 1048576) (hc : n ≤ c)
    (hr1 : RV W A1 (ks.map fun k => .int .i64 k)) (hn1 : n1 = ks.length) (hl1 : n1 ≤ 1048576) (hok : ∀ k ∈ ks, k ≤ 9223372036854775807) :
    Calls Try.prog 8 #[.slice A0 n c, .slice A1 n1 c1] W fun e W' => e = .returned (.bool true) ∧ Below W.heap.size W W' := by
  have H0 := Lib.hid (And.intro hr (And.intro hn (And.intro hr1 (And.intro hn1 (And.intro hok hc)))))
  clear hr hn hr1 hn1 hok hc
  go_enter Try.func8, Try.ntmps8
  go_upto_region 2 with (first
    | (go_at_call 15; (with_reducible show Calls _ _ #[.int .i64 2, _] _ _); go_must (refine (it_any 2 1 _).mono ?_); rintro e w1 ⟨rfl, hb1⟩; unfold Itm.val)
    | (go_at_call 15; go_must (refine (it_any 1 2 _).mono ?_); rintro e w2 ⟨rfl, hb2⟩; unfold Itm.val)
    | ((with_reducible show wpList _ _ _ (⟨some 21, _, _, _, _, _⟩ :: _) _ _)
       go_must (refine wpList_new (o := ⟨some 21, _, _, _, _, _⟩) rfl (run_build2 ET (.tmp 19) (.tmp 20) rfl (by decide) (Itm.cells (2, 1)) (Itm.cells (1, 2)) rfl rfl rfl rfl) ?_)
       intro w3 hB3 hb3 hz3)
    | (go_at_call 23; go_must (refine (sort_I w3 w2.heap.size 2 2 [(2, 1), (1, 2)] hB3.rv rfl (by omega)).mono ?_); rintro e w4 ⟨v4, rfl, ho4, hb4⟩))
  rw [msort_pair] at ho4
  obtain ⟨A4, c4, rfl, _⟩ := own_slice ho4
  obtain ⟨g4, rfl, _, _⟩ := own_addr ho4 (by omega)
  obtain ⟨m1, m2⟩ := it_cells (own_rv ho4) (k := 0) (y := (1, 2)) rfl
  simp only [Nat.zero_mul, Nat.zero_add] at m1 m2
  have B4 := Lib.hid (gt (gt (gt hb1 hb2) hb3) hb4)
  have CC := Lib.hid (And.intro m1 m2)
  clear hb1 hb2 hb3 hB3 hz3 hb4 ho4 m1 m2
  try simp only [Act.put, List.setIfInBounds_toArray, List.set_cons_succ, List.set_cons_zero]
  refine wp_region_qb (by kernel_rfl) (by kernel_rfl) ?_
  refine wq_val (o := ⟨some 23, _, _, _, _, _⟩) (v := .slice (some ⟨g4, 0, none⟩) 2 c4) rfl (fun w' hC => by go_simp) ?_
  simp only [Act.put, List.setIfInBounds_toArray, List.set_cons_succ, List.set_cons_zero]
  refine wq_val (o := ⟨some 24, _, _, _, _, _⟩) (v := .int .i64 2) rfl (fun w' hC => by go_simp) ?_
  simp only [Act.put, List.setIfInBounds_toArray, List.set_cons_succ, List.set_cons_zero]
  refine wq_val (o := ⟨some 25, _, _, _, _, _⟩) (v := .bool false) rfl (fun w' hC => by go_simp) ?_
  simp only [Act.put, List.setIfInBounds_toArray, List.set_cons_succ, List.set_cons_zero]
  refine wq_val (o := ⟨some 26, _, _, _, _, _⟩) (v := .bool false) rfl (fun w' hC => by go_simp) ?_
  simp only [Act.put, List.setIfInBounds_toArray, List.set_cons_succ, List.set_cons_zero]
  refine wq_val (o := ⟨some 27, _, _, _, _, _⟩) (v := .slice (some ⟨g4, 0, none⟩) 2 c4) rfl (fun w' hC => by go_simp) ?_
  simp only [Act.put, List.setIfInBounds_toArray, List.set_cons_succ, List.set_cons_zero]
  refine wq_val (o := ⟨some 28, _, _, _, _, _⟩) (v := .pointer (some ⟨g4, 0, none⟩)) rfl (fun w' hC => by go_simp) ?_
  simp only [Act.put, List.setIfInBounds_toArray, List.set_cons_succ, List.set_cons_zero]
  refine wq_val (o := ⟨some 29, _, _, _, _, _⟩) (v := .agg #[.int .i64 1, .int .i64 2]) rfl (fun w' hC => by have x1 := cell_grow CC.out.1 hC; have x2 := cell_grow CC.out.2 hC; go_simp) ?_
  simp only [Act.put, List.setIfInBounds_toArray, List.set_cons_succ, List.set_cons_zero]
  refine wq_call (f := 15) (args := #[.int .i64 1, .int .i64 2]) (v := Itm.val (1, 2)) rfl (fun w' _ => by go_simp) (fun w' hC => ?_) ?_
  · exact it_any 1 2 w'
  simp only [Act.put, List.setIfInBounds_toArray, List.set_cons_succ, List.set_cons_zero, Itm.val]
  refine wq_val (o := ⟨some 31, _, _, _, _, _⟩) (v := .bool false) rfl (fun w' hC => by go_simp) ?_
  simp only [Act.put, List.setIfInBounds_toArray, List.set_cons_succ, List.set_cons_zero]
  refine wq_val (o := ⟨some 32, _, _, _, _, _⟩) (v := .bool false) rfl (fun w' hC => by go_simp) ?_
  simp only [Act.put, List.setIfInBounds_toArray, List.set_cons_succ, List.set_cons_zero]
  refine wpQuiet_nil ?_
  intro w5 hC5
  have B5 := Lib.hid (gt B4.out hC5)
  clear B4 CC hC5
  obtain ⟨gI, hgI⟩ : ∃ gI, gI = w5.heap.size := ⟨_, rfl⟩
  have HgI := Lib.hid hgI
  clear hgI
  go_upto_region 6 with (first
    | (go_at_call 30; go_must (refine (put_any A0 n c l w5 (H0.out.1.below B5.out) H0.out.2.1 (by have := H0.out.2.1; omega)).mono ?_); rintro e w6 ⟨rfl, hB6, hb6⟩; rw [← HgI.out] at hB6; rw [← HgI.out])
    | (go_at_call 29; go_must (refine (refsort_any false n A0 n c l w6 (Nat.le_refl _) (H0.out.1.below (gt B5.out hb6)) H0.out.2.1 H0.out.2.2.2.2.2 (by have := H0.out.2.1; omega)).mono ?_); rintro e w7 ⟨v7, rfl, ho7, hb7⟩))
  rw [← H0.out.2.1, ltF_false] at ho7
  obtain ⟨A7, c7, rfl, _⟩ := own_slice ho7
  obtain ⟨B, hB⟩ : ∃ B, B = w7.heap.size := ⟨_, rfl⟩
  have hgI7 : gI < w6.heap.size := hB6.lt
  have H7 := Lib.hid (And.intro (hB6.grow hb7) (And.intro (H0.out.1.below (gt (gt B5.out hb6) hb7)) (And.intro ho7 (And.intro hB (And.intro (gt (gt B5.out hb6) hb7) (And.intro (show W.heap.size ≤ gI by rw [HgI.out]; exact B5.out.size) (And.intro hgI7 hb7.size)))))))
  have cI : ∀ w, Below w7.heap.size w7 w → RV w (some ⟨gI, 0, none⟩) (l.flatMap Itm.cells) := fun w h => by
    have := rv_items_to ((H7.out.1.grow h).rv) n
    rw [H0.out.2.1, laid_take] at this
    exact this
  have CI := Lib.hid cI
  clear hB6 hb6 ho7 hb7 hB hgI7 cI HgI B5
  go_upto_region 7 with (first
    | (go_at_call 23; go_must (refine (sort_I w7 gI n (n + 40) l (CI.out w7 (gr w7)) H0.out.2.1 (by omega)).mono ?_); rintro e w8 ⟨va, rfl, ho8, hb8⟩))
  go_upto_region 8 with (first
    | (go_at_call 23; go_must (refine (sort_flat w8 gI n (n + 40) l (CI.out w8 hb8) H0.out.2.1 (by omega)).mono ?_); rintro e w9 ⟨vf, rfl, ho9, hb9⟩))
  go_upto_region 9 with (first
    | (go_at_call 23; go_must (refine (sort_I w9 gI n (n + 40) l (CI.out w9 (gt hb8 hb9)) H0.out.2.1 (by omega)).mono ?_); rintro e w10 ⟨vb, rfl, ho10, hb10⟩))
  obtain ⟨Aa, ca, rfl, _⟩ := own_slice ho8
  obtain ⟨Af, cf, rfl, _⟩ := own_slice ho9
  obtain ⟨Ab, cb, rfl, _⟩ := own_slice ho10
  have hL0 : All w7 w7 w7.heap.size 0 (fun _ => .slice none 0 0) (fun _ => 0) (fun _ => []) := ⟨fun i hi => absurd hi (Nat.not_lt_zero i), fun i j hi => absurd hi (Nat.not_lt_zero i), gr w7, fun i hi => absurd hi (Nat.not_lt_zero i)⟩
  have hL1 := ((hL0.add (Nat.le_refl _) hb8 ho8 (by omega)).add (Nat.le_refl _) hb9 ho9 (by omega)).add (Nat.le_refl _) hb10 ho10 (by omega)
  have L1 := Lib.hid (And.intro hL1 (And.intro ((own_rv ho8).below (gt hb9 hb10)) (And.intro ((own_rv ho9).below hb10) (own_rv ho10))))
  clear hL0 hL1 ho8 hb8 ho9 hb9 ho10 hb10
  go_upto_region 10 with (first
    | ((with_reducible show wpList _ _ _ (⟨some 49, _, _, _, _, _⟩ :: _) _ _)
       go_must (refine wpList_new (o := ⟨some 49, _, _, _, _, _⟩) rfl (run_build3 E26 (.tmp 46) (.tmp 47) (.tmp 48) rfl (by decide) [.slice Aa n ca] [.slice Af n cf] [.slice Ab n cb] rfl rfl rfl rfl rfl rfl) ?_)
       intro w11 hB11 hb11 hz11))
  have hA11 := L1.out.1.below (Nat.le_refl _) hb11
  have hO11 : w11.ownsRow w7.heap.size 32 1 (.slice (some ⟨w10.heap.size, 0, none⟩) 3 3) 3 ((List.range 3).map (fupd (fupd (fupd (fun _ => (.slice none 0 0 : Value)) 0 (.slice Aa n ca)) (0 + 1) (.slice Af n cf)) (0 + 1 + 1) (.slice Ab n cb))) :=
    hB11.own L1.out.1.low.size (by unfold maxLen; simp)
  obtain ⟨vs, hvs⟩ : ∃ vs : Nat → Value, vs = fupd (fupd (fupd (fun _ => (.slice none 0 0 : Value)) 0 (.slice Aa n ca)) (0 + 1) (.slice Af n cf)) (0 + 1 + 1) (.slice Ab n cb) := ⟨_, rfl⟩
  obtain ⟨ns, hns⟩ : ∃ ns : Nat → Nat, ns = fupd (fupd (fupd (fun _ => 0) 0 n) (0 + 1) n) (0 + 1 + 1) n := ⟨_, rfl⟩
  obtain ⟨L, hL⟩ : ∃ L : Nat → List Itm, L = fupd (fupd (fupd (fun _ => []) 0 (msort ltK l)) (0 + 1) l) (0 + 1 + 1) (msort ltK l) := ⟨_, rfl⟩
  have h00 : vs 0 = .slice Aa n ca ∧ ns 0 = n ∧ L 0 = msort ltK l := by
    rw [hvs, hns, hL]
    exact ⟨rfl, rfl, rfl⟩
  rw [← hvs] at hO11
  rw [← hvs, ← hns, ← hL] at hA11
  have X11 := Lib.hid (And.intro hA11 hO11)
  have S11 := Lib.hid (And.intro (L1.out.2.1.below hb11) (And.intro (L1.out.2.2.1.below hb11) (L1.out.2.2.2.below hb11)))
  obtain ⟨gA, hgA⟩ : ∃ gA, gA = w10.heap.size := ⟨_, rfl⟩
  rw [← hgA] at X11 ⊢
  have hml : (msort ltK l).length = n := by rw [msort_len, H0.out.2.1]
  have HM := Lib.hid hml
  have cW : ∀ w, Below w7.heap.size w7 w → RV w A7 ((msort ltK l).flatMap Itm.cells) := fun w h => (own_rv H7.out.2.2.1).below h
  have cL : ∀ w, Below w7.heap.size w7 w → RV w A0 (l.flatMap Itm.cells) := fun w h => H7.out.2.1.below h
  have CW := Lib.hid (And.intro cW cL)
  clear L1 hB11 hb11 hz11 hA11 hO11 hvs hns hL hgA hml cW cL
  go_wp2_with (first
    | (go_at_call 32; (with_reducible show Calls _ _ #[.slice Aa _ _, _] _ _); go_must (refine (same_items Aa A7 n ca c7 (msort ltK l) w11 S11.out.1 (CW.out.1 _ X11.out.1.low) HM.out.symm (by have := HM.out; omega)).mono ?_); rintro e w12 ⟨rfl, hb12⟩)
    | (go_at_call 32; (with_reducible show Calls _ _ #[.slice Af _ _, _] _ _); go_must (refine (same_items Af A0 n cf c l w12 (S11.out.2.1.below hb12) (CW.out.2 _ (gt X11.out.1.low hb12)) H0.out.2.1 (by have := H0.out.2.1; omega)).mono ?_); rintro e w13 ⟨rfl, hb13⟩)
    | (go_at_call 32; (with_reducible show Calls _ _ #[.slice Ab _ _, _] _ _); go_must (refine (same_items Ab A7 n cb c7 (msort ltK l) w13 (S11.out.2.2.below (gt hb12 hb13)) (CW.out.1 _ (gt X11.out.1.low (gt hb12 hb13))) HM.out.symm (by have := HM.out; omega)).mono ?_); rintro e w14 ⟨rfl, hb14⟩))
  have hX14 := X11.out.1.below (Nat.le_refl _) (gt (gt hb12 hb13) hb14)
  have hO14 := own_below'' X11.out.2 (gt (gt hb12 hb13) hb14)
  have X14 := Lib.hid (And.intro hX14 (And.intro hO14 h00))
  clear X11 S11 hb12 hb13 hb14 hX14 hO14 h00
  go_loopw [12, 68] (fun v12 v68 wr => ∃ (k : Nat) (vs : Nat → Value) (ns : Nat → Nat) (L : Nat → List Itm), k ≤ n1 ∧ v68 = .int .i64 k ∧ All w7 wr w7.heap.size (3 + 2 * k) vs ns L ∧ wr.ownsRow w7.heap.size 32 1 v12 (3 + 2 * k) ((List.range (3 + 2 * k)).map vs) ∧ (vs 0 = .slice Aa n ca ∧ ns 0 = n ∧ L 0 = msort ltK l)) (fun _ v _ => n1 - (intOf v).toNat)
  case atStart => exact ⟨0, vs, ns, L, Nat.zero_le _, rfl, X14.out.1, X14.out.2.1, X14.out.2.2⟩
  case round =>
    clear X14
    obtain ⟨k, us, ms, M, hk, rfl, hA, hO, hRa⟩ := hrel
    by_cases hlt : k < n1
    · have hkl : k < ks.length := by rw [← H0.out.2.2.2.1]; exact hlt
      obtain ⟨ad, e0, hcell⟩ := (H0.out.2.2.1.below (H7.out.2.2.2.2.1)).below hA.low k (by simpa using hkl)
      subst e0
      rw [List.getElem_map] at hcell
      obtain ⟨x, hx⟩ : ∃ x, x = ks[k] := ⟨_, rfl⟩
      have hxo : x ≤ 9223372036854775807 := by rw [hx]; exact H0.out.2.2.2.2.1 _ (List.getElem_mem _)
      rw [← hx] at hcell
      obtain ⟨m, hm⟩ : ∃ m, m = min x.toNat n := ⟨_, rfl⟩
      obtain ⟨T1, hT1⟩ : ∃ T1, T1 = (msort ltK l).take m := ⟨_, rfl⟩
      obtain ⟨T2, hT2⟩ : ∃ T2, T2 = l.take m := ⟨_, rfl⟩
      have hm1 : m ≤ 1073741824 := by omega
      have hl1' : m = T1.length := by rw [hT1, List.length_take, HM.out]; omega
      have hl2' : m = T2.length := by rw [hT2, List.length_take, ← H0.out.2.1]; omega
      have cB := fun (w : World) (h : Below w7.heap.size w7 w) => best_I w gI n (n + 40) l (CI.out w h) H0.out.2.1 (by omega) x hxo
      have cF := fun (w : World) (h : Below w7.heap.size w7 w) => best_flat w gI n (n + 40) l (CI.out w h) H0.out.2.1 (by omega) x hxo
      have cR := fun (w : World) (h : Below w7.heap.size w7 w) => refbest_any false A0 n c x l w (CW.out.2 w h) H0.out.2.1 H0.out.2.2.2.2.2 (by have := H0.out.2.1; omega)
      have cS := fun (w : World) (h : Below w7.heap.size w7 w) => refbest_any true A0 n c x l w (CW.out.2 w h) H0.out.2.1 H0.out.2.2.2.2.2 (by have := H0.out.2.1; omega)
      rw [← hm, ltF_false, ← hT1] at cR
      rw [← hm, ltF_true, msort_flat, ← hT2] at cS
      rw [← hm, ← hT1] at cB
      rw [← hm, ← hT2] at cF
      have C := Lib.hid (And.intro cB (And.intro cF (And.intro cR cS)))
      have HL := Lib.hid (And.intro hl1' (And.intro hl2' (And.intro hm1 hlt)))
      have S := Lib.hid (And.intro hA (And.intro hO hRa))
      have hki : (k : Int) < (n1 : Int) := by omega
      have hk0 : (0 : Int) ≤ (k : Int) := by omega
      clear cB cF cR cS hl1' hl2' hm1 hlt hkl hx hxo hm hT1 hT2 hA hO hRa hk
      go_upto_region 16 with (first
        | (go_at_call 35; go_must (refine (C.out.1 wr S.out.1.low).mono ?_); rintro e w15 ⟨vx, rfl, ho15, hb15⟩))
      go_upto_region 17 with (first
        | (go_at_call 35; go_must (refine (C.out.2.1 w15 (gt S.out.1.low hb15)).mono ?_); rintro e w16 ⟨vy, rfl, ho16, hb16⟩))
      obtain ⟨Ax, cx, rfl, _⟩ := own_slice ho15
      obtain ⟨Ay, cy, rfl, _⟩ := own_slice ho16
      have hA16 := (S.out.1.add (Nat.le_refl _) hb15 ho15 HL.out.2.2.1).add (Nat.le_refl _) hb16 ho16 HL.out.2.2.1
      have hO16 := own_below'' S.out.2.1 (gt hb15 hb16)
      have S16 := Lib.hid (And.intro hA16 (And.intro hO16 (And.intro S.out.2.2 (And.intro ((own_rv ho15).below hb16) (own_rv ho16)))))
      clear S ho15 hb15 ho16 hb16 hA16 hO16
      go_upto_region 19 with (first
        | (go_at_call 36; (with_reducible show Calls _ _ #[_, _, .bool false] _ _); go_must (refine (C.out.2.2.1 w16 S16.out.1.low).mono ?_); rintro e w17 ⟨Ar, cr, rfl, hr17, hb17⟩)
        | (go_at_call 36; (with_reducible show Calls _ _ #[_, _, .bool true] _ _); go_must (refine (C.out.2.2.2 w18 (gt S16.out.1.low (gt hb17 hb18))).mono ?_); rintro e w19 ⟨At, ct, rfl, hr19, hb19⟩)
        | (go_at_call 32; (with_reducible show Calls _ _ #[.slice Ax _ _, _] _ _); go_must (refine (same_items Ax Ar m cx cr T1 w17 (S16.out.2.2.2.1.below hb17) hr17 HL.out.1 (by have := HL.out.1; have := HL.out.2.2.1; omega)).mono ?_); rintro e w18 ⟨rfl, hb18⟩)
        | (go_at_call 32; (with_reducible show Calls _ _ #[.slice Ay _ _, _] _ _); go_must (refine (same_items Ay At m cy ct T2 w19 (S16.out.2.2.2.2.below (gt (gt hb17 hb18) hb19)) hr19 HL.out.2.1 (by have := HL.out.2.1; have := HL.out.2.2.1; omega)).mono ?_); rintro e w20 ⟨rfl, hb20⟩))
      obtain ⟨N, hN⟩ : ∃ N, N = 3 + 2 * k := ⟨_, rfl⟩
      have hA20 := S16.out.1.below (Nat.le_refl _) (gt (gt hb17 hb18) (gt hb19 hb20))
      have hO20 := own_below'' S16.out.2.1 (gt (gt hb17 hb18) (gt hb19 hb20))
      rw [← hN] at hA20 hO20
      have S20 := Lib.hid (And.intro hA20 (And.intro hO20 (And.intro S16.out.2.2.1 hN)))
      have HN := Lib.hid (show N + 2 ≤ 4194304 by have := HL.out.2.2.2; omega)
      clear S16 hr17 hb17 hb18 hr19 hb19 hb20 hA20 hO20 hN
      go_wp2_with (first
        | ((with_reducible show wpList _ _ _ (⟨some 95, _, _, _, _, _⟩ :: _) _ _)
           go_must (refine wpList_new (o := ⟨some 95, _, _, _, _, _⟩) rfl (run_build2 E26 (.tmp 93) (.tmp 94) rfl (by decide) [.slice Ax m cx] [.slice Ay m cy] rfl rfl rfl rfl) ?_)
           intro w21 hB21 hb21 hz21)
        | ((with_reducible show wpList _ _ _ (⟨some 96, _, _, _, _, _⟩ :: _) _ _)
           go_must (refine wpList_app E26 (o := ⟨some 96, _, _, _, _, _⟩) rfl (.tmp 92) (.tmp 95) rfl w7.heap.size u12 N _ rfl (own_below'' S20.out.2.1 hb21) (some ⟨w20.heap.size, 0, none⟩) 2 2 ([.slice Ax m cx] ++ [.slice Ay m cy]) rfl hB21.rv rfl (fun u hu => by simp at hu; rcases hu with rfl | rfl <;> rfl) (by have := HN.out; unfold maxLen; omega) (by have := HN.out; omega) (Nat.le_trans S20.out.1.low.size hb21.size) ?_)
           intro va w22 hov hg hv))
      have hA22 := (S20.out.1.below (Nat.le_refl _) hb21).kept (Nat.le_refl _) (own_below'' S20.out.2.1 hb21) hg
      have hO22 : w22.ownsRow w7.heap.size 32 1 va (N + 2) ((List.range (N + 2)).map (fupd (fupd us N (.slice Ax m cx)) (N + 1) (.slice Ay m cy))) := by
        rw [show N + 2 = N + 1 + 1 from rfl, range_snoc, range_snoc, List.append_assoc]
        exact hov
      have X := Lib.hid (And.intro hA22 (And.intro hO22 (And.intro S20.out.2.2.1 (And.intro HL.out.2.2.2 S20.out.2.2.2))))
      clear S20 HL HN hB21 hb21 hz21 hov hg hv hA22 hO22 C
      go_roundw
      case rel =>
        have hN := X.out.2.2.2.2
        refine ⟨k + 1, _, _, _, X.out.2.2.2.1, by go_num, by rw [show 3 + 2 * (k + 1) = N + 1 + 1 by omega]; exact X.out.1, by rw [show 3 + 2 * (k + 1) = N + 2 by omega]; exact X.out.2.1, ?_⟩
        have h0 := X.out.2.2.1
        refine ⟨?_, ?_, ?_⟩
        · rw [fupd_ne _ _ (by omega), fupd_ne _ _ (by omega)]; exact h0.1
        · rw [fupd_ne _ _ (by omega), fupd_ne _ _ (by omega)]; exact h0.2.1
        · rw [fupd_ne _ _ (by omega), fupd_ne _ _ (by omega)]; exact h0.2.2
      case measure => exact meas_in X.out.2.2.2.1
    · obtain rfl : k = n1 := by omega
      obtain ⟨N, hN⟩ : ∃ N, N = 3 + 2 * k := ⟨_, rfl⟩
      rw [← hN] at hA hO
      obtain ⟨gL, cL, cs, rfl, hBl, hcs, hAp⟩ := hA.ap0 hO (by omega)
      have rA : RV wr Aa ((msort ltK l).flatMap Itm.cells) := by
        have h := hA.own 0 (by omega)
        unfold fl at h
        rw [hRa.1, hRa.2.1, hRa.2.2] at h
        exact own_rv h
      have cI2 : ∀ w, Below w7.heap.size w7 w → RV w (some ⟨gI, 0, none⟩) ((laid l).flatMap Itm.cells) := fun w h => (H7.out.1.grow h).rv
      have S := Lib.hid (And.intro hA.low (And.intro hBl (And.intro hcs (And.intro hAp (And.intro hA.len rA)))))
      have CI2 := Lib.hid cI2
      have HN := Lib.hid (show N ≤ 4194304 by omega)
      have hki : ¬ (k : Int) < (k : Int) := by omega
      clear hA hO hBl hcs hAp rA hN hRa hlt hk cI2
      go_upto_region 23 with (first
        | (go_at_call 32; go_must (refine (same_items Aa A7 n ca c7 (msort ltK l) wr S.out.2.2.2.2.2 (CW.out.1 _ S.out.1) HM.out.symm (by have := HM.out; omega)).mono ?_); rintro e w20 ⟨rfl, hb20⟩)
        | (go_at_call 33
           go_must (refine (apart_items gL N cL w7.heap.size cs us ms M (fun b => w7.heap.size ≤ b) w21 HN.out (S.out.2.1.grow (gt hb20 hb21)) S.out.2.2.1 ⟨fun i hi => own_below'' (S.out.2.2.2.1.own i hi) (gt hb20 hb21), S.out.2.2.2.1.far, GrownS.refl _ _, S.out.2.2.2.1.blk, fun b hb => by subst hb; exact (S.out.2.1.grow (gt hb20 hb21)).lt, S.out.2.2.2.1.av⟩ S.out.2.2.2.2.1 (gt S.out.1 (gt hb20 hb21)).size).mono ?_)
           rintro e w22 ⟨rfl, hg22⟩
           have F22 := Lib.hid (hg22.low (gt S.out.1 (gt hb20 hb21)) (gt S.out.1 (gt hb20 hb21)).size (fun _ h => h)))
        | (go_at_call 34; (refine (whole_any ⟨gI, 0, none⟩ A0 n (n + 40) c (n + 40) l w22 (CI2.out _ F22.out) (CW.out.2 _ F22.out) H0.out.2.1 rfl (Nat.le_refl _) (by have := H0.out.2.1; omega)).mono ?_); rintro e w23 ⟨rfl, hb23⟩)
        | (go_at_call 34; go_must (refine (whole_any ⟨gI, 0, none⟩ A0 n (n + 40) c (n + 40) l w20 (CI2.out _ (gt S.out.1 hb20)) (CW.out.2 _ (gt S.out.1 hb20)) H0.out.2.1 rfl (Nat.le_refl _) (by have := H0.out.2.1; omega)).mono ?_); rintro e w21 ⟨rfl, hb21⟩))
      have F23 := Lib.hid (gt F22.out hb23)
      clear S hb20 hb21 hg22 F22 hb23 HN hki
      go_upto_region 24 with (first
        | (go_at_call 23; go_must (refine (sort_I w23 gI n (n + 40) l (CI.out _ F23.out) H0.out.2.1 (by omega)).mono ?_); rintro e w24 ⟨vc, rfl, ho24, hb24⟩))
      obtain ⟨Ac, cc, rfl, _⟩ := own_slice ho24
      have hge : gI < w23.heap.size := Nat.lt_of_lt_of_le (Nat.lt_of_lt_of_le H7.out.2.2.2.2.2.2.1 H7.out.2.2.2.2.2.2.2) F23.out.size
      have F24 := Lib.hid (And.intro (gt F23.out hb24) (And.intro ho24 hge))
      clear F23 ho24 hb24 hge CI CI2
      go_wp2
      go_loopw [123] (fun v wr => ∃ k : Nat, k ≤ n ∧ v = .int .i64 k ∧ Blk wr gI TI ((ngd l k ++ List.replicate 40 mark).flatMap Itm.cells) ∧ GrownS w24 wr (fun b => b = gI)) (fun v _ => n - (intOf v).toNat)
      case atStart => exact ⟨0, by omega, rfl, H7.out.1.grow F24.out.1, GrownS.refl _ _⟩
      case round =>
        obtain ⟨k, hk, rfl, hB, hg⟩ := hrel
        by_cases hlt : k < n
        · have hkl : k < l.length := by rw [← H0.out.2.1]; exact hlt
          have hx : (ngd l k ++ List.replicate 40 mark)[k]? = some l[k] := by rw [List.getElem?_append_left (by rw [ngd_len]; exact hkl)]; exact ngd_at l hkl
          have m1 := (it_cells hB.rv hx).1
          have hfr := hB.frozen (k * 2)
          have hst := ngd_step l hkl (List.replicate 40 mark)
          obtain ⟨x, hxe⟩ : ∃ x, x = l[k] := ⟨_, rfl⟩
          rw [← hxe] at m1 hst
          have hB2 := hB.set_ (k * 2) (.int .i64 (wrap64 (-x.1)))
          rw [hst] at hB2
          have X := Lib.hid (And.intro hB2 (And.intro (hg.step (grown_set wr gI (k * 2) (.int .i64 (wrap64 (-x.1)))) (fun b e => .inl (by injection e with e; exact e.symm))) hlt))
          have hki : (k : Int) < (n : Int) := by omega
          have hk0 : (0 : Int) ≤ (k : Int) := by omega
          clear hB hg hlt hk hkl hx hst hxe hB2
          go_wp2
          exact ⟨⟨k + 1, X.out.2.2, by go_num, X.out.1, X.out.2.1⟩, meas_in X.out.2.2⟩
        · obtain rfl : k = n := by omega
          obtain ⟨l2, hl2⟩ : ∃ l2, l2 = l.map negI := ⟨_, rfl⟩
          have hn2 : k = l2.length := by rw [hl2, List.length_map]; exact H0.out.2.1
          have rI : RV wr (some ⟨gI, 0, none⟩) (l2.flatMap Itm.cells) := by
            have h := rv_items_to hB.rv k
            rw [ngd_done l H0.out.2.1, ← hl2, List.take_left' hn2.symm] at h
            exact h
          have oW := hg.own (own_below'' H7.out.2.2.1 F24.out.1) (fun b hb e => by
            have h := ((H7.out.2.2.1.lt b hb)).1
            have h2 := H7.out.2.2.2.2.2.2.1
            omega)
          have oC := hg.own F24.out.2.1 (fun b hb e => by
            have h := (F24.out.2.1.lt b hb).1
            have h2 := F24.out.2.2
            omega)
          have hbW : Below W.heap.size W wr := hg.low (gt H7.out.2.2.2.2.1 F24.out.1) (gt H7.out.2.2.2.2.1 F24.out.1).size (fun b e => by rw [e]; exact H7.out.2.2.2.2.2.1)
          have cB := fun (w : World) (h : RV w (some ⟨gI, 0, none⟩) (l2.flatMap Itm.cells)) => best_I w gI k (k + 40) l2 h hn2 (by omega) 2 (by omega)
          have cR := fun (w : World) (h : RV w (some ⟨gI, 0, none⟩) (l2.flatMap Itm.cells)) => refbest_any false (some ⟨gI, 0, none⟩) k (k + 40) 2 l2 w h hn2 (by omega) (by omega)
          have cS := fun (w : World) (h : RV w (some ⟨gI, 0, none⟩) (l2.flatMap Itm.cells)) => refsort_any false k (some ⟨gI, 0, none⟩) k (k + 40) l2 w (Nat.le_refl _) h hn2 (by omega) (by omega)
          rw [ltF_false] at cR
          rw [ltF_false, ← hn2] at cS
          obtain ⟨m, hm⟩ : ∃ m, m = min (2 : Int).toNat k := ⟨_, rfl⟩
          obtain ⟨T, hT⟩ : ∃ T, T = (msort ltK l2).take m := ⟨_, rfl⟩
          obtain ⟨S2, hS2⟩ : ∃ S2, S2 = msort ltK l2 := ⟨_, rfl⟩
          rw [← hm, ← hT] at cB cR
          rw [← hS2] at cS
          have hTl : m = T.length := by rw [hT, List.length_take, msort_len, ← hn2, hm]; omega
          have hSl : k = S2.length := by rw [hS2, msort_len]; exact hn2
          have cO := fun (w : World) (h : RV w (some ⟨gI, 0, none⟩) (l2.flatMap Itm.cells)) => sort_I w gI k (k + 40) l2 h hn2 (by omega)
          rw [← hS2] at cO
          have C := Lib.hid (And.intro cB (And.intro cR (And.intro cS (And.intro cO (And.intro hTl (And.intro hSl (show m ≤ 1048576 by omega)))))))
          have Z := Lib.hid (And.intro rI (And.intro (own_rv oW) (And.intro (own_rv oC) hbW)))
          have hki : ¬ (k : Int) < (k : Int) := by omega
          clear hB hg hlt hk hl2 hn2 rI oW oC hbW cB cR cS cO hm hT hS2 hTl hSl
          go_wp2_with (first
            | (go_at_call 32; (with_reducible show Calls _ _ #[.slice Ac _ _, _] _ _); go_must (refine (same_items Ac A7 k cc c7 (msort ltK l) wr Z.out.2.2.1 Z.out.2.1 HM.out.symm (by have := HM.out; omega)).mono ?_); rintro e w25 ⟨rfl, hb25⟩)
            | (go_at_call 23; go_must (refine (C.out.2.2.2.1 w25 (Z.out.1.below hb25)).mono ?_); rintro e w26 ⟨vo, rfl, ho26, hb26⟩
               obtain ⟨Ao, co, rfl, _⟩ := own_slice ho26
               have R26 := Lib.hid (own_rv ho26)
               clear ho26)
            | (go_at_call 29; go_must (refine (C.out.2.2.1 w26 (Z.out.1.below (gt hb25 hb26))).mono ?_); rintro e w27 ⟨vp, rfl, ho27, hb27⟩
               obtain ⟨Ap, cp, rfl, _⟩ := own_slice ho27
               have R27 := Lib.hid (own_rv ho27)
               clear ho27)
            | (go_at_call 32; (with_reducible show Calls _ _ #[.slice Ao _ _, _] _ _); go_must (refine (same_items Ao Ap k co cp S2 w27 (R26.out.below hb27) R27.out C.out.2.2.2.2.2.1 (by have := C.out.2.2.2.2.2.1; omega)).mono ?_); rintro e w28 ⟨rfl, hb28⟩
               have B28 := Lib.hid (gt (gt hb25 hb26) (gt hb27 hb28)))
            | (go_at_call 35; go_must (refine (C.out.1 w28 (Z.out.1.below B28.out)).mono ?_); rintro e w29 ⟨vq, rfl, ho29, hb29⟩
               obtain ⟨Aq, cq, rfl, _⟩ := own_slice ho29
               have R29 := Lib.hid (own_rv ho29)
               clear ho29)
            | (go_at_call 36; go_must (refine (C.out.2.1 w29 (Z.out.1.below (gt B28.out hb29))).mono ?_); rintro e w30 ⟨As, cs, rfl, hr30, hb30⟩)
            | (go_at_call 32; go_must (refine (same_items Aq As m cq cs T w30 (R29.out.below hb30) hr30 C.out.2.2.2.2.1 (by have := C.out.2.2.2.2.1; have := C.out.2.2.2.2.2.2; omega)).mono ?_); rintro e w31 ⟨rfl, hb31⟩))
          go_ret
          exact ⟨rfl, gt (gt Z.out.2.2.2 B28.out) (gt (gt hb29 hb30) hb31)⟩
end Go.Proofs.Ytdebokambldbbaa.LawP
