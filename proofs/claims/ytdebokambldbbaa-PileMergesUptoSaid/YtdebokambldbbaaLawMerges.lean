/- weirlaw07.PileMerges: the walk. -/
import Derived.Test.YtdebokambldbbaaPMerges
namespace Go.Proofs.Ytdebokambldbbaa.LawP
open Go.RowKit Go.Shelf Go.Proofs.Ytdebokambldbbaa.Mem Go.Proofs.Ytdebokambldbbaa.Heap Go.Proofs.Ytdebokambldbbaa.Pile Go.Proofs.Ytdebokambldbbaa.PileI
set_option linter.unusedVariables false
set_option linter.unusedSectionVars false
set_option linter.unusedSimpArgs false
set_option maxRecDepth 8000
set_option maxHeartbeats 12800000

/-- the two lists of the first test -/
def M2l : Nat → List Itm := fun i => if i = 0 then [(2, 1)] else [(1, 2)]
theorem merged_pair : merged ltK (listsOf M2l 2) = [(1, 2), (2, 1)] := by decide
theorem total_pair : total (listsOf M2l 2) = 2 := by decide
def srt (b : Bool) (l : List Itm) : List Itm := if b = true then msort ltK l else l
theorem srt_len (b : Bool) (l : List Itm) : (srt b l).length = l.length := by unfold srt; split; rw [msort_len]; rfl
theorem merges_walk (A0 : Option Addr) (N c0 : Nat) (lv : Nat → Value) (ls : List (List Itm)) (sorted : Bool) (W : World) (hr : RV W A0 ((List.range N).map lv)) (hN : N = ls.length) (hNb : N ≤ 1048576) (ht : total ls ≤ 1048576)
    (hlv : ∀ i, i < N → ∃ A c, lv i = .slice A (nth ls i).length c ∧ RV W A ((nth ls i).flatMap Itm.cells) ∧ (nth ls i).length ≤ c) :
    Calls Try.prog 7 #[.slice A0 N c0, .bool sorted] W fun e W' => e = .returned (.bool true) ∧ Below W.heap.size W W' := by
  have H0 := Lib.hid (And.intro hr (And.intro hN (And.intro ht hlv)))
  clear hr hN ht hlv
  go_enter Try.func7, Try.ntmps7
  go_upto_region 2 with (first
    | (go_at_call 15; (with_reducible show Calls _ _ #[.int .i64 2, _] _ _); go_must (refine (it_any 2 1 _).mono ?_); rintro e w1 ⟨rfl, hb1⟩; unfold Itm.val)
    | ((with_reducible show wpList _ _ _ (⟨some 22, _, _, _, _, _⟩ :: _) _ _)
       go_must (refine wpList_build1 ET (o := ⟨some 22, _, _, _, _, _⟩) rfl _ rfl (by decide) (Itm.cells (2, 1)) rfl rfl _ rfl ?_)
       intro w2 hB2 hb2 hz2
       clear hz2)
    | (go_at_call 15; go_must (refine (it_any 1 2 _).mono ?_); rintro e w3 ⟨rfl, hb3⟩; unfold Itm.val)
    | ((with_reducible show wpList _ _ _ (⟨some 24, _, _, _, _, _⟩ :: _) _ _)
       go_must (refine wpList_build1 ET (o := ⟨some 24, _, _, _, _, _⟩) rfl _ rfl (by decide) (Itm.cells (1, 2)) rfl rfl _ rfl ?_)
       intro w4 hB4 hb4 hz4
       clear hz4)
    | ((with_reducible show wpList _ _ _ (⟨some 25, _, _, _, _, _⟩ :: _) _ _)
       go_must (refine wpList_new (o := ⟨some 25, _, _, _, _, _⟩) rfl (run_build2 E26 _ _ rfl (by decide) [.slice (some ⟨w1.heap.size, 0, none⟩) 1 1] [.slice (some ⟨w3.heap.size, 0, none⟩) 1 1] rfl rfl rfl rfl) ?_)
       intro w5 hB5 hb5 hz5
       clear hz5
       have cM := merge_any (th := thI) (lt := ltK) (ls := listsOf M2l 2) (G := fun i => if i = 0 then w1.heap.size else w3.heap.size) (c := fun _ => 1) swo_ltK w5 (some ⟨w4.heap.size, 0, none⟩) 2 2 (fun i => if i = 0 then .slice (some ⟨w1.heap.size, 0, none⟩) 1 1 else .slice (some ⟨w3.heap.size, 0, none⟩) 1 1) _ (by rw [listsOf_len]) hB5.rv
         (fun i hi => by rcases (show i = 0 ∨ i = 1 by omega) with rfl | rfl <;> exact ⟨⟨_, rfl⟩, fun _ => rfl⟩)
         (fun i hi _ => by
           have hi2 : i < 2 := by rw [← listsOf_len M2l 2]; exact hi
           rcases (show i = 0 ∨ i = 1 by omega) with rfl | rfl
           · exact ⟨((hB2.rv.below hb3).below hb4).below hb5, Nat.le_refl _⟩
           · exact ⟨hB4.rv.below hb5, Nat.le_refl _⟩) (fv_less w5 _) (by rw [total_pair]; omega) (by omega)
       rw [merged_pair] at cM)
    | (go_at_call 27; go_must (refine cM.mono ?_); rintro e w6 ⟨v6, rfl, ho6, hb6⟩))
  obtain ⟨A4, c4, rfl, _⟩ := own_slice ho6
  obtain ⟨g4, rfl, _, _⟩ := own_addr ho6 (by decide)
  obtain ⟨m1, m2⟩ := it_cells (own_rv ho6) (k := 0) (y := (1, 2)) rfl
  simp only [Nat.zero_mul, Nat.zero_add] at m1 m2
  have B4 := Lib.hid (gt (gt (gt (gt (gt hb1 hb2) hb3) hb4) hb5) hb6)
  have CC := Lib.hid (And.intro m1 m2)
  clear hb1 hb2 hb3 hb4 hb5 hb6 hB2 hB4 hB5 ho6 m1 m2 cM
  rename World => w6
  try simp only [Act.put, List.setIfInBounds_toArray, List.set_cons_succ, List.set_cons_zero]
  refine wp_region_qb (by kernel_rfl) (by kernel_rfl) ?_
  refine wq_val (o := ⟨some 27, _, _, _, _, _⟩) (v := .slice (some ⟨g4, 0, none⟩) 2 c4) rfl (fun w' hC => by go_simp) ?_
  simp only [Act.put, List.setIfInBounds_toArray, List.set_cons_succ, List.set_cons_zero]
  refine wq_val (o := ⟨some 28, _, _, _, _, _⟩) (v := .int .i64 2) rfl (fun w' hC => by go_simp) ?_
  simp only [Act.put, List.setIfInBounds_toArray, List.set_cons_succ, List.set_cons_zero]
  refine wq_val (o := ⟨some 29, _, _, _, _, _⟩) (v := .bool false) rfl (fun w' hC => by go_simp) ?_
  simp only [Act.put, List.setIfInBounds_toArray, List.set_cons_succ, List.set_cons_zero]
  refine wq_val (o := ⟨some 30, _, _, _, _, _⟩) (v := .bool false) rfl (fun w' hC => by go_simp) ?_
  simp only [Act.put, List.setIfInBounds_toArray, List.set_cons_succ, List.set_cons_zero]
  refine wq_val (o := ⟨some 31, _, _, _, _, _⟩) (v := .slice (some ⟨g4, 0, none⟩) 2 c4) rfl (fun w' hC => by go_simp) ?_
  simp only [Act.put, List.setIfInBounds_toArray, List.set_cons_succ, List.set_cons_zero]
  refine wq_val (o := ⟨some 32, _, _, _, _, _⟩) (v := .pointer (some ⟨g4, 0, none⟩)) rfl (fun w' hC => by go_simp) ?_
  simp only [Act.put, List.setIfInBounds_toArray, List.set_cons_succ, List.set_cons_zero]
  refine wq_val (o := ⟨some 33, _, _, _, _, _⟩) (v := .agg #[.int .i64 1, .int .i64 2]) rfl (fun w' hC => by have x1 := cell_grow CC.out.1 hC; have x2 := cell_grow CC.out.2 hC; go_simp) ?_
  simp only [Act.put, List.setIfInBounds_toArray, List.set_cons_succ, List.set_cons_zero]
  refine wq_call (f := 15) (args := #[.int .i64 1, .int .i64 2]) (v := Itm.val (1, 2)) rfl (fun w' _ => by go_simp) (fun w' hC => ?_) ?_
  · exact it_any 1 2 w'
  simp only [Act.put, List.setIfInBounds_toArray, List.set_cons_succ, List.set_cons_zero, Itm.val]
  refine wq_val (o := ⟨some 35, _, _, _, _, _⟩) (v := .bool false) rfl (fun w' hC => by go_simp) ?_
  simp only [Act.put, List.setIfInBounds_toArray, List.set_cons_succ, List.set_cons_zero]
  refine wq_val (o := ⟨some 36, _, _, _, _, _⟩) (v := .bool false) rfl (fun w' hC => by go_simp) ?_
  simp only [Act.put, List.setIfInBounds_toArray, List.set_cons_succ, List.set_cons_zero]
  refine wpQuiet_nil ?_
  intro w7 hC7
  have B7 := Lib.hid (gt B4.out hC7)
  clear B4 CC hC7
  rename World => w7
  obtain ⟨B, hB⟩ : ∃ B, B = w7.heap.size := ⟨_, rfl⟩
  have HB := Lib.hid hB
  clear hB
  go_wp2
  go_loopw [6, 7, 8, 39] (fun v6 v7 v8 v39 wr => ∃ (k : Nat) (M : Nat → List Itm) (mv : Nat → Value) (G : Nat → Nat), k ≤ N ∧ v39 = .int .i64 k ∧ Tri B wr v6 v7 v8 ((List.range k).map mv) ((List.range k).map (ivOf G M)) ((List.range k).map (fvOf G M)) ∧ Pt B wr k M mv G ∧ Below B w7 wr ∧ (∀ i, i < k → M i = srt sorted (nth ls i))) (fun _ _ _ v _ => N - (intOf v).toNat)
  case atStart => exact ⟨0, fun _ => [], fun _ => .slice none 0 0, fun _ => 0, Nat.zero_le _, rfl, ⟨World.ownsRow_nil _ _ _ _, World.ownsRow_nil _ _ _ _, World.ownsRow_nil _ _ _ _, Far.nil _ _ _, Far.nil _ _ _, Far.nil _ _ _⟩, ⟨fun i hi => absurd hi (Nat.not_lt_zero i), fun i hi => absurd hi (Nat.not_lt_zero i), fun i j hi => absurd hi (Nat.not_lt_zero i), fun i hi => absurd hi (Nat.not_lt_zero i)⟩, Below.refl _ _, fun i hi => absurd hi (Nat.not_lt_zero i)⟩
  case round =>
    obtain ⟨k, M, mv, G, hk, rfl, hT, hP, hb, hM⟩ := hrel
    by_cases hlt : k < N
    · have hbW : Below W.heap.size W wr := B7.out.trans (hb.mono (by rw [HB.out]; exact B7.out.size))
      obtain ⟨aL, rfl, hcL⟩ := rv_nat (H0.out.1.below hbW) hlt
      obtain ⟨Ak, ck, hvk, hrk, hck⟩ := H0.out.2.2.2 k hlt
      obtain ⟨lk, hlk⟩ : ∃ lk, lk = nth ls k := ⟨_, rfl⟩
      obtain ⟨nk, hnk⟩ : ∃ nk, nk = lk.length := ⟨_, rfl⟩
      rw [← hlk] at hvk hrk hck
      rw [← hnk] at hvk hck
      rw [hvk] at hcL
      have hBr : B ≤ wr.heap.size := by rw [HB.out]; exact hb.size
      have hnl : nk ≤ 1048576 := by
        have h1 := H0.out.2.2.1
        have h3 := tot_succ ls (k := k) (by rw [← H0.out.2.1]; exact hlt)
        have h4 := tot_le ls (k + 1)
        rw [hnk, hlk]
        omega
      have hki : (k : Int) < (N : Int) := by omega
      have hk0 : (0 : Int) ≤ (k : Int) := by omega
      have hRk : Rd B wr Ak (lk.flatMap Itm.cells) := ⟨hrk.below hbW, fun hx ad e => .inl (Nat.lt_of_lt_of_le (by subst e; exact rv_low hrk hx) (by rw [HB.out]; exact B7.out.size))⟩
      have Q := Lib.hid (And.intro hT (And.intro hP (And.intro hb (And.intro hM (And.intro hlt (And.intro hlk (And.intro hnk (And.intro hBr (And.intro hRk hck)))))))))
      clear hT hP hb hM hlt hk hbW hvk hrk hck hlk hnk hBr hRk
      cases sorted with
      | false =>
        go_upto_region 10 with fail
        obtain ⟨lS, hlS⟩ : ∃ lS, lS = lk := ⟨_, rfl⟩
        obtain ⟨As, hAs⟩ : ∃ As, As = Ak := ⟨_, rfl⟩
        obtain ⟨cs, hcs⟩ : ∃ cs, cs = ck := ⟨_, rfl⟩
        have q := Q.out
        rw [← hlS, ← hAs, ← hcs] at q
        rw [← hAs, ← hcs]
        have TS := Lib.hid q.1
        have PS := Lib.hid q.2.1
        have ES : Hid (Below B w7 wr) := Lib.hid q.2.2.1
        have MS : Hid ((∀ i, i < k → M i = srt false (nth ls i)) ∧ lS = srt false (nth ls k)) := Lib.hid ⟨q.2.2.2.1, q.2.2.2.2.2.1⟩
        have LT := Lib.hid q.2.2.2.2.1
        have NS : Hid (nk = lS.length) := Lib.hid q.2.2.2.2.2.2.1
        have DS : Hid (B ≤ wr.heap.size) := Lib.hid q.2.2.2.2.2.2.2.1
        have RS : Hid (Rd B wr As (lS.flatMap Itm.cells)) := Lib.hid q.2.2.2.2.2.2.2.2.1
        clear Q q hlS hAs hcs hcL
        have T0 := Lib.hid TS.out
        obtain ⟨gk, hgk⟩ : ∃ gk, gk = wr.heap.size := ⟨_, rfl⟩
        have HGK := Lib.hid hgk
        clear hgk
        go_wp2_with (first
          | (go_at_call 30; go_must (refine (put_any As nk cs lS wr RS.out.1 NS.out (by have := NS.out; omega)).mono ?_); rintro e w9 ⟨rfl, hB9, hb9⟩
             rw [← HGK.out] at hB9
             rw [← HGK.out]
             have T1 := Lib.hid (TS.out.below hb9)
             have hPa := PS.out.add hb9 DS.out (by rw [← HGK.out]; exact hB9) (v := .slice As nk cs) (by rw [← NS.out]) (RS.out.below hb9)
             rw [← HGK.out] at hPa
             have P1 := Lib.hid hPa
             have D1 := Lib.hid (Nat.le_trans DS.out hb9.size)
             have E1 := Lib.hid (ES.out.trans (hb9.mono DS.out))
             clear hB9 hb9 hPa)
          | ((with_reducible show wpList _ _ _ (⟨some 53, _, _, _, _, _⟩ :: _) _ _)
             go_must (refine wpList_build1 E26 (o := ⟨some 53, _, _, _, _, _⟩) rfl _ rfl (by decide) [.slice As nk cs] rfl rfl _ rfl ?_)
             intro wa1 hBa1 hba1 hza
             clear hza
             have Ta1 := Lib.hid (T1.out.below hba1)
             have Pa1 := Lib.hid (P1.out.below hba1))
          | ((with_reducible show wpList _ _ _ (⟨some 54, _, _, _, _, _⟩ :: _) _ _)
             go_must (refine wpList_app2 E26 (o := ⟨some 54, _, _, _, _, _⟩) rfl (.tmp 51) (.tmp 53) rfl B u6 ((List.range k).map mv).length _ rfl Ta1.out.o1 _ 1 1 [.slice As nk cs] rfl hBa1.rv rfl (fun u hu => by simp at hu; subst hu; rfl) (by simp; unfold maxLen; omega) (by simp; omega) (Nat.le_trans D1.out hba1.size) ?_)
             intro v1 wb1 ho hg hv hk
             have T2 := Lib.hid (Ta1.out.push1 ho hv hk)
             have P2 := Lib.hid (Pa1.out.grown Ta1.out.o1 hg (Nat.le_trans D1.out hba1.size))
             have D2 := Lib.hid (Nat.le_trans (Nat.le_trans D1.out hba1.size) hg.size)
             have E2 := Lib.hid (below_own (E1.out.trans (hba1.mono D1.out)) Ta1.out.o1 hg (Nat.le_trans D1.out hba1.size))
             clear hBa1 hba1 ho hg hv hk)
          | ((with_reducible show wpList _ _ _ (⟨some 57, _, _, _, _, _⟩ :: _) _ _)
             go_must (refine wpList_build1 E26 (o := ⟨some 57, _, _, _, _, _⟩) rfl _ rfl (by decide) [.slice (some ⟨gk, 0, none⟩) nk (nk + 40)] rfl rfl _ rfl ?_)
             intro wa2 hBa2 hba2 hza
             clear hza
             have Ta2 := Lib.hid (T2.out.below hba2)
             have Pa2 := Lib.hid (P2.out.below hba2))
          | ((with_reducible show wpList _ _ _ (⟨some 58, _, _, _, _, _⟩ :: _) _ _)
             go_must (refine wpList_app2 E26 (o := ⟨some 58, _, _, _, _, _⟩) rfl (.tmp 55) (.tmp 57) rfl B u7 ((List.range k).map (ivOf G M)).length _ rfl Ta2.out.o2 _ 1 1 [.slice (some ⟨gk, 0, none⟩) nk (nk + 40)] rfl hBa2.rv rfl (fun u hu => by simp at hu; subst hu; rfl) (by simp; unfold maxLen; omega) (by simp; omega) (Nat.le_trans D2.out hba2.size) ?_)
             intro v2 wb2 ho hg hv hk
             have T3 := Lib.hid (Ta2.out.push2 ho hv hk)
             have P3 := Lib.hid (Pa2.out.grown Ta2.out.o2 hg (Nat.le_trans D2.out hba2.size))
             have D3 := Lib.hid (Nat.le_trans (Nat.le_trans D2.out hba2.size) hg.size)
             have E3 := Lib.hid (below_own (E2.out.trans (hba2.mono D2.out)) Ta2.out.o2 hg (Nat.le_trans D2.out hba2.size))
             clear hBa2 hba2 ho hg hv hk)
          | ((with_reducible show wpList _ _ _ (⟨some 61, _, _, _, _, _⟩ :: _) _ _)
             go_must (refine wpList_build1 E26 (o := ⟨some 61, _, _, _, _, _⟩) rfl _ rfl (by decide) [.slice (some ⟨gk, 0, none⟩) (nk + 40) (nk + 40)] rfl rfl _ rfl ?_)
             intro wa3 hBa3 hba3 hza
             clear hza
             have Ta3 := Lib.hid (T3.out.below hba3)
             have Pa3 := Lib.hid (P3.out.below hba3))
          | ((with_reducible show wpList _ _ _ (⟨some 62, _, _, _, _, _⟩ :: _) _ _)
             go_must (refine wpList_app2 E26 (o := ⟨some 62, _, _, _, _, _⟩) rfl (.tmp 59) (.tmp 61) rfl B u8 ((List.range k).map (fvOf G M)).length _ rfl Ta3.out.o3 _ 1 1 [.slice (some ⟨gk, 0, none⟩) (nk + 40) (nk + 40)] rfl hBa3.rv rfl (fun u hu => by simp at hu; subst hu; rfl) (by simp; unfold maxLen; omega) (by simp; omega) (Nat.le_trans D3.out hba3.size) ?_)
             intro v3 wb3 ho hg hv hk
             have T4 := Lib.hid (Ta3.out.push3 ho hv hk)
             have P4 := Lib.hid (Pa3.out.grown Ta3.out.o3 hg (Nat.le_trans D3.out hba3.size))
             have D4 := Lib.hid (Nat.le_trans (Nat.le_trans D3.out hba3.size) hg.size)
             have E4 := Lib.hid (below_own (E3.out.trans (hba3.mono D3.out)) Ta3.out.o3 hg (Nat.le_trans D3.out hba3.size))
             clear hBa3 hba3 ho hg hv hk))
        have T5 := T4.out
        rw [map_snoc (g := fupd mv k (.slice As nk cs)) (fun _ => rfl), map_snoc (g := ivOf (fupd G k gk) (fupd M k lS)) (fun i => by rw [ivOf_fupd, NS.out]), map_snoc (g := fvOf (fupd G k gk) (fupd M k lS)) (fun i => by rw [fvOf_fupd, NS.out])] at T5
        have hMS : ∀ i, i < k + 1 → fupd M k lS i = srt false (nth ls i) := fun i hi => by
          by_cases e : i = k
          · subst e; rw [fupd_same]; exact MS.out.2
          · rw [fupd_ne _ _ e]; exact MS.out.1 i (by omega)
        have X := Lib.hid (And.intro T5 (And.intro P4.out (And.intro E4.out (And.intro hMS LT.out))))
        clear T5 hMS
        go_roundw
        case rel => exact ⟨k + 1, _, _, _, X.out.2.2.2.2, by go_num, X.out.1, X.out.2.1, X.out.2.2.1, X.out.2.2.2.1⟩
        case measure => exact meas_in X.out.2.2.2.2
      | true =>
        go_upto_region 10 with (first
          | (go_at_call 29; go_must (refine (refsort_any false nk Ak nk ck lk wr (Nat.le_refl _) Q.out.2.2.2.2.2.2.2.2.1.1 Q.out.2.2.2.2.2.2.1 Q.out.2.2.2.2.2.2.2.2.2 (by have := Q.out.2.2.2.2.2.2.1; omega)).mono ?_); rintro e w8 ⟨v8, rfl, ho8, hb8⟩))
        rw [← Q.out.2.2.2.2.2.2.1, ltF_false] at ho8
        obtain ⟨As, cs, rfl, _⟩ := own_slice ho8
        obtain ⟨lS, hlS⟩ : ∃ lS, lS = msort ltK lk := ⟨_, rfl⟩
        rw [← hlS] at ho8
        have q := Q.out
        have TS := Lib.hid (q.1.below hb8)
        have PS := Lib.hid (q.2.1.below hb8)
        have DS : Hid (B ≤ w8.heap.size) := Lib.hid (Nat.le_trans q.2.2.2.2.2.2.2.1 hb8.size)
        have ES : Hid (Below B w7 w8) := Lib.hid (q.2.2.1.trans (hb8.mono q.2.2.2.2.2.2.2.1))
        have MS : Hid ((∀ i, i < k → M i = srt true (nth ls i)) ∧ lS = srt true (nth ls k)) := Lib.hid ⟨q.2.2.2.1, by rw [hlS, q.2.2.2.2.2.1]; rfl⟩
        have LT := Lib.hid q.2.2.2.2.1
        have NS : Hid (nk = lS.length) := Lib.hid (by rw [hlS, msort_len]; exact q.2.2.2.2.2.2.1)
        have RS : Hid (Rd B w8 As (lS.flatMap Itm.cells)) := Lib.hid ⟨own_rv ho8, fun _ ad e => .inr (by
          rcases ho8.2 with ⟨h, _⟩ | ⟨g, cap, cur, hv, _, hg, _⟩
          · rw [e] at h; cases h
          · injection hv with h1; rw [e] at h1; injection h1 with h1; subst h1; exact ⟨cur, (0, 0), hg⟩)⟩
        clear Q q hlS hcL ho8 hb8
        have T0 := Lib.hid TS.out
        obtain ⟨gk, hgk⟩ : ∃ gk, gk = w8.heap.size := ⟨_, rfl⟩
        have HGK := Lib.hid hgk
        clear hgk
        go_wp2_with (first
          | (go_at_call 30; go_must (refine (put_any As nk cs lS w8 RS.out.1 NS.out (by have := NS.out; omega)).mono ?_); rintro e w9 ⟨rfl, hB9, hb9⟩
             rw [← HGK.out] at hB9
             rw [← HGK.out]
             have T1 := Lib.hid (TS.out.below hb9)
             have hPa := PS.out.add hb9 DS.out (by rw [← HGK.out]; exact hB9) (v := .slice As nk cs) (by rw [← NS.out]) (RS.out.below hb9)
             rw [← HGK.out] at hPa
             have P1 := Lib.hid hPa
             have D1 := Lib.hid (Nat.le_trans DS.out hb9.size)
             have E1 := Lib.hid (ES.out.trans (hb9.mono DS.out))
             clear hB9 hb9 hPa)
          | ((with_reducible show wpList _ _ _ (⟨some 53, _, _, _, _, _⟩ :: _) _ _)
             go_must (refine wpList_build1 E26 (o := ⟨some 53, _, _, _, _, _⟩) rfl _ rfl (by decide) [.slice As nk cs] rfl rfl _ rfl ?_)
             intro wa1 hBa1 hba1 hza
             clear hza
             have Ta1 := Lib.hid (T1.out.below hba1)
             have Pa1 := Lib.hid (P1.out.below hba1))
          | ((with_reducible show wpList _ _ _ (⟨some 54, _, _, _, _, _⟩ :: _) _ _)
             go_must (refine wpList_app2 E26 (o := ⟨some 54, _, _, _, _, _⟩) rfl (.tmp 51) (.tmp 53) rfl B u6 ((List.range k).map mv).length _ rfl Ta1.out.o1 _ 1 1 [.slice As nk cs] rfl hBa1.rv rfl (fun u hu => by simp at hu; subst hu; rfl) (by simp; unfold maxLen; omega) (by simp; omega) (Nat.le_trans D1.out hba1.size) ?_)
             intro v1 wb1 ho hg hv hk
             have T2 := Lib.hid (Ta1.out.push1 ho hv hk)
             have P2 := Lib.hid (Pa1.out.grown Ta1.out.o1 hg (Nat.le_trans D1.out hba1.size))
             have D2 := Lib.hid (Nat.le_trans (Nat.le_trans D1.out hba1.size) hg.size)
             have E2 := Lib.hid (below_own (E1.out.trans (hba1.mono D1.out)) Ta1.out.o1 hg (Nat.le_trans D1.out hba1.size))
             clear hBa1 hba1 ho hg hv hk)
          | ((with_reducible show wpList _ _ _ (⟨some 57, _, _, _, _, _⟩ :: _) _ _)
             go_must (refine wpList_build1 E26 (o := ⟨some 57, _, _, _, _, _⟩) rfl _ rfl (by decide) [.slice (some ⟨gk, 0, none⟩) nk (nk + 40)] rfl rfl _ rfl ?_)
             intro wa2 hBa2 hba2 hza
             clear hza
             have Ta2 := Lib.hid (T2.out.below hba2)
             have Pa2 := Lib.hid (P2.out.below hba2))
          | ((with_reducible show wpList _ _ _ (⟨some 58, _, _, _, _, _⟩ :: _) _ _)
             go_must (refine wpList_app2 E26 (o := ⟨some 58, _, _, _, _, _⟩) rfl (.tmp 55) (.tmp 57) rfl B u7 ((List.range k).map (ivOf G M)).length _ rfl Ta2.out.o2 _ 1 1 [.slice (some ⟨gk, 0, none⟩) nk (nk + 40)] rfl hBa2.rv rfl (fun u hu => by simp at hu; subst hu; rfl) (by simp; unfold maxLen; omega) (by simp; omega) (Nat.le_trans D2.out hba2.size) ?_)
             intro v2 wb2 ho hg hv hk
             have T3 := Lib.hid (Ta2.out.push2 ho hv hk)
             have P3 := Lib.hid (Pa2.out.grown Ta2.out.o2 hg (Nat.le_trans D2.out hba2.size))
             have D3 := Lib.hid (Nat.le_trans (Nat.le_trans D2.out hba2.size) hg.size)
             have E3 := Lib.hid (below_own (E2.out.trans (hba2.mono D2.out)) Ta2.out.o2 hg (Nat.le_trans D2.out hba2.size))
             clear hBa2 hba2 ho hg hv hk)
          | ((with_reducible show wpList _ _ _ (⟨some 61, _, _, _, _, _⟩ :: _) _ _)
             go_must (refine wpList_build1 E26 (o := ⟨some 61, _, _, _, _, _⟩) rfl _ rfl (by decide) [.slice (some ⟨gk, 0, none⟩) (nk + 40) (nk + 40)] rfl rfl _ rfl ?_)
             intro wa3 hBa3 hba3 hza
             clear hza
             have Ta3 := Lib.hid (T3.out.below hba3)
             have Pa3 := Lib.hid (P3.out.below hba3))
          | ((with_reducible show wpList _ _ _ (⟨some 62, _, _, _, _, _⟩ :: _) _ _)
             go_must (refine wpList_app2 E26 (o := ⟨some 62, _, _, _, _, _⟩) rfl (.tmp 59) (.tmp 61) rfl B u8 ((List.range k).map (fvOf G M)).length _ rfl Ta3.out.o3 _ 1 1 [.slice (some ⟨gk, 0, none⟩) (nk + 40) (nk + 40)] rfl hBa3.rv rfl (fun u hu => by simp at hu; subst hu; rfl) (by simp; unfold maxLen; omega) (by simp; omega) (Nat.le_trans D3.out hba3.size) ?_)
             intro v3 wb3 ho hg hv hk
             have T4 := Lib.hid (Ta3.out.push3 ho hv hk)
             have P4 := Lib.hid (Pa3.out.grown Ta3.out.o3 hg (Nat.le_trans D3.out hba3.size))
             have D4 := Lib.hid (Nat.le_trans (Nat.le_trans D3.out hba3.size) hg.size)
             have E4 := Lib.hid (below_own (E3.out.trans (hba3.mono D3.out)) Ta3.out.o3 hg (Nat.le_trans D3.out hba3.size))
             clear hBa3 hba3 ho hg hv hk))
        have T5 := T4.out
        rw [map_snoc (g := fupd mv k (.slice As nk cs)) (fun _ => rfl), map_snoc (g := ivOf (fupd G k gk) (fupd M k lS)) (fun i => by rw [ivOf_fupd, NS.out]), map_snoc (g := fvOf (fupd G k gk) (fupd M k lS)) (fun i => by rw [fvOf_fupd, NS.out])] at T5
        have hMS : ∀ i, i < k + 1 → fupd M k lS i = srt true (nth ls i) := fun i hi => by
          by_cases e : i = k
          · subst e; rw [fupd_same]; exact MS.out.2
          · rw [fupd_ne _ _ e]; exact MS.out.1 i (by omega)
        have X := Lib.hid (And.intro T5 (And.intro P4.out (And.intro E4.out (And.intro hMS LT.out))))
        clear T5 hMS
        go_roundw
        case rel => exact ⟨k + 1, _, _, _, X.out.2.2.2.2, by go_num, X.out.1, X.out.2.1, X.out.2.2.1, X.out.2.2.2.1⟩
        case measure => exact meas_in X.out.2.2.2.2
    · obtain rfl : k = N := by omega
      obtain ⟨A6, n6, c6, rfl, hn6⟩ := own_form hT.o1
      obtain ⟨A7, n7, c7, rfl, hn7⟩ := own_form hT.o2
      obtain ⟨A8, n8, c8, rfl, hn8⟩ := own_form hT.o3
      have r6 := own_rvk hT.o1
      have r7 := own_rvk hT.o2
      have r8 := own_rvk hT.o3
      obtain rfl : n6 = k := by simpa using hn6
      obtain rfl : n7 = n6 := by simpa using hn7
      obtain rfl : n8 = n7 := by simpa using hn8
      rename_i N
      have hbW : Below W.heap.size W wr := B7.out.trans (hb.mono (by rw [HB.out]; exact B7.out.size))
      have hBr : B ≤ wr.heap.size := by rw [HB.out]; exact hb.size
      obtain ⟨Ms, hMs⟩ : ∃ Ms, Ms = listsOf M n8 := ⟨_, rfl⟩
      have htM : total Ms ≤ 1048576 := by
        rw [hMs, total_of M H0.out.2.1 (fun i hi => by rw [hM i hi, srt_len])]
        exact H0.out.2.2.1
      have hLl : ∀ i, i < n8 → (M i).length ≤ 1048576 := fun i hi => by
        have h1 := H0.out.2.2.1
        have h3 := tot_succ ls (k := i) (by rw [← H0.out.2.1]; exact hi)
        have h4 := tot_le ls (i + 1)
        rw [hM i hi, srt_len]
        omega
      have Q := Lib.hid (And.intro hP (And.intro r6 (And.intro r7 (And.intro r8 (And.intro hbW (And.intro hBr (And.intro hMs (And.intro htM (And.intro hLl (And.intro hT.o2 (show W.heap.size ≤ B by rw [HB.out]; exact B7.out.size)))))))))))
      clear hT hP hb hM hlt hk r6 r7 r8 hbW hBr hMs htM hLl hn6 hn7 hn8 B7 HB
      rename World => w8
      have cI : ∀ w, Below w8.heap.size w8 w → ∀ i, i < n8 → RV w (some ⟨G i, 0, none⟩) ((M i).flatMap Itm.cells) := fun w h i hi => (Q.out.1.below h).inRV hi
      have cR := fun (flat : Bool) (w : World) (h : Below w8.heap.size w8 w) => refmerge_any flat w A6 n8 c6 mv Ms (by rw [Q.out.2.2.2.2.2.2.1, listsOf_len]) hNb (Q.out.2.1.below h) (by rw [Q.out.2.2.2.2.2.2.1]; exact (Q.out.1.below h).lists) (by have := Q.out.2.2.2.2.2.2.2.1; omega)
      have cM := fun (w : World) (h : Below w8.heap.size w8 w) => merge_I swo_ltK w (fv_less w fun _ => True) A7 n8 c7 M G (Q.out.2.2.1.below h) (cI w h) hNb (by rw [← Q.out.2.2.2.2.2.2.1]; have := Q.out.2.2.2.2.2.2.2.1; omega)
      have cN := fun (w : World) (h : Below w8.heap.size w8 w) => merge_I swo_flat w (fv_nil w) A7 n8 c7 M G (Q.out.2.2.1.below h) (cI w h) hNb (by rw [← Q.out.2.2.2.2.2.2.1]; have := Q.out.2.2.2.2.2.2.2.1; omega)
      have cR0 := cR false
      have cR1 := cR true
      clear cR
      rw [← Q.out.2.2.2.2.2.2.1] at cM cN
      rw [ltF_false] at cR0
      rw [ltF_true] at cR1
      obtain ⟨X1, hX1⟩ : ∃ X1, X1 = merged ltK Ms := ⟨_, rfl⟩
      obtain ⟨X0, hX0⟩ : ∃ X0, X0 = merged (fun _ _ => false) Ms := ⟨_, rfl⟩
      obtain ⟨n1, hn1⟩ : ∃ n1, n1 = X1.length := ⟨_, rfl⟩
      obtain ⟨n0, hn0⟩ : ∃ n0, n0 = X0.length := ⟨_, rfl⟩
      rw [← hX1, ← hn1] at cM cR0
      rw [← hX0, ← hn0] at cN cR1
      have hl1 : n1 ≤ 1048576 := by rw [hn1, hX1]; exact Nat.le_trans (merged_len _ _) Q.out.2.2.2.2.2.2.2.1
      have hl0 : n0 ≤ 1048576 := by rw [hn0, hX0]; exact Nat.le_trans (merged_len _ _) Q.out.2.2.2.2.2.2.2.1
      have C := Lib.hid (And.intro cM (And.intro cN (And.intro cR0 cR1)))
      have L := Lib.hid (And.intro hn1 (And.intro hn0 hX1))
      clear cI cM cN cR0 cR1 hX1 hX0 hn1 hn0
      go_upto_region 14 with (first
        | (go_at_call 31; go_must (refine (C.out.2.2.1 w8 (gr w8)).mono ?_); rintro e w13 ⟨v13, rfl, ho13, hb13⟩))
      obtain ⟨Aw, cw, rfl, _⟩ := own_slice ho13
      have B13 := Lib.hid hb13
      have W13 := Lib.hid ho13
      clear hb13 ho13
      go_upto_region 15 with (first
        | (go_at_call 27; go_must (refine (C.out.1 w13 B13.out).mono ?_); rintro e w14 ⟨va, rfl, hoa, hba⟩))
      go_upto_region 16 with (first
        | (go_at_call 27; go_must (refine (C.out.2.1 w14 (gt B13.out hba)).mono ?_); rintro e w15 ⟨vf, rfl, hof, hbf⟩))
      go_upto_region 17 with (first
        | (go_at_call 27; go_must (refine (C.out.1 w15 (gt (gt B13.out hba) hbf)).mono ?_); rintro e w16 ⟨vb, rfl, hob, hbb⟩))
      obtain ⟨Aa, ca, rfl, _⟩ := own_slice hoa
      obtain ⟨Af, cf, rfl, _⟩ := own_slice hof
      obtain ⟨Ab, cb, rfl, _⟩ := own_slice hob
      have hL0 : All w13 w13 w13.heap.size 0 (fun _ => .slice none 0 0) (fun _ => 0) (fun _ => []) := ⟨fun i hi => absurd hi (Nat.not_lt_zero i), fun i j hi => absurd hi (Nat.not_lt_zero i), gr w13, fun i hi => absurd hi (Nat.not_lt_zero i)⟩
      have hL1 := ((hL0.add (Nat.le_refl _) hba hoa (by omega)).add (Nat.le_refl _) hbf hof (by omega)).add (Nat.le_refl _) hbb hob (by omega)
      have S := Lib.hid (And.intro hL1 (And.intro ((own_rv hoa).below (gt hbf hbb)) (And.intro ((own_rv hof).below hbb) (own_rv hob))))
      clear hL0 hL1 hoa hof hob hba hbf hbb
      go_upto_region 19 with (first
        | (go_at_call 32; (with_reducible show Calls _ _ #[.slice Aa _ _, _] _ _); go_must (refine (same_items Aa Aw n1 ca cw X1 w16 S.out.2.1 ((own_rv W13.out).below S.out.1.low) L.out.1 (by have := L.out.1; omega)).mono ?_); rintro e w17 ⟨rfl, hb17⟩)
        | (go_at_call 32; (with_reducible show Calls _ _ #[.slice Ab _ _, _] _ _); go_must (refine (same_items Ab Aw n1 cb cw X1 w17 (S.out.2.2.2.below hb17) ((own_rv W13.out).below (gt S.out.1.low hb17)) L.out.1 (by have := L.out.1; omega)).mono ?_); rintro e w18 ⟨rfl, hb18⟩)
        | (go_at_call 31; go_must (refine (C.out.2.2.2 w18 (gt B13.out (gt S.out.1.low (gt hb17 hb18)))).mono ?_); rintro e w19 ⟨v19, rfl, ho19, hb19⟩
           obtain ⟨Ar, cr, rfl, _⟩ := own_slice ho19
           have R19 := Lib.hid (own_rv ho19)
           clear ho19)
        | (go_at_call 32; (with_reducible show Calls _ _ #[.slice Af _ _, _] _ _); go_must (refine (same_items Af Ar n0 cf cr X0 w19 (S.out.2.2.1.below (gt (gt hb17 hb18) hb19)) R19.out L.out.2.1 (by have := L.out.2.1; omega)).mono ?_); rintro e w20 ⟨rfl, hb20⟩))
      go_upto_region 21 with (first
        | ((with_reducible show wpList _ _ _ (⟨some 99, _, _, _, _, _⟩ :: _) _ _)
           go_must (refine wpList_new (o := ⟨some 99, _, _, _, _, _⟩) rfl (run_build3 E26 (.tmp 96) (.tmp 97) (.tmp 98) rfl (by decide) [.slice Aa n1 ca] [.slice Af n0 cf] [.slice Ab n1 cb] rfl rfl rfl rfl rfl rfl) ?_)
           intro w21 hB21 hb21 hz21
           clear hz21
           have hA21 := S.out.1.below (Nat.le_refl _) (gt (gt (gt hb17 hb18) (gt hb19 hb20)) hb21)
           have hO21 : w21.ownsRow w13.heap.size TT 1 (.slice (some ⟨w20.heap.size, 0, none⟩) 3 3) 3 ((List.range 3).map (fupd (fupd (fupd (fun _ => (.slice none 0 0 : Value)) 0 (.slice Aa n1 ca)) (0 + 1) (.slice Af n0 cf)) (0 + 1 + 1) (.slice Ab n1 cb))) :=
             hB21.own (gt S.out.1.low (gt (gt hb17 hb18) (gt hb19 hb20))).size (by unfold maxLen; simp)
           obtain ⟨gL, cL, cs, hva, hBl, hcs, hAp⟩ := hA21.ap0 hO21 (by omega)
           injection hva with hv1 hv2 hv3
           injection hv1 with hv1
           injection hv1 with hv1
           subst hv1 hv3
           have AP := apart_items w20.heap.size 3 3 w13.heap.size cs _ _ _ _ w21 (by omega) hBl hcs hAp hA21.len hA21.low.size
           have LO := Lib.hid hA21.low
           clear hB21 hb21 hA21 hO21 hBl hcs hAp hb17 hb18 hb19 hb20)
        | (go_at_call 33; go_must (refine AP.mono ?_); rintro e w22 ⟨rfl, hg22⟩))
      have F22 := Lib.hid (gt B13.out (hg22.low LO.out LO.out.size (fun _ h => h)))
      have F13 := Lib.hid (hg22.low LO.out LO.out.size (fun _ h => h))
      clear hg22 LO S R19
      try clear AP
      rename World => w22
      go_wp2
      go_loopw [104] (fun v wr => ∃ k : Nat, k ≤ n8 ∧ v = .int .i64 k ∧ Below w22.heap.size w22 wr) (fun v _ => n8 - (intOf v).toNat)
      case atStart => exact ⟨0, by omega, rfl, gr _⟩
      case round =>
        obtain ⟨k, hk, rfl, hb⟩ := hrel
        by_cases hlt : k < n8
        · have hW : Below w8.heap.size w8 wr := gt F22.out hb
          obtain ⟨a8, rfl, q8⟩ := rv_nat (Q.out.2.2.2.1.below hW) hlt
          obtain ⟨a6, rfl, q6⟩ := rv_nat (Q.out.2.1.below hW) hlt
          obtain ⟨a7, rfl, q7⟩ := rv_nat (Q.out.2.2.1.below hW) hlt
          obtain ⟨Am, cm, hmv, hrm⟩ := (Q.out.1.below hW).mine k hlt
          have hBk := (Q.out.1.below hW).blk k hlt
          have hIk := (Q.out.1.below hW).inRV hlt
          have hlk := Q.out.2.2.2.2.2.2.2.2.1 k hlt
          obtain ⟨gk, hgk⟩ : ∃ gk, gk = G k := ⟨_, rfl⟩
          obtain ⟨lk, hlk0⟩ : ∃ lk, lk = M k := ⟨_, rfl⟩
          obtain ⟨nk, hnk⟩ : ∃ nk, nk = lk.length := ⟨_, rfl⟩
          rw [hmv] at q6
          rw [show fvOf G M k = .slice (some ⟨gk, 0, none⟩) (nk + 40) (nk + 40) by rw [hnk, hlk0, hgk]; rfl] at q8
          rw [show ivOf G M k = .slice (some ⟨gk, 0, none⟩) nk (nk + 40) by rw [hnk, hlk0, hgk]; rfl] at q7
          rw [← hlk0, ← hnk] at q6 hlk
          rw [← hlk0] at hrm hBk hIk
          rw [← hgk] at hBk hIk
          have f1 := fun (w : World) (h : Below wr.heap.size wr w) => cell_grow q8 h
          have f2 := fun (w : World) (h : Below wr.heap.size wr w) => cell_grow q6 h
          have f3 := fun (w : World) (h : Below wr.heap.size wr w) => cell_grow q7 h
          have f4 := fun (w : World) (h : Below wr.heap.size wr w) => whole_any ⟨gk, 0, none⟩ Am nk (nk + 40) cm (nk + 40) lk w ((hBk.grow h).rv) (hrm.1.below h) hnk rfl (Nat.le_refl _) (by omega)
          have f5 := fun (w : World) (h : Below wr.heap.size wr w) => same_items (some ⟨gk, 0, none⟩) Am nk (nk + 40) cm lk w (hIk.below h) (hrm.1.below h) hnk (by omega)
          have CC := Lib.hid (And.intro f1 (And.intro f2 (And.intro f3 (And.intro f4 f5))))
          have Z := Lib.hid (And.intro hlt hb)
          have hki : (k : Int) < (n8 : Int) := by omega
          have hk0 : (0 : Int) ≤ (k : Int) := by omega
          clear hW q8 q6 q7 hmv hrm hBk hIk hgk hlk0 hnk f1 f2 f3 f4 f5 hlt hb hk
          go_wp2
          refine wp_region_qb (by kernel_rfl) (by kernel_rfl) ?_
          refine wq_val (o := ⟨some 107, _, _, _, _, _⟩) (v := .slice (some a8) n8 c8) rfl (fun w' hC => by go_simp) ?_
          simp only [Act.put, List.setIfInBounds_toArray, List.set_cons_succ, List.set_cons_zero]
          refine wq_val (o := ⟨some 108, _, _, _, _, _⟩) (v := .int .i64 k) rfl (fun w' hC => by go_simp) ?_
          simp only [Act.put, List.setIfInBounds_toArray, List.set_cons_succ, List.set_cons_zero]
          refine wq_val (o := ⟨some 109, _, _, _, _, _⟩) (v := .pointer (some (a8.add k))) rfl (fun w' hC => by go_simp) ?_
          simp only [Act.put, List.setIfInBounds_toArray, List.set_cons_succ, List.set_cons_zero]
          refine wq_val (o := ⟨some 110, _, _, _, _, _⟩) (v := .slice (some ⟨gk, 0, none⟩) (nk + 40) (nk + 40)) rfl (fun w' hC => by have x1 := CC.out.1 w' hC; go_simp) ?_
          simp only [Act.put, List.setIfInBounds_toArray, List.set_cons_succ, List.set_cons_zero]
          refine wq_val (o := ⟨some 111, _, _, _, _, _⟩) (v := .slice (some a6) n8 c6) rfl (fun w' hC => by go_simp) ?_
          simp only [Act.put, List.setIfInBounds_toArray, List.set_cons_succ, List.set_cons_zero]
          refine wq_val (o := ⟨some 112, _, _, _, _, _⟩) (v := .int .i64 k) rfl (fun w' hC => by go_simp) ?_
          simp only [Act.put, List.setIfInBounds_toArray, List.set_cons_succ, List.set_cons_zero]
          refine wq_val (o := ⟨some 113, _, _, _, _, _⟩) (v := .pointer (some (a6.add k))) rfl (fun w' hC => by go_simp) ?_
          simp only [Act.put, List.setIfInBounds_toArray, List.set_cons_succ, List.set_cons_zero]
          refine wq_val (o := ⟨some 114, _, _, _, _, _⟩) (v := .slice Am nk cm) rfl (fun w' hC => by have x1 := CC.out.2.1 w' hC; go_simp) ?_
          simp only [Act.put, List.setIfInBounds_toArray, List.set_cons_succ, List.set_cons_zero]
          refine wq_call (f := 34) (args := #[.slice (some ⟨gk, 0, none⟩) (nk + 40) (nk + 40), .slice Am nk cm]) (v := .bool true) rfl (fun w' _ => by go_simp) (fun w' hC => CC.out.2.2.2.1 w' hC) ?_
          simp only [Act.put, List.setIfInBounds_toArray, List.set_cons_succ, List.set_cons_zero]
          refine wq_val (o := ⟨some 116, _, _, _, _, _⟩) (v := .bool false) rfl (fun w' hC => by go_simp) ?_
          simp only [Act.put, List.setIfInBounds_toArray, List.set_cons_succ, List.set_cons_zero]
          refine wq_val (o := ⟨some 117, _, _, _, _, _⟩) (v := .bool false) rfl (fun w' hC => by go_simp) ?_
          simp only [Act.put, List.setIfInBounds_toArray, List.set_cons_succ, List.set_cons_zero]
          refine wq_val (o := ⟨some 118, _, _, _, _, _⟩) (v := .slice (some a7) n8 c7) rfl (fun w' hC => by go_simp) ?_
          simp only [Act.put, List.setIfInBounds_toArray, List.set_cons_succ, List.set_cons_zero]
          refine wq_val (o := ⟨some 119, _, _, _, _, _⟩) (v := .int .i64 k) rfl (fun w' hC => by go_simp) ?_
          simp only [Act.put, List.setIfInBounds_toArray, List.set_cons_succ, List.set_cons_zero]
          refine wq_val (o := ⟨some 120, _, _, _, _, _⟩) (v := .pointer (some (a7.add k))) rfl (fun w' hC => by go_simp) ?_
          simp only [Act.put, List.setIfInBounds_toArray, List.set_cons_succ, List.set_cons_zero]
          refine wq_val (o := ⟨some 121, _, _, _, _, _⟩) (v := .slice (some ⟨gk, 0, none⟩) nk (nk + 40)) rfl (fun w' hC => by have x1 := CC.out.2.2.1 w' hC; go_simp) ?_
          simp only [Act.put, List.setIfInBounds_toArray, List.set_cons_succ, List.set_cons_zero]
          refine wq_val (o := ⟨some 122, _, _, _, _, _⟩) (v := .slice (some a6) n8 c6) rfl (fun w' hC => by go_simp) ?_
          simp only [Act.put, List.setIfInBounds_toArray, List.set_cons_succ, List.set_cons_zero]
          refine wq_val (o := ⟨some 123, _, _, _, _, _⟩) (v := .int .i64 k) rfl (fun w' hC => by go_simp) ?_
          simp only [Act.put, List.setIfInBounds_toArray, List.set_cons_succ, List.set_cons_zero]
          refine wq_val (o := ⟨some 124, _, _, _, _, _⟩) (v := .pointer (some (a6.add k))) rfl (fun w' hC => by go_simp) ?_
          simp only [Act.put, List.setIfInBounds_toArray, List.set_cons_succ, List.set_cons_zero]
          refine wq_val (o := ⟨some 125, _, _, _, _, _⟩) (v := .slice Am nk cm) rfl (fun w' hC => by have x1 := CC.out.2.1 w' hC; go_simp) ?_
          simp only [Act.put, List.setIfInBounds_toArray, List.set_cons_succ, List.set_cons_zero]
          refine wq_call (f := 32) (args := #[.slice (some ⟨gk, 0, none⟩) nk (nk + 40), .slice Am nk cm]) (v := .bool true) rfl (fun w' _ => by go_simp) (fun w' hC => CC.out.2.2.2.2 w' hC) ?_
          simp only [Act.put, List.setIfInBounds_toArray, List.set_cons_succ, List.set_cons_zero]
          refine wq_val (o := ⟨some 127, _, _, _, _, _⟩) (v := .bool false) rfl (fun w' hC => by go_simp) ?_
          simp only [Act.put, List.setIfInBounds_toArray, List.set_cons_succ, List.set_cons_zero]
          refine wq_val (o := ⟨some 128, _, _, _, _, _⟩) (v := .bool false) rfl (fun w' hC => by go_simp) ?_
          simp only [Act.put, List.setIfInBounds_toArray, List.set_cons_succ, List.set_cons_zero]
          refine wpQuiet_nil ?_
          intro w5 hC5
          have X := Lib.hid (And.intro Z.out.1 (gt Z.out.2 hC5))
          clear hC5 Z CC
          go_wp2
          go_roundw
          case rel => exact ⟨k + 1, X.out.1, by go_num, X.out.2⟩
          case measure => exact meas_in X.out.1
        · obtain rfl : k = n8 := by omega
          have F23 := Lib.hid (And.intro (gt F22.out hb) (gt F13.out hb))
          have hki : ¬ (k : Int) < (k : Int) := by omega
          clear hb hlt hk F22 F13
          rename World => w23
          go_upto_region 28 with (first
            | (go_at_call 27; go_must (refine (C.out.1 w23 F23.out.1).mono ?_); rintro e w24 ⟨vc, rfl, hoc, hbc⟩))
          obtain ⟨Ac, cc, rfl, _⟩ := own_slice hoc
          have F24 := Lib.hid (And.intro (gt F23.out.1 hbc) (And.intro (gt F23.out.2 hbc) (And.intro hoc F23.out.1.size)))
          have O7 := Lib.hid (own_below'' Q.out.2.2.2.2.2.2.2.2.2.1 F24.out.1)
          have GL : ∀ i, i < k → G i < w8.heap.size := fun i hi => (Q.out.1.blk i hi).lt
          have HGL := Lib.hid GL
          have N0 := Lib.hid (show Ng w24 w24 k M G 0 0 from ⟨fun i hi => by rw [yn_zero]; exact (Q.out.1.below F24.out.1).blk i hi, GrownS.refl _ _⟩)
          clear hoc hbc F23 GL
          rename World => w24
          go_wp2
          go_loopw [134] (fun v wr => ∃ a : Nat, a ≤ k ∧ v = .int .i64 a ∧ Ng w24 wr k M G a 0) (fun v _ => k - (intOf v).toNat)
          case atStart => exact ⟨0, by omega, rfl, N0.out⟩
          case round =>
            obtain ⟨a, ha, rfl, hN⟩ := hrel
            by_cases hlt : a < k
            · have r7 := own_rvk (hN.gr.own O7.out (fun b hb ⟨i, hi, e⟩ => own_ne_blk O7.out (N0.out.blk i hi) (by decide) (by rw [← e]; exact hb)))
              obtain ⟨a7, rfl, q7⟩ := rv_nat r7 hlt
              have hlk := Q.out.2.2.2.2.2.2.2.2.1 a hlt
              obtain ⟨gk, hgk⟩ : ∃ gk, gk = G a := ⟨_, rfl⟩
              obtain ⟨nk, hnk⟩ : ∃ nk, nk = (M a).length := ⟨_, rfl⟩
              rw [show ivOf G M a = .slice (some ⟨gk, 0, none⟩) nk (nk + 40) by rw [hnk, hgk]; rfl] at q7
              rw [← hnk] at hlk
              have hai : (a : Int) < (k : Int) := by omega
              have ha0 : (0 : Int) ≤ (a : Int) := by omega
              have Z := Lib.hid (And.intro hN (And.intro hlt (And.intro hgk hnk)))
              clear hN hlt ha r7 hgk hnk
              go_wp2
              go_loopw [142] (fun v wr2 => ∃ j : Nat, j ≤ nk ∧ v = .int .i64 j ∧ Ng w24 wr2 k M G a j) (fun v _ => nk - (intOf v).toNat)
              case atStart => exact ⟨0, by omega, rfl, Z.out.1⟩
              case round =>
                obtain ⟨j, hj, rfl, hN⟩ := hrel
                by_cases hlj : j < nk
                · have r7 := own_rvk (hN.gr.own O7.out (fun b hb ⟨i, hi, e⟩ => own_ne_blk O7.out (N0.out.blk i hi) (by decide) (by rw [← e]; exact hb)))
                  obtain ⟨a7', e7, q7⟩ := rv_nat r7 Z.out.2.1
                  injection e7 with e7
                  subst e7
                  rw [show ivOf G M a = .slice (some ⟨gk, 0, none⟩) nk (nk + 40) by rw [Z.out.2.2.2, Z.out.2.2.1]; rfl] at q7
                  have hjl : j < (M a).length := by rw [← Z.out.2.2.2]; exact hlj
                  have hB := hN.blk a Z.out.2.1
                  have hx : (Yn M a j a ++ List.replicate 40 mark)[j]? = some (M a)[j] := by
                    rw [yn_self, List.getElem?_append_left (by rw [ngd_len]; exact hjl)]
                    exact ngd_at _ hjl
                  have m1 := (it_cells hB.rv hx).1
                  obtain ⟨x, hxe⟩ : ∃ x, x = (M a)[j] := ⟨_, rfl⟩
                  rw [← hxe, ← Z.out.2.2.1] at m1
                  have hst := fun (w : World) (h : Below wr.heap.size wr w) => (hN.below h).step Q.out.1.ne Z.out.2.1 hjl
                  rw [← hxe, ← Z.out.2.2.1] at hst
                  have hfz := fun (w : World) (h : Below wr.heap.size wr w) => (hB.grow h).frozen (j * 2)
                  rw [← Z.out.2.2.1] at hfz
                  have X := Lib.hid (And.intro hst (And.intro hfz hlj))
                  have hji : (j : Int) < (nk : Int) := by omega
                  have hj0 : (0 : Int) ≤ (j : Int) := by omega
                  clear hN hj hlj r7 hjl hB hx hxe hst hfz
                  go_wp2
                  refine wp_region_qbT 14 (by kernel_rfl) (by kernel_rfl) ?_
                  simp only [List.take_succ_cons, List.take_zero, List.drop_succ_cons, List.drop_zero]
                  refine wq_val (o := ⟨some 145, _, _, _, _, _⟩) (v := .slice (some a7) k c7) rfl (fun w' hC => by go_simp) ?_
                  simp only [Act.put, List.setIfInBounds_toArray, List.set_cons_succ, List.set_cons_zero]
                  refine wq_val (o := ⟨some 146, _, _, _, _, _⟩) (v := .int .i64 a) rfl (fun w' hC => by go_simp) ?_
                  simp only [Act.put, List.setIfInBounds_toArray, List.set_cons_succ, List.set_cons_zero]
                  refine wq_val (o := ⟨some 147, _, _, _, _, _⟩) (v := .pointer (some (a7.add a))) rfl (fun w' hC => by go_simp) ?_
                  simp only [Act.put, List.setIfInBounds_toArray, List.set_cons_succ, List.set_cons_zero]
                  refine wq_val (o := ⟨some 148, _, _, _, _, _⟩) (v := .slice (some ⟨gk, 0, none⟩) nk (nk + 40)) rfl (fun w' hC => by have x1 := cell_grow q7 hC; go_simp) ?_
                  simp only [Act.put, List.setIfInBounds_toArray, List.set_cons_succ, List.set_cons_zero]
                  refine wq_val (o := ⟨some 149, _, _, _, _, _⟩) (v := .int .i64 j) rfl (fun w' hC => by go_simp) ?_
                  simp only [Act.put, List.setIfInBounds_toArray, List.set_cons_succ, List.set_cons_zero]
                  refine wq_val (o := ⟨some 150, _, _, _, _, _⟩) (v := .slice (some a7) k c7) rfl (fun w' hC => by go_simp) ?_
                  simp only [Act.put, List.setIfInBounds_toArray, List.set_cons_succ, List.set_cons_zero]
                  refine wq_val (o := ⟨some 151, _, _, _, _, _⟩) (v := .int .i64 a) rfl (fun w' hC => by go_simp) ?_
                  simp only [Act.put, List.setIfInBounds_toArray, List.set_cons_succ, List.set_cons_zero]
                  refine wq_val (o := ⟨some 152, _, _, _, _, _⟩) (v := .pointer (some (a7.add a))) rfl (fun w' hC => by go_simp) ?_
                  simp only [Act.put, List.setIfInBounds_toArray, List.set_cons_succ, List.set_cons_zero]
                  refine wq_val (o := ⟨some 153, _, _, _, _, _⟩) (v := .slice (some ⟨gk, 0, none⟩) nk (nk + 40)) rfl (fun w' hC => by have x1 := cell_grow q7 hC; go_simp) ?_
                  simp only [Act.put, List.setIfInBounds_toArray, List.set_cons_succ, List.set_cons_zero]
                  refine wq_val (o := ⟨some 154, _, _, _, _, _⟩) (v := .int .i64 j) rfl (fun w' hC => by go_simp) ?_
                  simp only [Act.put, List.setIfInBounds_toArray, List.set_cons_succ, List.set_cons_zero]
                  refine wq_val (o := ⟨some 155, _, _, _, _, _⟩) (v := .pointer (some ⟨gk, j * 2, none⟩)) rfl (fun w' hC => by go_simp) ?_
                  simp only [Act.put, List.setIfInBounds_toArray, List.set_cons_succ, List.set_cons_zero]
                  refine wq_val (o := ⟨some 156, _, _, _, _, _⟩) (v := .pointer (some ⟨gk, j * 2, none⟩)) rfl (fun w' hC => by go_simp) ?_
                  simp only [Act.put, List.setIfInBounds_toArray, List.set_cons_succ, List.set_cons_zero]
                  refine wq_val (o := ⟨some 157, _, _, _, _, _⟩) (v := .int .i64 x.1) rfl (fun w' hC => by have x1 := cell_grow m1 hC; go_simp) ?_
                  simp only [Act.put, List.setIfInBounds_toArray, List.set_cons_succ, List.set_cons_zero]
                  refine wq_val (o := ⟨some 158, _, _, _, _, _⟩) (v := .int .i64 (wrap64 (-x.1))) rfl (fun w' hC => by first | (go_simp; done) | (go_simp; rfl) | (go_simp; simp only [IntKind.wrap, wrap64, IntKind.bits, IntKind.signed]; simp; split <;> omega)) ?_
                  simp only [Act.put, List.setIfInBounds_toArray, List.set_cons_succ, List.set_cons_zero]
                  refine wpQuiet_nil ?_
                  intro w5 hC5
                  have m5 := cell_grow m1 hC5
                  have z5 := X.out.2.1 w5 hC5
                  have X5 := Lib.hid (And.intro (X.out.1 w5 hC5) X.out.2.2)
                  clear X m1 q7 hC5
                  go_wp2
                  exact ⟨⟨j + 1, X5.out.2, by go_num, X5.out.1⟩, meas_in X5.out.2⟩
                · obtain rfl : j = nk := by omega
                  have X := Lib.hid (And.intro Z.out.2.1 (show Ng w24 wr k M G (a + 1) 0 from ⟨fun i hi => by rw [← yn_next, ← Z.out.2.2.2]; exact hN.blk i hi, hN.gr⟩))
                  have hji : ¬ (j : Int) < (j : Int) := by omega
                  clear hN hj hlj
                  go_wp2
                  exact ⟨⟨a + 1, X.out.1, by go_num, X.out.2⟩, meas_in X.out.1⟩
            · obtain rfl : a = k := by omega
              have hai : ¬ (a : Int) < (a : Int) := by omega
              obtain ⟨M2, hM2⟩ : ∃ M2 : Nat → List Itm, M2 = fun i => (M i).map negI := ⟨_, rfl⟩
              have hin : ∀ w, Below wr.heap.size wr w → ∀ i, i < a → RV w (some ⟨G i, 0, none⟩) ((M2 i).flatMap Itm.cells) := fun w h i hi => by
                have hb := ((hN.below h).blk i hi).rv
                rw [yn_done M hi] at hb
                have h2 := rv_items_to hb ((M i).map negI).length
                rw [List.take_left] at h2
                rw [hM2]
                exact h2
              have o7 := hN.gr.own O7.out (fun b hb ⟨i, hi, e⟩ => own_ne_blk O7.out (N0.out.blk i hi) (by decide) (by rw [← e]; exact hb))
              have r7 := own_rvk o7
              have e7 : (List.range a).map (ivOf G M) = (List.range a).map (ivOf G M2) := List.map_congr_left fun i _ => by rw [hM2, ivOf_neg]
              rw [e7] at r7
              have oW := hN.gr.own (own_below'' W13.out F24.out.2.1) (fun b hb ⟨i, hi, e⟩ => by
                have h1 := (W13.out.lt b hb).1
                have h2 := HGL.out i hi
                omega)
              have oC := hN.gr.own F24.out.2.2.1 (fun b hb ⟨i, hi, e⟩ => by
                have h1 := (F24.out.2.2.1.lt b hb).1
                have h2 := HGL.out i hi
                have h3 := F24.out.2.2.2
                omega)
              have hbW : Below W.heap.size W wr := hN.gr.low (gt Q.out.2.2.2.2.1 F24.out.1) (gt Q.out.2.2.2.2.1 F24.out.1).size (fun b ⟨i, hi, e⟩ => by
                have h1 := Q.out.1.low i hi
                have h2 := Q.out.2.2.2.2.2.2.2.2.2.2
                omega)
              have ht2 : total (listsOf M2 a) ≤ 1073741824 := by
                have h1 : total (listsOf M2 a) = total Ms := total_of M2 (by rw [Q.out.2.2.2.2.2.2.1, listsOf_len]) (fun i hi => by rw [Q.out.2.2.2.2.2.2.1, listsOf_nth M hi, hM2]; simp)
                rw [h1]
                have := Q.out.2.2.2.2.2.2.2.1
                omega
              have cM := fun (w : World) (h : Below wr.heap.size wr w) => merge_I swo_ltK w (fv_less w fun _ => True) A7 a c7 M2 G (r7.below h) (hin w h) hNb ht2
              have cR := fun (w : World) (h : Below wr.heap.size wr w) => refmerge_any false w A7 a c7 (ivOf G M2) (listsOf M2 a) (by rw [listsOf_len]) hNb (r7.below h) (fun i hi => by rw [listsOf_nth M2 hi]; exact ⟨_, _, rfl, hin w h i hi⟩) ht2
              obtain ⟨X2, hX2⟩ : ∃ X2, X2 = merged ltK (listsOf M2 a) := ⟨_, rfl⟩
              obtain ⟨n2, hn2⟩ : ∃ n2, n2 = X2.length := ⟨_, rfl⟩
              rw [ltF_false] at cR
              rw [← hX2, ← hn2] at cM cR
              have hl2 : n2 ≤ 1073741824 := by rw [hn2, hX2]; exact Nat.le_trans (merged_len _ _) ht2
              have D := Lib.hid (And.intro cM (And.intro cR (And.intro hn2 hl2)))
              have Z := Lib.hid (And.intro (own_rv oC) (And.intro (own_rv oW) hbW))
              clear hN ha hlt hM2 hin o7 r7 e7 oW oC hbW ht2 cM cR hX2 hn2 hl2
              go_wp2_with (first
                | (go_at_call 32; (with_reducible show Calls _ _ #[.slice Ac _ _, _] _ _); go_must (refine (same_items Ac Aw n1 cc cw X1 wr Z.out.1 Z.out.2.1 L.out.1 (by have := L.out.1; omega)).mono ?_); rintro e w25 ⟨rfl, hb25⟩)
                | (go_at_call 27; go_must (refine (D.out.1 w25 hb25).mono ?_); rintro e w26 ⟨vo, rfl, ho26, hb26⟩
                   obtain ⟨Ao, co, rfl, _⟩ := own_slice ho26
                   have R26 := Lib.hid (own_rv ho26)
                   clear ho26)
                | (go_at_call 31; go_must (refine (D.out.2.1 w26 (gt hb25 hb26)).mono ?_); rintro e w27 ⟨vp, rfl, ho27, hb27⟩
                   obtain ⟨Ap, cp, rfl, _⟩ := own_slice ho27
                   have R27 := Lib.hid (own_rv ho27)
                   clear ho27)
                | (go_at_call 32; go_must (refine (same_items Ao Ap n2 co cp X2 w27 (R26.out.below hb27) R27.out D.out.2.2.1 (by have := D.out.2.2; omega)).mono ?_); rintro e w28 ⟨rfl, hb28⟩))
              go_ret
              exact ⟨rfl, gt (gt Z.out.2.2 (gt hb25 hb26)) (gt hb27 hb28)⟩
end Go.Proofs.Ytdebokambldbbaa.LawP
