/- weirlaw07.PileDrains: the way of a step of kind 5. -/
import Derived.Test.YtdebokambldbbaaLawDrA
namespace Go.Proofs.Ytdebokambldbbaa.LawP
open Go.RowKit Go.Shelf Go.Proofs.Ytdebokambldbbaa.Mem Go.Proofs.Ytdebokambldbbaa.Heap Go.Proofs.Ytdebokambldbbaa.Pile Go.Proofs.Ytdebokambldbbaa.PileI
set_option linter.unusedVariables false
set_option linter.unusedSectionVars false
set_option linter.unusedSimpArgs false
set_option maxRecDepth 8000
set_option maxHeartbeats 12800000

theorem drT5 : drA.1.2.2.2 := by
  intro n c l W hnb zz1 w1 w2 R p w3 bk HBK x w5 q0 q1 q2 w6 zz2 zz3 hd H q H3 wr u2 u6 u7 u8 u9 u10 u11 u12 u13 u36 u37 u38 u39 u40 u41 u42 u43 u44 u45 u46 u47 u48 u49 u50 u51 u52 u53 u54 u55 u56 u57 u58 u59 u60 u61 u62 u63 u64 u65 u66 u67 u68 u69 u70 u71 u72 u73 u74 u75 u76 u77 u78 u79 u80 u81 u82 u83 u84 u85 u86 u87 u88 u89 u90 u91 u92 u93 u94 u95 u96 u97 u98 u99 u100 u101 u102 u103 u104 u105 u106 u107 u108 u109 u110 u111 u112 u113 u114 u115 u116 u117 u118 u119 u120 u121 u122 u123 u124 u125 u126 u127 u128 u129 u130 u131 u132 u133 u134 u135 u136 u137 u138 u139 u140 u141 u142 u143 u144 u145 u146 u147 u148 u149 u150 u151 u152 u153 u154 u155 u156 u157 u158 u159 u160 u161 u162 u163 u164 u165 u166 u167 u168 u169 u170 u171 u172 u173 u174 u175 u176 u177 u178 u179 u180 u181 u182 u183 u184 u185 u186 u187 u188 u189 u190 u191 u192 u193 u194 u195 k v es L nx u ad H0 s2 s3 c3 c2 i Au cu nu hki hk0 hi0 hi4 HFL c1 C Q k0 k2 k1 k3 k4
  have hk1 : k + 1 ≤ 1048576 := by have := Q.out.2.2.1; omega
  have cD : ∀ w b, Below wr.heap.size wr w → Boxed w b 30 (.pointer (some ⟨p i, 0, none⟩)) → Calls Try.prog 22 #[.pointer (some ⟨p i, 0, none⟩), clD b, .int .i64 ((nu : Int) + 1), .int .i64 s3, .bool true, .agg #[.int .i64 s3, .int .i64 k]] w fun e W' => ∃ vr r, e = .returned vr ∧ Drnd (flD i) H (p i) (v i) s3 true (s3, (k : Int)) (L i) (nx i) w vr W' r := fun w b hb hbx => by
    have h1 := Q.out.2.1 i Q.out.2.2.2.1
    have h := drained_any (most := nu + 1) (flD i) w s3 true (s3, (k : Int)) ((Q.out.1.grow hb).pl i Q.out.2.2.2.1) (Q.out.1.book i Q.out.2.2.2.1) (Q.out.1.grow hb).low Q.out.1.hH (Q.out.1.hp i Q.out.2.2.2.1) hbx (by rw [← Q.out.2.2.2.2.2.1]) (by omega) (by omega)
    rw [show ((nu + 1 : Nat) : Int) = (nu : Int) + 1 by omega] at h
    exact h
  have P := Lib.hid cD
  have hnk := Q.out.2.2.2.2.2.2.1
  have hnu0 : (0 : Int) ≤ (nu : Int) := by omega
  have hnu1 : (nu : Int) ≤ 1048576 := by omega
  clear cD hk1 hnk
  go_wp2_with (first
    | (go_at_call 12
       go_must (refine (C.out.1 _).mono ?_)
       rintro e w4 ⟨rfl, hb4⟩
       have hb4' := gt (ga (gr wr) (.cells #[.int .i64 5, .int .i64 s2, .int .i64 s3] 28)) hb4
       have cR := C.out.2.1 w4 hb4'
       have cH := C.out.2.2.1 w4 hb4'
       have cB := C.out.2.2.2.1 w4 hb4'
       have sb4 := C.out.2.2.2.2.grow hb4
       have e1 : w4.cell? ⟨wr.heap.size, 0, none⟩ = some (.int .i64 5) := sb4.cell 0
       have e2 : w4.cell? ⟨wr.heap.size, 1, none⟩ = some (.int .i64 s2) := sb4.cell 1
       have e3 : w4.cell? ⟨wr.heap.size, 2, none⟩ = some (.int .i64 s3) := sb4.cell 2))
  have hb5 := hb4'
  have sb5 := sb4
  have hbx5 : Boxed w4 (q i) 30 (.pointer (some ⟨p i, 0, none⟩)) := (Q.out.1.grow hb4').ex (q i) _ _ (.inr (.inr ⟨i, Q.out.2.2.2.1, rfl, rfl, rfl⟩)) |>.1
  clear cR cH cB e1 e2 e3 c1 c2 c3
  try simp only [Act.put, List.setIfInBounds_toArray, List.set_cons_succ, List.set_cons_zero]
  refine wp_region_qbT 20 (by kernel_rfl) (by kernel_rfl) ?_
  simp only [List.take_succ_cons, List.take_zero, List.drop_succ_cons, List.drop_zero]
  refine wq_val (o := ⟨some 87, _, _, _, _, _⟩) (v := .slice (some ⟨R, 0, none⟩) 3 3) rfl (fun w' hC => by go_simp) ?_
  simp only [Act.put, List.setIfInBounds_toArray, List.set_cons_succ, List.set_cons_zero]
  refine wq_val (o := ⟨some 88, _, _, _, _, _⟩) (v := .int .i64 i) rfl (fun w' hC => by go_simp) ?_
  simp only [Act.put, List.setIfInBounds_toArray, List.set_cons_succ, List.set_cons_zero]
  refine wq_val (o := ⟨some 89, _, _, _, _, _⟩) (v := .pointer (some ⟨R, i, none⟩)) rfl (fun w' hC => by go_simp) ?_
  simp only [Act.put, List.setIfInBounds_toArray, List.set_cons_succ, List.set_cons_zero]
  refine wq_val (o := ⟨some 90, _, _, _, _, _⟩) (v := .pointer (some ⟨p i, 0, none⟩)) rfl (fun w' hC => by have c1 := C.out.2.1 w' (gt hb5 hC); go_simp) ?_
  simp only [Act.put, List.setIfInBounds_toArray, List.set_cons_succ, List.set_cons_zero]
  refine wq_val (o := ⟨some 91, _, _, _, _, _⟩) (v := clD (q i)) rfl (fun w' hC => by go_simp; try rfl) ?_
  simp only [Act.put, List.setIfInBounds_toArray, List.set_cons_succ, List.set_cons_zero]
  refine wq_val (o := ⟨some 92, _, _, _, _, _⟩) (v := .slice (some ⟨bk, 0, none⟩) 3 3) rfl (fun w' hC => by go_simp) ?_
  simp only [Act.put, List.setIfInBounds_toArray, List.set_cons_succ, List.set_cons_zero]
  refine wq_val (o := ⟨some 93, _, _, _, _, _⟩) (v := .int .i64 i) rfl (fun w' hC => by go_simp) ?_
  simp only [Act.put, List.setIfInBounds_toArray, List.set_cons_succ, List.set_cons_zero]
  refine wq_val (o := ⟨some 94, _, _, _, _, _⟩) (v := .pointer (some ⟨bk, i, none⟩)) rfl (fun w' hC => by go_simp) ?_
  simp only [Act.put, List.setIfInBounds_toArray, List.set_cons_succ, List.set_cons_zero]
  refine wq_val (o := ⟨some 95, _, _, _, _, _⟩) (v := .slice Au nu cu) rfl (fun w' hC => by have c1 := C.out.2.2.2.1 w' (gt hb5 hC); go_simp) ?_
  simp only [Act.put, List.setIfInBounds_toArray, List.set_cons_succ, List.set_cons_zero]
  refine wq_val (o := ⟨some 96, _, _, _, _, _⟩) (v := .int .i64 nu) rfl (fun w' hC => by go_simp) ?_
  simp only [Act.put, List.setIfInBounds_toArray, List.set_cons_succ, List.set_cons_zero]
  refine wq_val (o := ⟨some 97, _, _, _, _, _⟩) (v := .int .i64 ((nu : Int) + 1)) rfl (fun w' hC => by go_simp; exact IntWalk.i64_in _ (by omega)) ?_
  simp only [Act.put, List.setIfInBounds_toArray, List.set_cons_succ, List.set_cons_zero]
  refine wq_val (o := ⟨some 98, _, _, _, _, _⟩) (v := .pointer (some ⟨wr.heap.size, 2, none⟩)) rfl (fun w' hC => by go_simp) ?_
  simp only [Act.put, List.setIfInBounds_toArray, List.set_cons_succ, List.set_cons_zero]
  refine wq_val (o := ⟨some 99, _, _, _, _, _⟩) (v := .int .i64 s3) rfl (fun w' hC => by have c1 : w'.cell? ⟨wr.heap.size, 2, none⟩ = some (.int .i64 s3) := (sb5.grow hC).cell 2; go_simp) ?_
  simp only [Act.put, List.setIfInBounds_toArray, List.set_cons_succ, List.set_cons_zero]
  refine wq_val (o := ⟨some 100, _, _, _, _, _⟩) (v := .pointer (some ⟨wr.heap.size, 0, none⟩)) rfl (fun w' hC => by go_simp) ?_
  simp only [Act.put, List.setIfInBounds_toArray, List.set_cons_succ, List.set_cons_zero]
  refine wq_val (o := ⟨some 101, _, _, _, _, _⟩) (v := .int .i64 5) rfl (fun w' hC => by have c1 : w'.cell? ⟨wr.heap.size, 0, none⟩ = some (.int .i64 5) := (sb5.grow hC).cell 0; go_simp) ?_
  simp only [Act.put, List.setIfInBounds_toArray, List.set_cons_succ, List.set_cons_zero]
  refine wq_val (o := ⟨some 102, _, _, _, _, _⟩) (v := .bool true) rfl (fun w' hC => by go_simp) ?_
  simp only [Act.put, List.setIfInBounds_toArray, List.set_cons_succ, List.set_cons_zero]
  refine wq_val (o := ⟨some 103, _, _, _, _, _⟩) (v := .pointer (some ⟨wr.heap.size, 2, none⟩)) rfl (fun w' hC => by go_simp) ?_
  simp only [Act.put, List.setIfInBounds_toArray, List.set_cons_succ, List.set_cons_zero]
  refine wq_val (o := ⟨some 104, _, _, _, _, _⟩) (v := .int .i64 s3) rfl (fun w' hC => by have c1 : w'.cell? ⟨wr.heap.size, 2, none⟩ = some (.int .i64 s3) := (sb5.grow hC).cell 2; go_simp) ?_
  simp only [Act.put, List.setIfInBounds_toArray, List.set_cons_succ, List.set_cons_zero]
  refine wq_val (o := ⟨some 105, _, _, _, _, _⟩) (v := .int .i64 k) rfl (fun w' hC => by go_simp) ?_
  simp only [Act.put, List.setIfInBounds_toArray, List.set_cons_succ, List.set_cons_zero]
  refine wq_call (f := 15) (args := #[.int .i64 s3, .int .i64 k]) (v := .agg #[.int .i64 s3, .int .i64 k]) rfl (fun w' _ => by go_simp) (fun w' hC => ?_) ?_
  · exact it_any s3 k w'
  simp only [Act.put, List.setIfInBounds_toArray, List.set_cons_succ, List.set_cons_zero]
  refine wpQuiet_nil ?_
  intro w6 hC6
  have hb6 := gt hb5 hC6
  go_upto_block 3 with (first
    | (go_at_call 22
       go_must (refine (P.out w6 (q i) hb6 (boxed_below hbx5 hC6)).mono ?_)
       rintro e w7 ⟨vr, r, rfl, D⟩
       obtain ⟨Ar, nr, cr, rfl, hnr⟩ := own_form D.row
       subst hnr
       skip))
  obtain ⟨v', es', hP, hB, hv⟩ := D.pl
  have F6 := Q.out.1.grow hb6
  have F7 := F6.step Q.out.2.2.2.1 hP hB D.gr hv
  have sb7 := F6.side Q.out.2.2.2.1 D.gr (sb5.grow hC6) (by decide) (by decide)
  have hdl := dsL_len (swo_ltF (flD i)) nr D.ne
  have hQi := Q.out.2.1 i Q.out.2.2.2.1
  have hk3 := Q.out.2.2.1
  have hds : (dsL (ltF (flD i)) true (s3, (k : Int)) (L i) (nx i) nr).1.length + nr ≤ k + 1 ∧ (dsL (ltF (flD i)) true (s3, (k : Int)) (L i) (nx i) nr).2 ≤ k + 1 := by split at hdl <;> omega
  have IL0 : IL (XD R hd p q) H bk w1 p (fupd v i v') (fupd es i es') (fupd L i (dsL (ltF (flD i)) true (s3, (k : Int)) (L i) (nx i) nr).1) (fupd nx i (dsL (ltF (flD i)) true (s3, (k : Int)) (L i) (nx i) nr).2) (fun j => (L j).map (·.1)) i w6.heap.size nr wr.heap.size (.slice Ar nr cr) (dsO (ltF (flD i)) true (s3, (k : Int)) (L i) (nx i) nr) [.int .i64 5, .int .i64 s2, .int .i64 s3] ((L i).map (·.1)) u w7 := ⟨F7.eqM (fupd_self (fun j => (L j).map (·.1)) i), fun j hj => Far.symm (Far.new (F6.row j hj) (fun g hg => (D.row.lt g hg).1)), D.row, sb7⟩
  have hMb : ∀ j, j ≤ nr → (dsL (ltF (flD i)) true (s3, (k : Int)) (L i) (nx i) j).1.length ≤ 1048577 := fun j hj => by
    have h1 := (dsL_len (swo_ltF (flD i)) j (fun j2 h2 => D.ne j2 (by omega))).1
    split at h1 <;> omega
  have Z := Lib.hid (And.intro IL0 (And.intro hds (And.intro D.ne (And.intro D.ns (And.intro D.fin hMb)))))
  have hr0 : (nr : Int) ≤ 1048577 := by omega
  clear F6 F7 sb7 hP hB hv hdl hQi hk3 hds IL0 hMb D sb5 hbx5 sb4
  skip
  obtain ⟨sz, hsz⟩ : ∃ sz, sz = wr.heap.size := ⟨_, rfl⟩
  simp only [← hsz]
  rw [← hsz] at Z
  clear hsz
  skip
  go_cut [11, 12, 13] from 110 to 164 (fun _ _ _ wc => ∃ u, IL (XD R hd p q) H bk w1 p (fupd v i v') (fupd es i es') (fupd L i (dsL (ltF (flD i)) true (s3, (k : Int)) (L i) (nx i) nr).1) (fupd nx i (dsL (ltF (flD i)) true (s3, (k : Int)) (L i) (nx i) nr).2) (fun j => (L j).map (·.1)) i w6.heap.size nr sz (.slice Ar nr cr) (dsO (ltF (flD i)) true (s3, (k : Int)) (L i) (nx i) nr) [.int .i64 5, .int .i64 s2, .int .i64 s3] ((dsL (ltF (flD i)) true (s3, (k : Int)) (L i) (nx i) nr).1.map (·.1)) u wc)
  case first =>
    go_wp2_with fail
    go_loopw [110] (fun v110 wq => ∃ j : Nat, j ≤ nr ∧ v110 = .int .i64 j ∧ ∃ u, IL (XD R hd p q) H bk w1 p (fupd v i v') (fupd es i es') (fupd L i (dsL (ltF (flD i)) true (s3, (k : Int)) (L i) (nx i) nr).1) (fupd nx i (dsL (ltF (flD i)) true (s3, (k : Int)) (L i) (nx i) nr).2) (fun j => (L j).map (·.1)) i w6.heap.size nr sz (.slice Ar nr cr) (dsO (ltF (flD i)) true (s3, (k : Int)) (L i) (nx i) nr) [.int .i64 5, .int .i64 s2, .int .i64 s3] ((dsL (ltF (flD i)) true (s3, (k : Int)) (L i) (nx i) j).1.map (·.1)) u wq) (fun v _ => nr - (intOf v).toNat)
    case atStart => exact ⟨0, Nat.zero_le _, rfl, u, Z.out.1⟩
    case round =>
      obtain ⟨j, hj, rfl, u, S⟩ := hrel
      have hur := S.fam.row i Q.out.2.2.2.1
      rw [fupd_same] at hur
      obtain ⟨Ab, cb, hub, hcb⟩ := own_slice hur
      by_cases hlt : j < nr
      · have hne := Z.out.2.2.1 j hlt
        obtain ⟨hm1, hm2⟩ := fstI_lt (swo_ltF (flD i)) hne
        obtain ⟨m, hm⟩ : ∃ m, m = fstI (ltF (flD i)) (dsL (ltF (flD i)) true (s3, (k : Int)) (L i) (nx i) j).1 := ⟨_, rfl⟩
        rw [← hm] at hm1 hm2
        obtain ⟨y, hy⟩ : ∃ y, y = dsX (ltF (flD i)) true (s3, (k : Int)) (L i) (nx i) j := ⟨_, rfl⟩
        obtain ⟨nb, hnb2⟩ : ∃ nb, nb = (dsL (ltF (flD i)) true (s3, (k : Int)) (L i) (nx i) j).1.length := ⟨_, rfl⟩
        rw [List.length_map, ← hnb2] at hub hcb
        have hMj := Z.out.2.2.2.2.2 j (Nat.le_of_lt hlt)
        have rB : ∀ w, Below wr.heap.size wr w → RV w Ab (((dsL (ltF (flD i)) true (s3, (k : Int)) (L i) (nx i) j).1.map (·.1)).flatMap Itm.cells) := fun w hb => (own_rvg2 (hub ▸ hur)).below hb
        have hym : ((dsL (ltF (flD i)) true (s3, (k : Int)) (L i) (nx i) j).1.map (·.1))[m]'(by rw [List.length_map]; exact hm1) = y := by rw [List.getElem_map, hy]; unfold dsX; rw [← hm, nth_eq hm1]
        have rI := fun (w : World) (hb : Below wr.heap.size wr w) => item_gen (rB w hb) (k := m) (by rw [List.length_map]; exact hm1)
        simp only [hym] at rI
        obtain ⟨ad1, hAr, d1, d2⟩ := item_gen (own_rvg2 S.row) (k := j) (by rw [dsO_len]; exact hlt)
        rw [dsO_at, ← hy] at d1 d2
        obtain ⟨y1, y2⟩ := y
        simp only at d1 d2 rI
        obtain ⟨ad2, hAb, _, _⟩ := rI wr (gr wr)
        have rI2 : ∀ w, Below wr.heap.size wr w → w.cell? (ad2.add (m * 2)) = some (.int .i64 y1) ∧ w.cell? ⟨(ad2.add (m * 2)).block, (ad2.add (m * 2)).off + 1, none⟩ = some (.int .i64 y2) := fun w hb => by
          obtain ⟨ad3, e, h1, h2⟩ := rI w hb
          rw [hAb] at e
          injection e with e
          subst e
          exact ⟨h1, h2⟩
        subst hAr hAb
        have cF : ∀ w, Below wr.heap.size wr w → Calls Try.prog 13 #[.slice (some ad2) nb cb, .bool (flD i)] w fun e W' => e = .returned (.int .i64 (m : Int)) ∧ Below w.heap.size w W' := fun w hb => by
          have h := first_any (some ad2) nb cb ((dsL (ltF (flD i)) true (s3, (k : Int)) (L i) (nx i) j).1.map (·.1)) (flD i) w (rB w hb) (by rw [List.length_map]; exact hnb2) (by rw [List.length_map]; omega)
          rw [hm2] at h
          exact h
        have cW : ∀ w, Below wr.heap.size wr w → Calls Try.prog 18 #[.slice (some ad2) nb cb, .int .i64 m] w fun e W' => ∃ v, e = .returned v ∧ W'.ownsRow w.heap.size 35 2 v (((dsL (ltF (flD i)) true (s3, (k : Int)) (L i) (nx i) j).1.map (·.1)).eraseIdx m).length ((((dsL (ltF (flD i)) true (s3, (k : Int)) (L i) (nx i) j).1.map (·.1)).eraseIdx m).flatMap Itm.cells) ∧ Below w.heap.size w W' := fun w hb =>
          without_any (some ad2) nb cb m ((dsL (ltF (flD i)) true (s3, (k : Int)) (L i) (nx i) j).1.map (·.1)) w (rB w hb) (by rw [List.length_map]; exact hnb2) (by rw [List.length_map]; omega)
        have cB : ∀ w, Below wr.heap.size wr w → w.cell? ⟨bk, i, none⟩ = some (.slice (some ad2) nb cb) := fun w hb => by rw [(S.fam.bks.grow hb).cell i]; simp [Q.out.2.2.2.1, hub]
        have hmn : (m : Int) < (nb : Int) := by omega
        have hm0 : (0 : Int) ≤ (m : Int) := by omega
        have hji : (j : Int) < (nr : Int) := by omega
        have hj0 : (0 : Int) ≤ (j : Int) := by omega
        have hnd : (dsL (ltF (flD i)) true (s3, (k : Int)) (L i) (nx i) j).1.eraseIdx m = (dsL (ltF (flD i)) true (s3, (k : Int)) (L i) (nx i) j).1.eraseIdx (fstI (ltF (flD i)) (dsL (ltF (flD i)) true (s3, (k : Int)) (L i) (nx i) j).1) := by rw [hm]
        have Y := Lib.hid (And.intro S (And.intro rI2 (And.intro cF (And.intro cW (And.intro cB (And.intro hlt (And.intro hub hnd)))))))
        have b8 : Blk (wr.alloc (.cells #[.int .i64 y1, .int .i64 y2] 35)) wr.heap.size 35 [.int .i64 y1, .int .i64 y2] := Blk.new wr _ [_, _]
        have hMj2 := Lib.hid hMj
        have cb1 := cB wr (gr wr)
        have cb2 := cB _ (ga (gr wr) (.cells #[.int .i64 y1, .int .i64 y2] 35))
        have hfl := HFL.out.1
        have hfl2 := HFL.out.2
        clear rI rI2 cF cW cB hlt hj hub hnd hne hm1 hm2 hm hy hnb2 hcb hMj rB hym hur
        go_wp2_with (first
          | (go_at_call 13
             go_must (refine (Y.out.2.2.1 _ (ga (gr wr) (.cells #[.int .i64 y1, .int .i64 y2] 35))).mono ?_)
             rintro e w8 ⟨rfl, hb8⟩
             have hb8' := gt (ga (gr wr) (.cells #[.int .i64 y1, .int .i64 y2] 35)) hb8
             have b9 := b8.grow hb8))
        skip
        try simp only [Act.put, List.setIfInBounds_toArray, List.set_cons_succ, List.set_cons_zero]
        refine wp_region_qb (by kernel_rfl) (by kernel_rfl) ?_
        refine wq_val (o := ⟨some 122, _, _, _, _, _⟩) (v := .int .i64 m) rfl (fun w' hC => by go_simp) ?_
        simp only [Act.put, List.setIfInBounds_toArray, List.set_cons_succ, List.set_cons_zero]
        refine wq_val (o := ⟨some 123, _, _, _, _, _⟩) (v := .bool false) rfl (fun w' hC => by go_simp) ?_
        simp only [Act.put, List.setIfInBounds_toArray, List.set_cons_succ, List.set_cons_zero]
        refine wq_val (o := ⟨some 124, _, _, _, _, _⟩) (v := .bool false) rfl (fun w' hC => by go_simp) ?_
        simp only [Act.put, List.setIfInBounds_toArray, List.set_cons_succ, List.set_cons_zero]
        refine wq_val (o := ⟨some 125, _, _, _, _, _⟩) (v := .slice (some ⟨bk, 0, none⟩) 3 3) rfl (fun w' hC => by go_simp) ?_
        simp only [Act.put, List.setIfInBounds_toArray, List.set_cons_succ, List.set_cons_zero]
        refine wq_val (o := ⟨some 126, _, _, _, _, _⟩) (v := .int .i64 i) rfl (fun w' hC => by go_simp) ?_
        simp only [Act.put, List.setIfInBounds_toArray, List.set_cons_succ, List.set_cons_zero]
        refine wq_val (o := ⟨some 127, _, _, _, _, _⟩) (v := .pointer (some ⟨bk, i, none⟩)) rfl (fun w' hC => by go_simp) ?_
        simp only [Act.put, List.setIfInBounds_toArray, List.set_cons_succ, List.set_cons_zero]
        refine wq_val (o := ⟨some 128, _, _, _, _, _⟩) (v := .slice (some ad2) nb cb) rfl (fun w' hC => by have c1 := Y.out.2.2.2.2.1 w' (gt hb8' hC); go_simp) ?_
        simp only [Act.put, List.setIfInBounds_toArray, List.set_cons_succ, List.set_cons_zero]
        refine wq_val (o := ⟨some 129, _, _, _, _, _⟩) (v := .int .i64 m) rfl (fun w' hC => by go_simp) ?_
        simp only [Act.put, List.setIfInBounds_toArray, List.set_cons_succ, List.set_cons_zero]
        refine wq_val (o := ⟨some 130, _, _, _, _, _⟩) (v := .pointer (some (ad2.add (m * 2)))) rfl (fun w' hC => by go_simp) ?_
        simp only [Act.put, List.setIfInBounds_toArray, List.set_cons_succ, List.set_cons_zero]
        refine wq_val (o := ⟨some 131, _, _, _, _, _⟩) (v := .agg #[.int .i64 y1, .int .i64 y2]) rfl (fun w' hC => by obtain ⟨d1, d2⟩ := Y.out.2.1 w' (gt hb8' hC); go_simp) ?_
        simp only [Act.put, List.setIfInBounds_toArray, List.set_cons_succ, List.set_cons_zero]
        refine wq_val (o := ⟨some 132, _, _, _, _, _⟩) (v := .agg #[.int .i64 y1, .int .i64 y2]) rfl (fun w' hC => by have d1 : w'.cell? ⟨wr.heap.size, 0, none⟩ = some (.int .i64 y1) := (b9.grow hC).cell 0; have d2 : w'.cell? ⟨wr.heap.size, 1, none⟩ = some (.int .i64 y2) := (b9.grow hC).cell 1; go_simp) ?_
        simp only [Act.put, List.setIfInBounds_toArray, List.set_cons_succ, List.set_cons_zero]
        refine wq_val (o := ⟨some 133, _, _, _, _, _⟩) (v := .bool false) rfl (fun w' hC => by go_simp) ?_
        simp only [Act.put, List.setIfInBounds_toArray, List.set_cons_succ, List.set_cons_zero]
        refine wq_val (o := ⟨some 134, _, _, _, _, _⟩) (v := .bool false) rfl (fun w' hC => by go_simp) ?_
        simp only [Act.put, List.setIfInBounds_toArray, List.set_cons_succ, List.set_cons_zero]
        refine wpQuiet_nil ?_
        intro w10 hC10
        have hb10 := gt hb8' hC10
        have S10 := Y.out.1.grow hb10
        have cb3 := Y.out.2.2.2.2.1 w10 hb10
        clear cb1 cb2 b8 b9 d1 d2 hb8 hb8' hC10
        by_cases hj0z : j = 0
        · have hj1 : ((j : Int) == 0) = true := by rw [beq_iff_eq]; omega
          have hj2 : decide ((j : Int) = 0) = true := by rw [decide_eq_true_iff]; omega
          have hj3 := Lib.hid hj0z
          clear hj0z
          go_wp2_with (first
            | (go_at_call 18
               go_must (refine (Y.out.2.2.2.1 w10 hb10).mono ?_)
               rintro e w11 ⟨vw, rfl, how, hb11⟩
               obtain ⟨Aw, nw, cw, rfl, hnw⟩ := own_form how
               have hk11 := S10.fam.bks.grow hb11
               have cb4 : w11.cell? ⟨bk, i, none⟩ = some (.slice (some ad2) nb cb) := Y.out.2.2.2.2.1 w11 (gt hb10 hb11)
               have fb4 := hk11.frozen i
               have S12 := S10.put Q.out.2.2.2.1 (own_low how S10.fam.le) (Grown2.of_below hb11) (fun g hg => .inr (how.lt g hg).1) hk11
               have e4 : (w11.setCell ⟨bk, i, none⟩ (.slice Aw nw cw)).cell? ⟨sz, 0, none⟩ = some (.int .i64 5) := S12.sb.cell 0
               have HW := Lib.hid hnw
               have HS := Lib.hid (And.intro S12 hk11)
               clear how hb11 cb3 S12 hnw hk11))
          obtain ⟨w12, hw12⟩ : ∃ w, w = (w11.setCell ⟨bk, i, none⟩ (.slice Aw nw cw)) := ⟨_, rfl⟩
          rw [← hw12] at HS e4 ⊢
          have cB : ∀ w, Below w12.heap.size w12 w → w.cell? ⟨bk, i, none⟩ = some (.slice Aw nw cw) := fun w hb => by rw [(HS.out.1.fam.bks.grow hb).cell i]; simp [Q.out.2.2.2.1, fupd_same]
          have cS : ∀ w, Below w12.heap.size w12 w → w.cell? ⟨sz, 2, none⟩ = some (.int .i64 s3) := fun w hb => (HS.out.1.sb.grow hb).cell 2
          have X12 := Lib.hid (And.intro cB cS)
          clear cB cS hw12 cb4 fb4 e4
          try simp only [Act.put, List.setIfInBounds_toArray, List.set_cons_succ, List.set_cons_zero]
          refine wp_region_rrF2 (fun a b => Below a.heap.size a b) (fun _ _ _ h g => gt h g) (fun _ _ h => h.size) (fun a => (gr a).drew) 0 151 (.slice (some ⟨bk, 0, none⟩) 3 3) 1 152 (.int .i64 (i : Int)) 11
            [.eq 151 (.slice (some ⟨bk, 0, none⟩) 3 3), .eq 152 (.int .i64 (i : Int)), .eq 153 (.slice (some ⟨bk, 0, none⟩) 3 3), .eq 154 (.int .i64 (i : Int)), .eq 155 (.pointer (some ⟨bk, i, none⟩)), .eq 156 (.slice Aw nw cw), .eq 157 (.pointer (some ⟨sz, 2, none⟩)), .eq 158 (.int .i64 s3), .eq 159 (.int .i64 (k : Int)), .eq 160 (.agg #[.int .i64 s3, .int .i64 (k : Int)]), .new 161 (NewRow w12.heap.size 35 [.int .i64 s3, .int .i64 (k : Int)] 1)]
            (by kernel_rfl) (by kernel_rfl) (by kernel_rfl) (by kernel_rfl) (by kernel_rfl) rfl rfl rfl (Nat.le_of_ble_eq_true rfl) (fun w => by go_simp) rfl (fun c a w h => h) rfl rfl rfl (Nat.le_of_ble_eq_true rfl) (fun w => by go_simp) rfl (fun c a w h => h) (by kernel_rfl) ?hstb ?hobb ?hfinb
          case hstb =>
            intro s hs
            simp only [List.mem_cons, List.not_mem_nil, or_false] at hs
            rcases hs with rfl | rfl | rfl | rfl | rfl | rfl | rfl | rfl | rfl | rfl | rfl
            · exact fun _ _ _ h _ => h
            · exact fun _ _ _ h _ => h
            · exact fun _ _ _ h _ => h
            · exact fun _ _ _ h _ => h
            · exact fun _ _ _ h _ => h
            · exact fun _ _ _ h _ => h
            · exact fun _ _ _ h _ => h
            · exact fun _ _ _ h _ => h
            · exact fun _ _ _ h _ => h
            · exact fun _ _ _ h _ => h
            · rintro vs w1 w2 ⟨v, rfl, h⟩ hb
              exact ⟨_, rfl, NewRow.stable h hb⟩
          case hobb =>
            simp only [List.take_succ_cons, List.take_zero]
            refine rrs_cons ?_ (rrs_cons ?_ (rrs_cons ?_ (rrs_cons ?_ (rrs_cons ?_ (rrs_cons ?_ (rrs_cons ?_ (rrs_cons ?_ (rrs_cons ?_ (rrs_cons ?_ (rrs_cons ?_ rrs_nil))))))))))
            · refine rr_eq gr (by decide) (by rfl) (by rfl) fun x w' A hg hp hA => ?_
              have e4 := hA 4
              simp [rgDsts] at e4
              go_simp
            · refine rr_eq gr (by decide) (by rfl) (by rfl) fun x w' A hg hp hA => ?_
              have e8 := hA 8
              simp [rgDsts] at e8
              go_simp
            · refine rr_eq gr (by decide) (by rfl) (by rfl) fun x w' A hg hp hA => ?_
              have e4 := hA 4
              simp [rgDsts] at e4
              go_simp
            · refine rr_eq gr (by decide) (by rfl) (by rfl) fun x w' A hg hp hA => ?_
              have e8 := hA 8
              simp [rgDsts] at e8
              go_simp
            · refine rr_eq gr (by decide) (by rfl) (by rfl) fun x w' A hg hp hA => ?_
              have h153 := rg_pred_eq (d := 153) hp 0 rfl rfl rfl
              have h154 := rg_pred_eq (d := 154) hp 1 rfl rfl rfl
              have e153 := (hA.at_ 153 rfl).trans h153
              have e154 := (hA.at_ 154 rfl).trans h154
              go_simp
            · refine rr_eq gr (by decide) (by rfl) (by rfl) fun x w' A hg hp hA => ?_
              have h155 := rg_pred_eq (d := 155) hp 0 rfl rfl rfl
              have e155 := (hA.at_ 155 rfl).trans h155
              have c1 := X12.out.1 w' hg
              go_simp
            · refine rr_eq gr (by decide) (by rfl) (by rfl) fun x w' A hg hp hA => ?_
              have e7 := hA 7
              simp [rgDsts] at e7
              go_simp
            · refine rr_eq gr (by decide) (by rfl) (by rfl) fun x w' A hg hp hA => ?_
              have h157 := rg_pred_eq (d := 157) hp 0 rfl rfl rfl
              have e157 := (hA.at_ 157 rfl).trans h157
              have c1 := X12.out.2 w' hg
              go_simp
            · refine rr_eq gr (by decide) (by rfl) (by rfl) fun x w' A hg hp hA => ?_
              have e6 := hA 6
              simp [rgDsts] at e6
              go_simp
            · refine rr_call (by decide) (by rfl) fun x w' A hg hp hA => ?_
              have h158 := rg_pred_eq (d := 158) hp 0 rfl rfl rfl
              have h159 := rg_pred_eq (d := 159) hp 1 rfl rfl rfl
              have e158 := (hA.at_ 158 rfl).trans h158
              have e159 := (hA.at_ 159 rfl).trans h159
              refine ⟨15, #[.int .i64 s3, .int .i64 (k : Int)], ?_, ?_⟩
              · go_simp
              · refine (show Calls Try.prog 15 #[.int .i64 s3, .int .i64 (k : Int)] w' fun e w'' => e = .returned (.agg #[.int .i64 s3, .int .i64 (k : Int)]) ∧ Below w'.heap.size w' w'' from it_any s3 k w').mono ?_
                rintro e w'' ⟨rfl, hb⟩
                exact ⟨_, rfl, hb, by simp, by simp⟩
            · refine rr_build1 ET (by decide) rfl rfl (.tmp 160) rfl (by decide) ([.int .i64 s3, .int .i64 (k : Int)]) (by rfl) fun x w' A hg hp hA => ?_
              have h160 := rg_pred_eq (d := 160) hp 0 rfl rfl rfl
              have e160 := (hA.at_ 160 rfl).trans h160
              simp [Act.eval, e160, Value.cells, strV]
          case hfinb =>
          intro x w13 hg hall hap
          simp only [RgAll, holds_eq, holds_new, holds_one, and_true] at hall
          obtain ⟨h151, h152, h153, h154, h155, h156, h157, h158, h159, h160, h161⟩ := hall
          obtain ⟨b161, h161, hb161, hB161⟩ := h161
          simp only [rgDsts, List.take_succ_cons, List.take_zero, List.filterMap_cons, List.filterMap_nil, putMany, List.foldl_cons, List.foldl_nil, List.setIfInBounds_toArray, List.set_cons_succ, List.set_cons_zero, List.drop_succ_cons, List.drop_zero, h151, h152, h153, h154, h155, h156, h157, h158, h159, h160, h161]
          clear h151 h152 h153 h154 h155 h156 h157 h158 h159 h160 h161
          have S13 := HS.out.1.grow hg
          have ho13 := S13.fam.row i Q.out.2.2.2.1
          rw [fupd_same, fupd_same, ← HW.out] at ho13
          have hnw2 : nw ≤ 1073741822 := by rw [HW.out]; have := hMj2.out; have h9 := List.length_eraseIdx_le (l := (dsL (ltF (flD i)) true (s3, (k : Int)) (L i) (nx i) j).1.map (·.1)) (i := m); rw [List.length_map] at h9; omega
          have X13 := Lib.hid (And.intro S13 (And.intro ho13 (And.intro hB161 hnw2)))
          clear S13 ho13 hg hap hB161 hnw2
          go_wp2_with (first
            | ((with_reducible show wpList _ _ _ (⟨some 162, _, _, _, _, _⟩ :: _) _ _)
               go_must (refine wpList_app ET (o := ⟨some 162, _, _, _, _, _⟩) rfl (.tmp 156) (.tmp 161) rfl H (.slice Aw nw cw) nw ((((dsL (ltF (flD i)) true (s3, (k : Int)) (L i) (nx i) j).1.map (·.1)).eraseIdx m).flatMap Itm.cells) rfl X13.out.2.1 (some ⟨b161, 0, none⟩) 1 1 [.int .i64 s3, .int .i64 k] rfl X13.out.2.2.1.rv rfl (fun u hu => thI.one (s3, (k : Int)) u hu) (by have h1 := X13.out.2.2.2; unfold maxLen; omega) (by have h1 := X13.out.2.2.2; omega) X13.out.1.fam.le ?_)
               intro va w14 hov hg14 hv14
               obtain ⟨Av, nv, cv, rfl, hnv⟩ := own_form hov
               subst hnv
               have hB14 : Blk w14 bk 32 ((List.range 3).map (fupd u i (.slice Aw nw cw))) := X13.out.1.fam.bks.grown hg14 (fun e => own_ne_blk X13.out.2.1 X13.out.1.fam.bks (by decide) e.symm)
               have c14 : w14.cell? ⟨bk, i, none⟩ = some (.slice Aw nw cw) := by rw [hB14.cell i]; simp [Q.out.2.2.2.1, fupd_same]
               have f14 := hB14.frozen i
               have X14 := Lib.hid (And.intro hov (And.intro hg14 (And.intro hv14 hB14)))
               clear hov hg14 hv14 hB14))
          go_roundw
          case rel => exact ⟨j + 1, Y.out.2.2.2.2.2.1, by go_num, _, by rw [dsL_more rfl hj3.out, ← Y.out.2.2.2.2.2.2.2, List.map_append, map_eraseIdx]; exact IL.put (l' := (((dsL (ltF (flD i)) true (s3, (k : Int)) (L i) (nx i) j).1.map (·.1)).eraseIdx m) ++ [(s3, (k : Int))]) X13.out.1 Q.out.2.2.2.1 (by rw [List.length_append, List.flatMap_append, ← HW.out]; exact X14.out.1) (by rw [fupd_same]; exact Grown2.of_by X14.out.2.1) (fun g hg' => by rw [fupd_same]; exact X14.out.2.2.1.elim (fun e => .inl (e ▸ hg')) (fun e => .inr (by rw [e] at hg'; injection hg' with e'; omega))) X14.out.2.2.2⟩
          case measure => exact meas_in Y.out.2.2.2.2.2.1
        · have hj1 : ((j : Int) == 0) = false := by rw [beq_eq_false_iff_ne]; omega
          have hj2 : ¬ ((j : Int) = 0) := by omega
          have hj3 := Lib.hid hj0z
          clear hj0z
          go_wp2_with (first
            | (go_at_call 18
               go_must (refine (Y.out.2.2.2.1 w10 hb10).mono ?_)
               rintro e w11 ⟨vw, rfl, how, hb11⟩
               obtain ⟨Aw, nw, cw, rfl, hnw⟩ := own_form how
               have hk11 := S10.fam.bks.grow hb11
               have cb4 : w11.cell? ⟨bk, i, none⟩ = some (.slice (some ad2) nb cb) := Y.out.2.2.2.2.1 w11 (gt hb10 hb11)
               have fb4 := hk11.frozen i
               have S12 := S10.put Q.out.2.2.2.1 (own_low how S10.fam.le) (Grown2.of_below hb11) (fun g hg => .inr (how.lt g hg).1) hk11
               have e4 : (w11.setCell ⟨bk, i, none⟩ (.slice Aw nw cw)).cell? ⟨sz, 0, none⟩ = some (.int .i64 5) := S12.sb.cell 0
               have HW := Lib.hid hnw
               have HS := Lib.hid (And.intro S12 hk11)
               clear how hb11 cb3 S12 hnw hk11))
          go_roundw
          case rel => exact ⟨j + 1, Y.out.2.2.2.2.2.1, by go_num, _, by rw [dsL_less (by intro h; exact hj3.out h.2), ← Y.out.2.2.2.2.2.2.2, map_eraseIdx]; exact HS.out.1⟩
          case measure => exact meas_in Y.out.2.2.2.2.2.1
      · obtain rfl : nr = j := by omega
        have SS := Lib.hid S
        clear S hur hub hcb hj hlt
        go_wp2_with fail
        go_meet
        case rel => exact ⟨u, SS.out⟩
  case rest =>
    obtain ⟨u, S⟩ := hcut
    have hur := S.fam.row i Q.out.2.2.2.1
    rw [fupd_same] at hur
    obtain ⟨Ab, cb, hub, hcb⟩ := own_slice hur
    skip
    obtain ⟨nb, hnb2⟩ : ∃ nb, nb = (dsL (ltF (flD i)) true (s3, (k : Int)) (L i) (nx i) nr).1.length := ⟨_, rfl⟩
    rw [List.length_map, ← hnb2] at hub hcb
    have cB : wc.cell? ⟨bk, i, none⟩ = some (.slice Ab nb cb) := by rw [S.fam.bks.cell i]; simp [Q.out.2.2.2.1, hub]
    have e1 : wc.cell? ⟨sz, 0, none⟩ = some (.int .i64 5) := S.sb.cell 0
    have e3 : wc.cell? ⟨sz, 2, none⟩ = some (.int .i64 s3) := S.sb.cell 2
    have hfin := Z.out.2.2.2.2.1
    have hns := Z.out.2.2.2.1
    have F9 := S.fam.eqM (show (fun j => (fupd L i (dsL (ltF (flD i)) true (s3, (k : Int)) (L i) (nx i) nr).1 j).map (·.1)) = fupd (fun j => (L j).map (·.1)) i ((dsL (ltF (flD i)) true (s3, (k : Int)) (L i) (nx i) nr).1.map (·.1)) from (fupd_comp2 (fun l : List (Itm × Nat) => l.map (·.1)) L i (dsL (ltF (flD i)) true (s3, (k : Int)) (L i) (nx i) nr).1).symm)
    have HB : ∀ j, j < 3 → (fupd L i (dsL (ltF (flD i)) true (s3, (k : Int)) (L i) (nx i) nr).1 j).length ≤ k + 1 ∧ fupd nx i (dsL (ltF (flD i)) true (s3, (k : Int)) (L i) (nx i) nr).2 j ≤ k + 1 := fun j hj => by
      have h1 := Q.out.2.1 j hj
      have h2 := Z.out.2.1
      by_cases e : j = i
      · subst e; rw [fupd_same, fupd_same]; omega
      · rw [fupd_ne _ _ e, fupd_ne _ _ e]; omega
    have G := Lib.hid (And.intro F9 HB)
    have hr1 : (0 : Int) ≤ (nr : Int) := by omega
    have hnb0 : nb = 0 ∨ (0 < nr ∧ (nr : Int) = s3) := hfin.imp (fun e => by rw [hnb2, e]; rfl) id
    have hs3 : 0 < s3 → (nr : Int) ≤ s3 := fun h => by
      rcases Int.lt_or_le s3 (nr : Int) with h1 | h1
      · exact absurd (by omega) (hns s3.toNat (by omega) (by omega))
      · exact h1
    clear S hur hub hcb hfin hns F9 HB hnb2
    by_cases hn0 : nb = 0
    · by_cases hp : 0 < s3
      · have hle := hs3 hp
        have b1 : ¬ (0 < (nb : Int)) := by omega
        have b2 : ¬ (s3 < (nr : Int)) := by omega
        have hp2 : 0 < s3 := hp
        clear hs3 hnb0 hn0 hp hle
        go_wp2_with (first
          | (fail))
        go_roundw
        case rel => exact ⟨k + 1, Q.out.2.2.1, by go_num, _, _, _, _, _, G.out.1, G.out.2⟩
        case measure => exact meas_in Q.out.2.2.1
      · have b1 : ¬ (0 < (nb : Int)) := by omega
        have hp2 : ¬ 0 < s3 := hp
        clear hs3 hnb0 hn0 hp
        go_wp2_with (first
          | (fail))
        go_roundw
        case rel => exact ⟨k + 1, Q.out.2.2.1, by go_num, _, _, _, _, _, G.out.1, G.out.2⟩
        case measure => exact meas_in Q.out.2.2.1
    · obtain ⟨h1, h2⟩ : 0 < nr ∧ (nr : Int) = s3 := hnb0.resolve_left hn0
      subst h2
      have b1 : 0 < (nb : Int) := by omega
      have b2 : ¬ ((nr : Int) ≤ 0) := by omega
      have b3 : 0 < (nr : Int) := by omega
      have b4 : ¬ ((nr : Int) < (nr : Int)) := by omega
      clear hs3 hnb0 hn0 h1
      go_wp2_with (first
        | (fail))
      go_roundw
      case rel => exact ⟨k + 1, Q.out.2.2.1, by go_num, _, _, _, _, _, G.out.1, G.out.2⟩
      case measure => exact meas_in Q.out.2.2.1
end Go.Proofs.Ytdebokambldbbaa.LawP
