/- weirref28.read: a body of a told length. (Printed by mkwrread2.py.) -/
import Derived.Test.YtojemdggbcklkaaDoorWRReadA

/- weirref28.read: the test of the head. (Printed by mkwrread2.py.) -/
namespace Go.Proofs.YtojemdggbcklkaaDoor.WireR
open Go.RowKit Go.Proofs.YtojemdggbcklkaaDoor.Mem Go.Proofs.YtojemdggbcklkaaDoor.Wire Go.Proofs.YtojemdggbcklkaaDoor.Strs Go.Proofs.YtojemdggbcklkaaDoor.Heads
set_option linter.unusedVariables false
set_option linter.unusedSimpArgs false
set_option maxRecDepth 4000
set_option maxHeartbeats 32000000
theorem rrF : rrA.1.1 := by
  intro s w S sn hsz hsni L0 R0 K0 HB w1 H2 S1 l t1 u1 p1 b0 sl C1 mm tg old sm stg sv kv C2 HS HE1 hs t2 u2 p2 hm C3 HH w4 S4 w5 A5 k5 S5 Q5 Cd Ld h m q hhi hmi hqi HOK HC Na Nb Nc wa Aa ca Sa Oa wb Ab cb Sb Oa2 Ob wc Ac cc Sc Ob2 Oc zz1 zz2 zz3 zz4 zz5 zz6 zz7 zz8
  obtain ⟨t, ht⟩ : ∃ t, t = m + q := ⟨_, rfl⟩
  have WW := Lib.hid (w64 (x := (m : Int) + (q : Int)) (y := (t : Int)) (by omega) (by omega) (by omega))
  clear hmi hqi
  by_cases h1 : 1 < h
  · have bh : decide ((1 : Int) < (h : Int)) = true := by rw [decide_eq_true_iff]; omega
    have hr := Lib.hid (show (!okHead hs old) = true by rw [HOK.out]; simp [Nat.not_le.2 h1])
    clear h1 ht
    have ww := WW.out
    go_wp2
    go_meet
    exact ⟨rfl, rfl, rfl, rfl, by rw [hr.out], gr wc⟩
  · have bh : decide ((1 : Int) < (h : Int)) = false := by rw [decide_eq_false_iff_not]; omega
    by_cases h0 : h = 0
    · have bh0 : ((h : Int) == 0) = true := by simp; omega
      have HH0 := Lib.hid h0
      cases old
      · have hr := Lib.hid (show (!okHead hs false) = true by rw [HOK.out]; simp [h0])
        clear h1 h0 ht
        have ww := WW.out
        go_wp2
        go_meet
        exact ⟨rfl, by rw [HH0.out], rfl, rfl, by rw [hr.out], gr wc⟩
      · by_cases m1 : 1 < m
        · have bm : decide ((1 : Int) < (m : Int)) = true := by rw [decide_eq_true_iff]; omega
          have hr := Lib.hid (show (!okHead hs true) = true by rw [HOK.out]; simp [h0, m1, Nat.not_le.2 m1])
          clear h1 h0 m1 ht
          have ww := WW.out
          go_wp2
          go_meet
          exact ⟨rfl, by rw [HH0.out], rfl, rfl, by rw [hr.out], gr wc⟩
        · have bm : decide ((1 : Int) < (m : Int)) = false := by rw [decide_eq_false_iff_not]; omega
          by_cases q1 : 1 < q
          · have bq : decide ((1 : Int) < (q : Int)) = true := by rw [decide_eq_true_iff]; omega
            have hr := Lib.hid (show (!okHead hs true) = true by rw [HOK.out]; simp [h0, Nat.not_le.2 q1])
            clear h1 h0 m1 q1 ht
            have ww := WW.out
            go_wp2
            go_meet
            exact ⟨rfl, by rw [HH0.out], rfl, rfl, by rw [hr.out], gr wc⟩
          · have bq : decide ((1 : Int) < (q : Int)) = false := by rw [decide_eq_false_iff_not]; omega
            by_cases s1 : 1 < m + q
            · have bs : decide ((1 : Int) < (t : Int)) = true := by rw [decide_eq_true_iff]; omega
              have hr := Lib.hid (show (!okHead hs true) = true by rw [HOK.out]; simp [h0, Nat.not_le.2 s1])
              clear h1 h0 m1 q1 s1 ht
              have ww := WW.out
              go_wp2
              go_meet
              exact ⟨rfl, by rw [HH0.out], rfl, rfl, by rw [hr.out], gr wc⟩
            · have bs : decide ((1 : Int) < (t : Int)) = false := by rw [decide_eq_false_iff_not]; omega
              by_cases q0 : q = 0
              · have bz : decide ((0 : Int) < (q : Int)) = false := by rw [decide_eq_false_iff_not]; omega
                have bzn : decide (0 < q) = false := by rw [decide_eq_false_iff_not]; omega
                have hr := Lib.hid (show (!okHead hs true) = false by rw [HOK.out]; simp [h0, Nat.not_lt.1 m1, Nat.not_lt.1 s1, q0, (by omega : m ≤ 1)])
                clear h1 h0 m1 q1 s1 q0 ht
                have ww := WW.out
                go_wp2
                go_meet
                exact ⟨rfl, by rw [HH0.out], rfl, rfl, by rw [hr.out], gr wc⟩
              · have bz : decide ((0 : Int) < (q : Int)) = true := by rw [decide_eq_true_iff]; omega
                have bzn : decide (0 < q) = true := by rw [decide_eq_true_iff]; omega
                have hr := Lib.hid (show (!okHead hs true) = true by rw [HOK.out]; simp [h0, q0])
                clear h1 h0 m1 q1 s1 q0 ht
                have ww := WW.out
                go_wp2
                go_meet
                exact ⟨rfl, by rw [HH0.out], rfl, rfl, by rw [hr.out], gr wc⟩
    · have bh0 : ((h : Int) == 0) = false := by rw [beq_eq_false_iff_ne]; omega
      have h01 : h = 1 := by omega
      cases old
      · by_cases m1 : 1 < m
        · have bm : decide ((1 : Int) < (m : Int)) = true := by rw [decide_eq_true_iff]; omega
          have hr := Lib.hid (show (!okHead hs false) = true by rw [HOK.out]; simp [h01, m1, Nat.not_le.2 m1])
          clear h1 h0 h01 m1 ht
          have ww := WW.out
          go_wp2
          go_meet
          exact ⟨rfl, rfl, rfl, rfl, by rw [hr.out], gr wc⟩
        · have bm : decide ((1 : Int) < (m : Int)) = false := by rw [decide_eq_false_iff_not]; omega
          by_cases q1 : 1 < q
          · have bq : decide ((1 : Int) < (q : Int)) = true := by rw [decide_eq_true_iff]; omega
            have hr := Lib.hid (show (!okHead hs false) = true by rw [HOK.out]; simp [h01, Nat.not_le.2 q1])
            clear h1 h0 h01 m1 q1 ht
            have ww := WW.out
            go_wp2
            go_meet
            exact ⟨rfl, rfl, rfl, rfl, by rw [hr.out], gr wc⟩
          · have bq : decide ((1 : Int) < (q : Int)) = false := by rw [decide_eq_false_iff_not]; omega
            by_cases s1 : 1 < m + q
            · have bs : decide ((1 : Int) < (t : Int)) = true := by rw [decide_eq_true_iff]; omega
              have hr := Lib.hid (show (!okHead hs false) = true by rw [HOK.out]; simp [h01, Nat.not_le.2 s1])
              clear h1 h0 h01 m1 q1 s1 ht
              have ww := WW.out
              go_wp2
              go_meet
              exact ⟨rfl, rfl, rfl, rfl, by rw [hr.out], gr wc⟩
            · have bs : decide ((1 : Int) < (t : Int)) = false := by rw [decide_eq_false_iff_not]; omega
              by_cases q0 : q = 0
              · have bz : decide ((0 : Int) < (q : Int)) = false := by rw [decide_eq_false_iff_not]; omega
                have bzn : decide (0 < q) = false := by rw [decide_eq_false_iff_not]; omega
                have hr := Lib.hid (show (!okHead hs false) = false by rw [HOK.out]; simp [h01, Nat.not_lt.1 m1, Nat.not_lt.1 s1, q0, (by omega : m ≤ 1)])
                clear h1 h0 h01 m1 q1 s1 q0 ht
                have ww := WW.out
                go_wp2
                go_meet
                exact ⟨rfl, rfl, rfl, rfl, by rw [hr.out], gr wc⟩
              · have bz : decide ((0 : Int) < (q : Int)) = true := by rw [decide_eq_true_iff]; omega
                have bzn : decide (0 < q) = true := by rw [decide_eq_true_iff]; omega
                have q01 : q = 1 := by omega
                obtain ⟨ad, rfl, hcell, hq9, hccc⟩ := one_cell (n := q) (L := Cd) (by rw [← HC.out.1]; exact Oc.out) (by rw [← HC.out.1, q01])
                clear hq9
                have hd := vals_mem (hs := hs) (name := nCode) (by rw [← HC.out.2.1]; exact head_mem (L := Cd) (by rw [← HC.out.1, q01])) HH.out.2.1
                have cs := fun W => rsame_any (headS Cd) nChunked W (by omega) (by decide)
                rw [show low nChunked = nChunked by decide] at cs
                obtain ⟨sd, hsd⟩ : ∃ x, x = (⟨(headS Cd).toArray⟩ : ByteArray) := ⟨_, rfl⟩
                rw [← hsd] at hcell cs
                have hq1i : (0 : Int) < (q : Int) := by omega
                have CS := Lib.hid cs
                by_cases ha : low (headS Cd) = nChunked
                · simp only [decide_eq_true ha] at cs
                  replace CS := Lib.hid cs
                  have hr := Lib.hid (show (!okHead hs false) = false by rw [HOK.out]; simp [h01, q01, ha, (by omega : m = 0)])
                  clear h1 h0 h01 m1 q1 s1 q0 q01 cs hd hsd ha ht
                  have ww := WW.out
                  go_wp2_with (first
                    | (go_at_call 43; go_must (refine (CS.out _).mono ?_); rintro e wt ⟨rfl, hbt⟩; have HT := Lib.hid hbt; clear hbt))
                  go_meet
                  exact ⟨rfl, rfl, rfl, rfl, by rw [hr.out], HT.out⟩
                · simp only [decide_eq_false ha] at cs
                  replace CS := Lib.hid cs
                  have hr := Lib.hid (show (!okHead hs false) = true by rw [HOK.out]; simp [h01, q01, ha, (by omega : m = 0)])
                  clear h1 h0 h01 m1 q1 s1 q0 q01 cs hd hsd ha ht
                  have ww := WW.out
                  go_wp2_with (first
                    | (go_at_call 43; go_must (refine (CS.out _).mono ?_); rintro e wt ⟨rfl, hbt⟩; have HT := Lib.hid hbt; clear hbt))
                  go_meet
                  exact ⟨rfl, rfl, rfl, rfl, by rw [hr.out], HT.out⟩
      · by_cases m1 : 1 < m
        · have bm : decide ((1 : Int) < (m : Int)) = true := by rw [decide_eq_true_iff]; omega
          have hr := Lib.hid (show (!okHead hs true) = true by rw [HOK.out]; simp [h01, m1, Nat.not_le.2 m1])
          clear h1 h0 h01 m1 ht
          have ww := WW.out
          go_wp2
          go_meet
          exact ⟨rfl, rfl, rfl, rfl, by rw [hr.out], gr wc⟩
        · have bm : decide ((1 : Int) < (m : Int)) = false := by rw [decide_eq_false_iff_not]; omega
          by_cases q1 : 1 < q
          · have bq : decide ((1 : Int) < (q : Int)) = true := by rw [decide_eq_true_iff]; omega
            have hr := Lib.hid (show (!okHead hs true) = true by rw [HOK.out]; simp [h01, Nat.not_le.2 q1])
            clear h1 h0 h01 m1 q1 ht
            have ww := WW.out
            go_wp2
            go_meet
            exact ⟨rfl, rfl, rfl, rfl, by rw [hr.out], gr wc⟩
          · have bq : decide ((1 : Int) < (q : Int)) = false := by rw [decide_eq_false_iff_not]; omega
            by_cases s1 : 1 < m + q
            · have bs : decide ((1 : Int) < (t : Int)) = true := by rw [decide_eq_true_iff]; omega
              have hr := Lib.hid (show (!okHead hs true) = true by rw [HOK.out]; simp [h01, Nat.not_le.2 s1])
              clear h1 h0 h01 m1 q1 s1 ht
              have ww := WW.out
              go_wp2
              go_meet
              exact ⟨rfl, rfl, rfl, rfl, by rw [hr.out], gr wc⟩
            · have bs : decide ((1 : Int) < (t : Int)) = false := by rw [decide_eq_false_iff_not]; omega
              by_cases q0 : q = 0
              · have bz : decide ((0 : Int) < (q : Int)) = false := by rw [decide_eq_false_iff_not]; omega
                have bzn : decide (0 < q) = false := by rw [decide_eq_false_iff_not]; omega
                have hr := Lib.hid (show (!okHead hs true) = false by rw [HOK.out]; simp [h01, Nat.not_lt.1 m1, Nat.not_lt.1 s1, q0, (by omega : m ≤ 1)])
                clear h1 h0 h01 m1 q1 s1 q0 ht
                have ww := WW.out
                go_wp2
                go_meet
                exact ⟨rfl, rfl, rfl, rfl, by rw [hr.out], gr wc⟩
              · have bz : decide ((0 : Int) < (q : Int)) = true := by rw [decide_eq_true_iff]; omega
                have bzn : decide (0 < q) = true := by rw [decide_eq_true_iff]; omega
                have hr := Lib.hid (show (!okHead hs true) = true by rw [HOK.out]; simp [h01, q0])
                clear h1 h0 h01 m1 q1 s1 q0 ht
                have ww := WW.out
                go_wp2
                go_meet
                exact ⟨rfl, rfl, rfl, rfl, by rw [hr.out], gr wc⟩
end Go.Proofs.YtojemdggbcklkaaDoor.WireR

/- weirref28.read: a body in chunks. (Printed by mkwrread2.py.) -/
namespace Go.Proofs.YtojemdggbcklkaaDoor.WireR
open Go.RowKit Go.Proofs.YtojemdggbcklkaaDoor.Mem Go.Proofs.YtojemdggbcklkaaDoor.Wire Go.Proofs.YtojemdggbcklkaaDoor.Strs Go.Proofs.YtojemdggbcklkaaDoor.Heads
set_option linter.unusedVariables false
set_option linter.unusedSimpArgs false
set_option maxRecDepth 4000
set_option maxHeartbeats 32000000
theorem rrC : rrA.1.2.1 := by
  intro s w S sn hsz hsni L0 R0 K0 HB w1 H2 S1 l t1 u1 p1 b0 sl C1 mm tg old sm stg sv kv C2 HS HE1 hs t2 u2 p2 hm C3 HH w4 S4 w5 A5 k5 S5 Q5 Cd Ld h m q hhi hmi hqi HOK HC Na Nb Nc wa Aa ca Sa Oa wb Ab cb Sb Oa2 Ob wc Ac cc Sc Ob2 Oc zz1 zz2 zz3 zz4 w9' u22 u23 u24 u25 u26 u27 u28 u29 u30 u31 u32 u33 u34 u35 u36 u37 u38 u39 u40 u41 u42 u43 u44 u45 u46 u47 u48 u49 u50 u51 u52 u53 u54 u55 u56 u57 u58 u59 u60 u61 u62 u63 u64 u65 u66 u67 u68 u69 u70 u71 u72 u73 u74 u75 u76 u77 u78 u79 u80 u81 u82 u83 u84 u85 u86 u87 u88 u89 u90 u91 u92 u93 u94 u95 u96 u97 u98 u99 u100 u101 u102 u103 u104 u105 u106 u107 u109 u110 u111 u112 u113 u114 u115 u116 u117 u118 u119 u120 u121 u122 u123 u124 u125 u126 u127 u128 u129 u130 u131 u132 u133 u134 u135 u136 u137 u138 u139 u140 u141 u142 u143 u144 u145 u146 u147 u148 u149 u150 u151 u152 u153 u154 u155 u156 u157 u158 u159 u160 u161 u162 u163 u164 u165 u166 u167 u168 u169 u170 u171 u172 S9 O9 HBO hm1 hq1 hmq hm0 bm0 bm0n hL0 hj hq0
  have bq0 : decide ((0 : Int) < (q : Int)) = true := by rw [decide_eq_true_iff]; omega
  have bq0n : decide (0 < q) = true := by rw [decide_eq_true_iff]; omega
  have hC0 : (vals hs nCode).isEmpty = false := by
    have h1 := HC.out.1
    rw [HC.out.2.1] at h1
    cases hv : vals hs nCode with
    | nil => rw [hv] at h1; exact absurd h1 hq0
    | cons a r => rfl
  rw [if_neg (by rw [hC0]; simp)] at hj
  have hp2s : p2 ≤ s.length := by have := HH.out.2.2.2.2.1; omega
  have c7 := K0.out p2 hp2s
  obtain ⟨r, hr⟩ : ∃ r, r = chunksS p2 (s.drop p2) := ⟨_, rfl⟩
  have hbr : bodyS .chunked (s.length - t2.length) t2 = r := by rw [hr, ← HH.out.2.2.2.2.1, ← HH.out.2.2.2.1]; rfl
  rw [← hr] at c7
  cases r with
  | err er =>
    have HE := Lib.hid (show readS s = .err er by rw [HE1.out]; exact rt_body_err HH.out.2.2.2.2.2.1 hj hbr)
    have hy0 : ((er : Nat) : Int) ≠ 0 := by have := body_err hbr; omega
    have C7 := Lib.hid c7
    clear c7 hr hbr hj hC0 hL0 hm0 hq0 hm1 hq1 hmq hp2s
    go_wp2_with (first
      | (go_at_call 45; go_must (refine (C7.out _).mono ?_); rintro e w10 ⟨⟨xb, rfl⟩, hb10⟩; have S10 := Lib.hid (S9.out.below hb10); clear hb10)
      | ((with_reducible show wpList _ _ _ (⟨none, .store _ (.tmp 2) _, _, _, _, _⟩ :: _) _ _); go_must (refine wpList_storeB AR rfl (.tmp 2) (.tmp 153) rfl H2 0 rfl [.string ⟨#[]⟩, .string ⟨#[]⟩, .slice none 0 0, .slice none 0 0, .bool false] rfl rfl _ _ S10.out.h2 (by simp) (by simp [Value.oneCell']) ?_); intro w9 hB9 hg9 hz9
         have c0 := hB9.cell 0
         have c1 := hB9.cell 1
         have c2 := hB9.cell 2
         have c3 := hB9.cell 3
         have c4 := hB9.cell 4
         simp only [splice, List.take_zero, List.nil_append, List.length_cons, List.length_nil, List.drop_succ_cons, List.drop_zero, List.append_nil, List.getElem?_cons_zero, List.getElem?_cons_succ, Nat.zero_add, List.drop_nil] at c0 c1 c2 c3 c4
         clear hB9 hz9))
    refine bodyPost_ret (v := .tuple #[.agg #[.string ⟨#[]⟩, .string ⟨#[]⟩, .slice none 0 0, .slice none 0 0, .bool false], .int .i64 0, .int .i64 (er : Nat)]) (by simp [results, Tryd.results30, go_sem, c0, c1, c2, c3, c4]) rfl ?_
    exact rrd_err (HE.out) (S10.out.low.grown hg9 S10.out.low.size (fun j hj => by injection hj with hj; have := S10.out.h2e; omega)) rfl
  | ok xb t3 =>
    obtain ⟨p3, hp3⟩ : ∃ p, p = s.length - t3.length := ⟨_, rfl⟩
    have hxl : xb.length ≤ 65536 := by
      have h9 := chunks_len p2 hr.symm
      have := HB.out.1
      rw [List.length_drop] at h9
      omega
    have HE := Lib.hid (show readS s = .ok ⟨mm, tg, hs, xb, endS hs old⟩ t3 by rw [HE1.out]; exact rt_ok HH.out.2.2.2.2.2.1 hj hbr)
    obtain ⟨sb, hsb⟩ : ∃ x, x = (⟨xb.toArray⟩ : ByteArray) := ⟨_, rfl⟩
    unfold RChunksPost at c7
    simp only at c7
    rw [← hp3, ← hsb] at c7
    have C7 := Lib.hid c7
    have HSB := Lib.hid (And.intro hsb hxl)
    have HP3 := Lib.hid hp3
    clear c7 hr hbr hj hC0 hL0 hm0 hq0 hm1 hq1 hmq hp2s hsb hxl hp3
    go_upto_region 29 with (first
      | (go_at_call 45; go_must (refine (C7.out _).mono ?_); rintro e w10 ⟨rfl, hb10⟩; have S10 := Lib.hid (S9.out.below hb10); clear hb10))
    obtain ⟨bc, hbc⟩ : ∃ b, b = connS hs nClose := ⟨_, rfl⟩
    obtain ⟨bk, hbk⟩ : ∃ b, b = connS hs nKeep := ⟨_, rfl⟩
    have HBC := Lib.hid hbc
    have HBK := Lib.hid hbk
    have HCL := Lib.hid (show endS hs old = (bc || (old && !bk)) by unfold endS; rw [hbc, hbk])
    clear hbc hbk
    go_cut [15, 21] from 22 (fun v15 v21 wx => v15 = .bool old ∧ v21 = .bool (bc || (old && !bk)) ∧ Below w10.heap.size w10 wx)
    case first =>
      cases bc
      · cases old
        · go_wp2_with (first
            | (go_at_call 46; (with_reducible show Calls _ _ #[_, .string ⟨#[99, 108, 111, 115, 101]⟩] _ _); go_must (refine (connection_any A5 hm k5 hs nClose _ S10.out.rv HH.out.1 HH.out.2.1 (by have := HH.out.1; have := HH.out.2.2.1; omega) (by decide) (by decide)).mono ?_); rintro e wk1 ⟨he, hbk1⟩; rw [← HBC.out] at he; subst he; have T1 := Lib.hid (hbk1); clear hbk1))
          go_meet
          exact ⟨rfl, rfl, T1.out⟩
        · cases bk
          · go_wp2_with (first
              | (go_at_call 46; (with_reducible show Calls _ _ #[_, .string ⟨#[99, 108, 111, 115, 101]⟩] _ _); go_must (refine (connection_any A5 hm k5 hs nClose _ S10.out.rv HH.out.1 HH.out.2.1 (by have := HH.out.1; have := HH.out.2.2.1; omega) (by decide) (by decide)).mono ?_); rintro e wk1 ⟨he, hbk1⟩; rw [← HBC.out] at he; subst he; have T1 := Lib.hid (hbk1); clear hbk1)
              | (go_at_call 46; (with_reducible show Calls _ _ #[_, .string ⟨#[107, 101, 101, 112, 45, 97, 108, 105, 118, 101]⟩] _ _); go_must (refine (connection_any A5 hm k5 hs nKeep _ (S10.out.rv.below T1.out) HH.out.1 HH.out.2.1 (by have := HH.out.1; have := HH.out.2.2.1; omega) (by decide) (by decide)).mono ?_); rintro e wk2 ⟨he, hbk2⟩; rw [← HBK.out] at he; subst he; have T2 := Lib.hid (gt T1.out hbk2); clear hbk2))
            go_meet
            exact ⟨rfl, rfl, T2.out⟩
          · go_wp2_with (first
              | (go_at_call 46; (with_reducible show Calls _ _ #[_, .string ⟨#[99, 108, 111, 115, 101]⟩] _ _); go_must (refine (connection_any A5 hm k5 hs nClose _ S10.out.rv HH.out.1 HH.out.2.1 (by have := HH.out.1; have := HH.out.2.2.1; omega) (by decide) (by decide)).mono ?_); rintro e wk1 ⟨he, hbk1⟩; rw [← HBC.out] at he; subst he; have T1 := Lib.hid (hbk1); clear hbk1)
              | (go_at_call 46; (with_reducible show Calls _ _ #[_, .string ⟨#[107, 101, 101, 112, 45, 97, 108, 105, 118, 101]⟩] _ _); go_must (refine (connection_any A5 hm k5 hs nKeep _ (S10.out.rv.below T1.out) HH.out.1 HH.out.2.1 (by have := HH.out.1; have := HH.out.2.2.1; omega) (by decide) (by decide)).mono ?_); rintro e wk2 ⟨he, hbk2⟩; rw [← HBK.out] at he; subst he; have T2 := Lib.hid (gt T1.out hbk2); clear hbk2))
            go_meet
            exact ⟨rfl, rfl, T2.out⟩
      · go_wp2_with (first
          | (go_at_call 46; (with_reducible show Calls _ _ #[_, .string ⟨#[99, 108, 111, 115, 101]⟩] _ _); go_must (refine (connection_any A5 hm k5 hs nClose _ S10.out.rv HH.out.1 HH.out.2.1 (by have := HH.out.1; have := HH.out.2.2.1; omega) (by decide) (by decide)).mono ?_); rintro e wk1 ⟨he, hbk1⟩; rw [← HBC.out] at he; subst he; have T1 := Lib.hid (hbk1); clear hbk1))
        go_meet
        exact ⟨rfl, by cases old <;> rfl, T1.out⟩
    case rest =>
      obtain ⟨rfl, rfl, hbx⟩ := hcut
      rename World => w20
      have S20 := Lib.hid (S10.out.below hbx)
      clear hbx
      obtain ⟨cl, hcl⟩ : ∃ c, c = (bc || (old && !bk)) := ⟨_, rfl⟩
      rw [← hcl]
      rw [← hcl] at HCL
      clear hcl
      go_wp2_with (first
        | ((with_reducible show wpList _ _ _ (⟨some 169, _, _, _, _, _⟩ :: _) _ _); go_must (refine wpList_convB (src := 9) (dst := 22) (e := 5) rfl (.tmp 168) rfl Tryd.underlying9 Tryd.underlying22 Tryd.underlying5 xb (by rw [← HSB.out.1]; rfl) (by have := HSB.out.2; unfold maxLen; omega) ?_); intro A7 k7 w21 hr21 ha21 hb21; have S21 := Lib.hid (S20.out.below hb21); have R21 := Lib.hid (And.intro hr21 ha21); clear hr21 ha21 hb21)
        | ((with_reducible show wpList _ _ _ (⟨none, .store _ (.tmp 2) _, _, _, _, _⟩ :: _) _ _); go_must (refine wpList_storeB AR rfl (.tmp 2) (.tmp 171) rfl H2 0 rfl [.string sm, .string stg, .slice A5 hm k5, .slice A7 xb.length k7, .bool cl] rfl rfl _ _ S21.out.h2 (by simp) (by simp [Value.oneCell']) ?_); intro w9 hB9 hg9 hz9
           have c0 := hB9.cell 0
           have c1 := hB9.cell 1
           have c2 := hB9.cell 2
           have c3 := hB9.cell 3
           have c4 := hB9.cell 4
           simp only [splice, List.take_zero, List.nil_append, List.length_cons, List.length_nil, List.drop_succ_cons, List.drop_zero, List.append_nil, List.getElem?_cons_zero, List.getElem?_cons_succ, Nat.zero_add, List.drop_nil] at c0 c1 c2 c3 c4
           clear hB9 hz9))
      refine bodyPost_ret (v := .tuple #[.agg #[.string sm, .string stg, .slice A5 hm k5, .slice A7 xb.length k7, .bool cl], .int .i64 (p3 : Int), .int .i64 0]) (by simp [results, Tryd.results30, go_sem, c0, c1, c2, c3, c4]) rfl ?_
      have hlow := S21.out.low.grown hg9 S21.out.low.size (fun j hj => by injection hj with hj; have := S21.out.h2e; omega)
      refine rrd_ok (HE.out) hlow (A := A5) (k := k5) (A2 := A7) (k2 := k7) (by rw [HCL.out, ← HS.out.1, ← HS.out.2.1, ← HH.out.1, ← HP3.out]; try rfl) ?_ ?_ S21.out.sp (fun ad e => by have := R21.out.2 ad e; have := S20.out.low.size; omega)
      · exact rv_far S21.out.rv hg9 S21.out.ne
      · exact RB.grown R21.out.1 (fun _ ad e => by have := R21.out.2 ad e; have := S20.out.h2.lt; omega) hg9
end Go.Proofs.YtojemdggbcklkaaDoor.WireR
namespace Go.Proofs.YtojemdggbcklkaaDoor.WireR
open Go.RowKit Go.Proofs.YtojemdggbcklkaaDoor.Mem Go.Proofs.YtojemdggbcklkaaDoor.Wire Go.Proofs.YtojemdggbcklkaaDoor.Strs Go.Proofs.YtojemdggbcklkaaDoor.Heads
set_option linter.unusedVariables false
set_option linter.unusedSimpArgs false
set_option maxRecDepth 4000
set_option maxHeartbeats 32000000
theorem rrL : rrA.1.2.2 := by
  intro s w S sn hsz hsni L0 R0 K0 HB w1 H2 S1 l t1 u1 p1 b0 sl C1 mm tg old sm stg sv kv C2 HS HE1 hs t2 u2 p2 hm C3 HH w4 S4 w5 A5 k5 S5 Q5 Cd Ld h m q hhi hmi hqi HOK HC Na Nb Nc wa Aa ca Sa Oa wb Ab cb Sb Oa2 Ob wc Ac cc Sc Ob2 Oc zz1 zz2 zz3 zz4 w9' u22 u23 u24 u25 u26 u27 u28 u29 u30 u31 u32 u33 u34 u35 u36 u37 u38 u39 u40 u41 u42 u43 u44 u45 u46 u47 u48 u49 u50 u51 u52 u53 u54 u55 u56 u57 u58 u59 u60 u61 u62 u63 u64 u65 u66 u67 u68 u69 u70 u71 u72 u73 u74 u75 u76 u77 u78 u79 u80 u81 u82 u83 u84 u85 u86 u87 u88 u89 u90 u91 u92 u93 u94 u95 u96 u97 u98 u99 u100 u101 u102 u103 u104 u105 u106 u107 u109 u110 u111 u112 u113 u114 u115 u116 u117 u118 u119 u120 u121 u122 u123 u124 u125 u126 u127 u128 u129 u130 u131 u132 u133 u134 u135 u136 u137 u138 u139 u140 u141 u142 u143 u144 u145 u146 u147 u148 u149 u150 u151 u152 u153 u154 u155 u156 u157 u158 u159 u160 u161 u162 u163 u164 u165 u166 u167 u168 u169 u170 u171 u172 S9 O9 HBO hm1 hq1 hmq hm0
  have hm01 : m = 1 := by omega
  have hq0 : q = 0 := by omega
  have bm0 : decide ((0 : Int) < (m : Int)) = true := by rw [decide_eq_true_iff]; omega
  have bm0n : decide (0 < m) = true := by rw [decide_eq_true_iff]; omega
  have bq0 : decide ((0 : Int) < (q : Int)) = false := by rw [decide_eq_false_iff_not]; omega
  have bq0n : decide (0 < q) = false := by rw [decide_eq_false_iff_not]; omega
  have hL1 : Ld.length = 1 := by rw [← HC.out.2.2.1]; exact hm01
  obtain ⟨ad, rfl, hcell, hm9, hcb⟩ := one_cell (n := m) (L := Ld) (by have := O9.out; rw [HC.out.2.2.1] at this ⊢; exact this) hL1
  clear hm9
  have hmi1 : (0 : Int) < (m : Int) := by omega
  obtain ⟨d, hd⟩ : ∃ d, d = headS Ld := ⟨_, rfl⟩
  have hdl : d.length ≤ 65536 := by
    have h1 : d ∈ vals hs nLong := by rw [hd, ← HC.out.2.2.2]; exact head_mem hL1
    unfold vals at h1
    rw [List.mem_map] at h1
    obtain ⟨x, hx, rfl⟩ := h1
    exact HH.out.2.2.2.2.2.2 x (List.mem_filter.1 hx).1
  have hj := jg_one HBO.out (d := d) (by rw [← HC.out.2.2.2]; exact hL1) (by rw [hd, HC.out.2.2.2])
  have c8 := fun W => length_any d W hdl
  obtain ⟨sd, hsd⟩ : ∃ x, x = (⟨d.toArray⟩ : ByteArray) := ⟨_, rfl⟩
  rw [← hd, ← hsd] at hcell
  rw [← hsd] at c8
  have hlen : lenS d = if d ≠ [] ∧ d.all digB = true then ((min (numS d) 65537 : Nat) : Int) else -1 := rfl
  by_cases hval : d ≠ [] ∧ d.all digB = true
  · rw [if_pos hval] at hj hlen
    rw [hlen] at c8
    obtain ⟨N, hN⟩ : ∃ N, N = numS d := ⟨_, rfl⟩
    obtain ⟨M, hM⟩ : ∃ M, M = min N 65537 := ⟨_, rfl⟩
    rw [← hN, ← hM] at c8
    rw [← hN] at hj
    have C8 := Lib.hid c8
    have hM7 : M ≤ 65537 := by omega
    have bneg : decide ((M : Int) < 0) = false := by rw [decide_eq_false_iff_not]; omega
    have bneg' : ¬ (M : Int) < 0 := by omega
    have hp2s : p2 ≤ s.length := by have := HH.out.2.2.2.2.1; omega
    have hs65 := HB.out.1
    obtain ⟨T1, hT1⟩ : ∃ t, t = p2 + M := ⟨_, rfl⟩
    have WW := Lib.hid (w64 (x := (p2 : Int) + (M : Int)) (y := (T1 : Int)) (by omega) (by omega) (by omega))
    have hbd : bodyS (.long N) (s.length - t2.length) t2 = if 65536 < p2 + N then .err 284 else if (s.drop p2).length < N then .err 283 else .ok ((s.drop p2).take N) ((s.drop p2).drop N) := by
      rw [← HH.out.2.2.2.2.1, HH.out.2.2.2.1]; unfold bodyS; rfl
    by_cases hbig : 65536 < T1
    · have bb : decide ((65536 : Int) < (T1 : Int)) = true := by rw [decide_eq_true_iff]; omega
      rw [if_pos (by omega)] at hbd
      have HE := Lib.hid (show readS s = .err 284 by rw [HE1.out]; exact rt_body_err HH.out.2.2.2.2.2.1 hj hbd)
      clear hj hlen hval c8 hN hM hM7 hp2s hs65 hT1 hbd hbig hd hdl hsd hm01 hq0 hm1 hq1 hmq hm0 hL1
      have ww := WW.out
      go_wp2_with (first
        | (go_at_call 44; go_must (refine (C8.out _).mono ?_); rintro e w10 ⟨rfl, hw10⟩; rw [← hw10]; clear hw10 w10)
        | ((with_reducible show wpList _ _ _ (⟨none, .store _ (.tmp 2) _, _, _, _, _⟩ :: _) _ _); go_must (refine wpList_storeB AR rfl (.tmp 2) (.tmp 124) rfl H2 0 rfl [.string ⟨#[]⟩, .string ⟨#[]⟩, .slice none 0 0, .slice none 0 0, .bool false] rfl rfl _ _ S9.out.h2 (by simp) (by simp [Value.oneCell']) ?_); intro w9 hB9 hg9 hz9
           have c0 := hB9.cell 0
           have c1 := hB9.cell 1
           have c2 := hB9.cell 2
           have c3 := hB9.cell 3
           have c4 := hB9.cell 4
           simp only [splice, List.take_zero, List.nil_append, List.length_cons, List.length_nil, List.drop_succ_cons, List.drop_zero, List.append_nil, List.getElem?_cons_zero, List.getElem?_cons_succ, Nat.zero_add, List.drop_nil] at c0 c1 c2 c3 c4
           clear hB9 hz9))
      refine bodyPost_ret (v := .tuple #[.agg #[.string ⟨#[]⟩, .string ⟨#[]⟩, .slice none 0 0, .slice none 0 0, .bool false], .int .i64 0, .int .i64 284]) (by simp [results, Tryd.results30, go_sem, c0, c1, c2, c3, c4]) rfl ?_
      exact rrd_err (HE.out) (S9.out.low.grown hg9 S9.out.low.size (fun j hj => by injection hj with hj; have := S9.out.h2e; omega)) rfl
    · have bb : decide ((65536 : Int) < (T1 : Int)) = false := by rw [decide_eq_false_iff_not]; omega
      have hMN : M = N := by omega
      rw [if_neg (by omega)] at hbd
      by_cases hshort : sn < T1
      · have bs : decide ((sn : Int) < (T1 : Int)) = true := by rw [decide_eq_true_iff]; omega
        have bsn : decide (sn < T1) = true := decide_eq_true hshort
        have bsp : sn < T1 := hshort
        rw [if_pos (by rw [List.length_drop]; have := HB.out.2.1; omega)] at hbd
        have HE := Lib.hid (show readS s = .err 283 by rw [HE1.out]; exact rt_body_err HH.out.2.2.2.2.2.1 hj hbd)
        clear hj hlen hval c8 hN hM hM7 hp2s hs65 hT1 hbd hbig hd hdl hsd hm01 hq0 hm1 hq1 hmq hm0 hL1 hMN hshort
        have ww := WW.out
        go_wp2_with (first
          | (go_at_call 44; go_must (refine (C8.out _).mono ?_); rintro e w10 ⟨rfl, hw10⟩; rw [← hw10]; clear hw10 w10)
          | ((with_reducible show wpList _ _ _ (⟨none, .store _ (.tmp 2) _, _, _, _, _⟩ :: _) _ _); go_must (refine wpList_storeB AR rfl (.tmp 2) (.tmp 131) rfl H2 0 rfl [.string ⟨#[]⟩, .string ⟨#[]⟩, .slice none 0 0, .slice none 0 0, .bool false] rfl rfl _ _ S9.out.h2 (by simp) (by simp [Value.oneCell']) ?_); intro w9 hB9 hg9 hz9
             have c0 := hB9.cell 0
             have c1 := hB9.cell 1
             have c2 := hB9.cell 2
             have c3 := hB9.cell 3
             have c4 := hB9.cell 4
             simp only [splice, List.take_zero, List.nil_append, List.length_cons, List.length_nil, List.drop_succ_cons, List.drop_zero, List.append_nil, List.getElem?_cons_zero, List.getElem?_cons_succ, Nat.zero_add, List.drop_nil] at c0 c1 c2 c3 c4
             clear hB9 hz9))
        refine bodyPost_ret (v := .tuple #[.agg #[.string ⟨#[]⟩, .string ⟨#[]⟩, .slice none 0 0, .slice none 0 0, .bool false], .int .i64 0, .int .i64 283]) (by simp [results, Tryd.results30, go_sem, c0, c1, c2, c3, c4]) rfl ?_
        exact rrd_err (HE.out) (S9.out.low.grown hg9 S9.out.low.size (fun j hj => by injection hj with hj; have := S9.out.h2e; omega)) rfl
      · have bs : decide ((sn : Int) < (T1 : Int)) = false := by rw [decide_eq_false_iff_not]; omega
        have bsn : decide (sn < T1) = false := decide_eq_false hshort
        have bsp : ¬ sn < T1 := hshort
        have hsn := HB.out.2.1
        rw [if_neg (by rw [List.length_drop]; omega), List.drop_drop, ← hMN, ← hT1] at hbd
        obtain ⟨xb, hxb⟩ : ∃ x, x = (s.drop p2).take M := ⟨_, rfl⟩
        obtain ⟨sb, hsb⟩ : ∃ x, x = (⟨xb.toArray⟩ : ByteArray) := ⟨_, rfl⟩
        have ex : S.extract p2 T1 = sb := by
          rw [HB.out.2.2, hsb, hxb, Lib.extract_eq]
          show (⟨((s.drop p2).take _).toArray⟩ : ByteArray) = _
          rw [show T1 - p2 = M by omega]
        rw [← hxb] at hbd
        have hp3 : T1 = s.length - (s.drop T1).length := by rw [List.length_drop]; omega
        have HP3 := Lib.hid hp3
        have HSB := Lib.hid (And.intro hsb (show xb.length ≤ 65536 by rw [hxb, List.length_take]; omega))
        rw [hMN] at hbd
        have HE := Lib.hid (show readS s = .ok ⟨mm, tg, hs, xb, endS hs old⟩ (s.drop T1) by rw [HE1.out]; exact rt_ok HH.out.2.2.2.2.2.1 hj hbd)
        have i1 : (p2 : Int) ≤ (T1 : Int) := by omega
        have i2 : ¬ T1 < p2 := by omega
        have i3 : (T1 : Int) ≤ (sn : Int) := by omega
        clear hj hlen hval c8 hN hM hM7 hp2s hs65 hT1 hbd hbig hd hdl hsd hm01 hq0 hm1 hq1 hmq hm0 hL1 hMN hshort hsb hxb hp3 hsn
        have ww := WW.out
        go_upto_region 29 with (first
          | (go_at_call 44; go_must (refine (C8.out _).mono ?_); rintro e w10 ⟨rfl, hw10⟩; rw [← hw10]; clear hw10 w10))
        rw [ww]
        clear ww bs bsn bsp bb bneg bneg' bm0 bm0n bq0 bq0n i1 i2 i3 ex hcell
        obtain ⟨bc, hbc⟩ : ∃ b, b = connS hs nClose := ⟨_, rfl⟩
        obtain ⟨bk, hbk⟩ : ∃ b, b = connS hs nKeep := ⟨_, rfl⟩
        have HBC := Lib.hid hbc
        have HBK := Lib.hid hbk
        have HCL := Lib.hid (show endS hs old = (bc || (old && !bk)) by unfold endS; rw [hbc, hbk])
        clear hbc hbk
        go_cut [15, 21] from 22 (fun v15 v21 wx => v15 = .bool old ∧ v21 = .bool (bc || (old && !bk)) ∧ Below w9'.heap.size w9' wx)
        case first =>
          cases bc
          · cases old
            · go_wp2_with (first
                | (go_at_call 46; (with_reducible show Calls _ _ #[_, .string ⟨#[99, 108, 111, 115, 101]⟩] _ _); go_must (refine (connection_any A5 hm k5 hs nClose _ S9.out.rv HH.out.1 HH.out.2.1 (by have := HH.out.1; have := HH.out.2.2.1; omega) (by decide) (by decide)).mono ?_); rintro e wk1 ⟨he, hbk1⟩; rw [← HBC.out] at he; subst he; have T1 := Lib.hid (hbk1); clear hbk1))
              go_meet
              exact ⟨rfl, rfl, T1.out⟩
            · cases bk
              · go_wp2_with (first
                  | (go_at_call 46; (with_reducible show Calls _ _ #[_, .string ⟨#[99, 108, 111, 115, 101]⟩] _ _); go_must (refine (connection_any A5 hm k5 hs nClose _ S9.out.rv HH.out.1 HH.out.2.1 (by have := HH.out.1; have := HH.out.2.2.1; omega) (by decide) (by decide)).mono ?_); rintro e wk1 ⟨he, hbk1⟩; rw [← HBC.out] at he; subst he; have T1 := Lib.hid (hbk1); clear hbk1)
                  | (go_at_call 46; (with_reducible show Calls _ _ #[_, .string ⟨#[107, 101, 101, 112, 45, 97, 108, 105, 118, 101]⟩] _ _); go_must (refine (connection_any A5 hm k5 hs nKeep _ (S9.out.rv.below T1.out) HH.out.1 HH.out.2.1 (by have := HH.out.1; have := HH.out.2.2.1; omega) (by decide) (by decide)).mono ?_); rintro e wk2 ⟨he, hbk2⟩; rw [← HBK.out] at he; subst he; have T2 := Lib.hid (gt T1.out hbk2); clear hbk2))
                go_meet
                exact ⟨rfl, rfl, T2.out⟩
              · go_wp2_with (first
                  | (go_at_call 46; (with_reducible show Calls _ _ #[_, .string ⟨#[99, 108, 111, 115, 101]⟩] _ _); go_must (refine (connection_any A5 hm k5 hs nClose _ S9.out.rv HH.out.1 HH.out.2.1 (by have := HH.out.1; have := HH.out.2.2.1; omega) (by decide) (by decide)).mono ?_); rintro e wk1 ⟨he, hbk1⟩; rw [← HBC.out] at he; subst he; have T1 := Lib.hid (hbk1); clear hbk1)
                  | (go_at_call 46; (with_reducible show Calls _ _ #[_, .string ⟨#[107, 101, 101, 112, 45, 97, 108, 105, 118, 101]⟩] _ _); go_must (refine (connection_any A5 hm k5 hs nKeep _ (S9.out.rv.below T1.out) HH.out.1 HH.out.2.1 (by have := HH.out.1; have := HH.out.2.2.1; omega) (by decide) (by decide)).mono ?_); rintro e wk2 ⟨he, hbk2⟩; rw [← HBK.out] at he; subst he; have T2 := Lib.hid (gt T1.out hbk2); clear hbk2))
                go_meet
                exact ⟨rfl, rfl, T2.out⟩
          · go_wp2_with (first
              | (go_at_call 46; (with_reducible show Calls _ _ #[_, .string ⟨#[99, 108, 111, 115, 101]⟩] _ _); go_must (refine (connection_any A5 hm k5 hs nClose _ S9.out.rv HH.out.1 HH.out.2.1 (by have := HH.out.1; have := HH.out.2.2.1; omega) (by decide) (by decide)).mono ?_); rintro e wk1 ⟨he, hbk1⟩; rw [← HBC.out] at he; subst he; have T1 := Lib.hid (hbk1); clear hbk1))
            go_meet
            exact ⟨rfl, by cases old <;> rfl, T1.out⟩
        case rest =>
          obtain ⟨rfl, rfl, hbx⟩ := hcut
          rename World => w20
          have S20 := Lib.hid (S9.out.below hbx)
          clear hbx
          obtain ⟨cl, hcl⟩ : ∃ c, c = (bc || (old && !bk)) := ⟨_, rfl⟩
          rw [← hcl]
          rw [← hcl] at HCL
          clear hcl
          go_wp2_with (first
            | ((with_reducible show wpList _ _ _ (⟨some 169, _, _, _, _, _⟩ :: _) _ _); go_must (refine wpList_convB (src := 9) (dst := 22) (e := 5) rfl (.tmp 168) rfl Tryd.underlying9 Tryd.underlying22 Tryd.underlying5 xb (by rw [← HSB.out.1]; rfl) (by have := HSB.out.2; unfold maxLen; omega) ?_); intro A7 k7 w21 hr21 ha21 hb21; have S21 := Lib.hid (S20.out.below hb21); have R21 := Lib.hid (And.intro hr21 ha21); clear hr21 ha21 hb21)
            | ((with_reducible show wpList _ _ _ (⟨none, .store _ (.tmp 2) _, _, _, _, _⟩ :: _) _ _); go_must (refine wpList_storeB AR rfl (.tmp 2) (.tmp 171) rfl H2 0 rfl [.string sm, .string stg, .slice A5 hm k5, .slice A7 xb.length k7, .bool cl] rfl rfl _ _ S21.out.h2 (by simp) (by simp [Value.oneCell']) ?_); intro w9 hB9 hg9 hz9
               have c0 := hB9.cell 0
               have c1 := hB9.cell 1
               have c2 := hB9.cell 2
               have c3 := hB9.cell 3
               have c4 := hB9.cell 4
               simp only [splice, List.take_zero, List.nil_append, List.length_cons, List.length_nil, List.drop_succ_cons, List.drop_zero, List.append_nil, List.getElem?_cons_zero, List.getElem?_cons_succ, Nat.zero_add, List.drop_nil] at c0 c1 c2 c3 c4
               clear hB9 hz9))
          refine bodyPost_ret (v := .tuple #[.agg #[.string sm, .string stg, .slice A5 hm k5, .slice A7 xb.length k7, .bool cl], .int .i64 (T1 : Int), .int .i64 0]) (by simp [results, Tryd.results30, go_sem, c0, c1, c2, c3, c4]) rfl ?_
          have hlow := S21.out.low.grown hg9 S21.out.low.size (fun j hj => by injection hj with hj; have := S21.out.h2e; omega)
          refine rrd_ok (HE.out) hlow (A := A5) (k := k5) (A2 := A7) (k2 := k7) (by rw [HCL.out, ← HS.out.1, ← HS.out.2.1, ← HH.out.1, ← HP3.out]; try rfl) ?_ ?_ S21.out.sp (fun ad e => by have := R21.out.2 ad e; have := S20.out.low.size; omega)
          · exact rv_far S21.out.rv hg9 S21.out.ne
          · exact RB.grown R21.out.1 (fun _ ad e => by have := R21.out.2 ad e; have := S20.out.h2.lt; omega) hg9
  · rw [if_neg hval] at hj hlen
    rw [hlen] at c8
    have C8 := Lib.hid c8
    have HE := Lib.hid (show readS s = .err 281 by rw [HE1.out, rt_none HH.out.2.2.2.2.2.1 hj])
    clear hj hlen hval c8 hd hdl hsd hm01 hq0 hm1 hq1 hmq hm0 hL1
    go_wp2_with (first
      | (go_at_call 44; go_must (refine (C8.out _).mono ?_); rintro e w10 ⟨rfl, hw10⟩; rw [← hw10]; clear hw10 w10)
      | ((with_reducible show wpList _ _ _ (⟨none, .store _ (.tmp 2) _, _, _, _, _⟩ :: _) _ _); go_must (refine wpList_storeB AR rfl (.tmp 2) (.tmp 119) rfl H2 0 rfl [.string ⟨#[]⟩, .string ⟨#[]⟩, .slice none 0 0, .slice none 0 0, .bool false] rfl rfl _ _ S9.out.h2 (by simp) (by simp [Value.oneCell']) ?_); intro w9 hB9 hg9 hz9
         have c0 := hB9.cell 0
         have c1 := hB9.cell 1
         have c2 := hB9.cell 2
         have c3 := hB9.cell 3
         have c4 := hB9.cell 4
         simp only [splice, List.take_zero, List.nil_append, List.length_cons, List.length_nil, List.drop_succ_cons, List.drop_zero, List.append_nil, List.getElem?_cons_zero, List.getElem?_cons_succ, Nat.zero_add, List.drop_nil] at c0 c1 c2 c3 c4
         clear hB9 hz9))
    refine bodyPost_ret (v := .tuple #[.agg #[.string ⟨#[]⟩, .string ⟨#[]⟩, .slice none 0 0, .slice none 0 0, .bool false], .int .i64 0, .int .i64 281]) (by simp [results, Tryd.results30, go_sem, c0, c1, c2, c3, c4]) rfl ?_
    exact rrd_err (HE.out) (S9.out.low.grown hg9 S9.out.low.size (fun j hj => by injection hj with hj; have := S9.out.h2e; omega)) rfl
end Go.Proofs.YtojemdggbcklkaaDoor.WireR
