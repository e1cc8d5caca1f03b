/- weirlaw28.WireKeeps: a part of the walk. (Printed by mkwkcut.py.) -/
import Derived.Test.YtojemdggbcklkaaDoorWKeepsA
namespace Go.Proofs.YtojemdggbcklkaaDoor.WireR
open Go.RowKit Go.Proofs.YtojemdggbcklkaaDoor.Mem Go.Proofs.YtojemdggbcklkaaDoor.Wire Go.Proofs.YtojemdggbcklkaaDoor.Strs Go.Proofs.YtojemdggbcklkaaDoor.Heads
set_option linter.unusedVariables false
set_option linter.unusedSimpArgs false
set_option maxRecDepth 8000
set_option maxHeartbeats 32000000
theorem wkB : wkA.1.2.1 := by
  intro A n c raw z w HA b3 HN hn2 zz1 w1 w2 u47 u48 u49 u50 u51 u52 u53 b u55 u56 u57 k W3 p1 p2 m D1 D2 HP HR wc u58 u59 u60 u61 u62 u63 u64 u65 u66 u67 u68 u69 u70 u71 u72 u73 u92 u93 u94 u95 u96 u97 u98 u99 u100 u101 u102 u103 u104 u105 u106 u107 u108 u109 u110 u111 u112 u113 u114 u115 u116 u117 u118 u119 u120 u121 u122 u123 u124 u125 u126 u127 u128 u129 u130 u131 u132 u133 u134 u135 u136 u137 u138 u139 u140 u141 u142 u143 u144 u145 u146 u147 u148 u149 u150 u151 u152 u153 u154 u155 u156 u157 u158 u159 u160 u161 u162 u163 u164 u165 u166 u167 u168 u169 u170 u171 u172 u173 u174 u175 u176 u177 u178 u179 u180 u181 u182 u183 u184 u185 u186 u187 u188 u189 u190 u191 u192 u193 u194 u195 u196 u197 u198 u199 u200 u201 u202 u203 u204 u205 u206 u207 u208 u209 u210 u211 u212 u213 u214 u215 u216 u217 u218 u219 u220 u221 u222 u223 u224 u225 u226 u227 u228 u229 u230 u231 u232 u233 u234 u235 u236 u237 u238 u239 u240 u241 u242 u243 u244 u245 u246 u247 u248 u249 u250 u251 u252 u253 u254 u255 u256 u257 u258 u259 u260 Aa ca Ab cb XL xn G1 G2 CP HAB HG w9 v9' K9 A9 c9 H9 zz429 zz430 oa HS9 wr u4 u74 u75 u76 u77 u78 u79 u80 u81 u82 u83 u84 u85 u86 u87 u88 u89 u90 u91 i hik hgr how hlt
  have ho := how (by omega)
  obtain ⟨ga, hga, _, _⟩ := Mem.own_addr ho (by omega)
  subst hga
  have hoa := HS9.out.2.2.1 (by omega)
  have hlowr : Below w.heap.size w wr := HS9.out.2.1.grown hgr HS9.out.2.1.size (fun j hj => by have := (HS9.out.2.2.2 j hj).2.1; have := HG.out.2.1; have := HG.out.2.2.1; have := HG.out.2.2.2.2.1; omega)
  have hip : i < p1.length := by rw [← HP.out.2.2.2.1]; exact hlt
  have hir : i < raw.length := by have := HP.out.2.2.2.2.2.2.1; have := HA.out.2.1; omega
  obtain ⟨yn, hyn⟩ : ∃ y, y = (p1[i]).toNat := ⟨_, rfl⟩
  have hcell1 : wr.cell? ⟨ga, i, none⟩ = some (.int .u8 (yn : Int)) := by
    rw [ho.cellAt i (by omega), List.getElem?_map, at_next 122 p1 hip, Option.map_some, hyn]
    try rfl
  obtain ⟨ad, hAd, hcell2⟩ := (HA.out.1.below hlowr) i hir
  have hyr : bv raw[i] = .int .u8 (yn : Int) := by
    have h9 : raw[i]? = some p1[i] := by
      rw [← HP.out.2.2.2.2.2.1, List.getElem?_append_left hip, List.getElem?_eq_getElem hip]
    rw [List.getElem?_eq_getElem hir] at h9
    injection h9 with h9
    rw [h9, hyn]; try rfl
  rw [hyr] at hcell2
  subst hAd
  have hi0 : (0 : Int) ≤ (i : Int) := by omega
  have hik2 : (i : Int) < (k : Int) := by omega
  have hin2 : (i : Int) < (n : Int) := by have := HP.out.2.2.2.2.2.2.1; omega
  have HO := Lib.hid (And.intro ho (And.intro hgr (And.intro hip (And.intro hlowr hoa))))
  clear hoa ho how hgr hlowr hir hyn hyr hip
  go_upto_region 13 with fail
  try simp only [Act.put, List.setIfInBounds_toArray, List.set_cons_succ, List.set_cons_zero]
  refine wp_region_qb (by kernel_rfl) (by kernel_rfl) ?_
  go_big_quiet_step (fail)
  go_big_quiet_step (fail)
  refine wq_val (o := ⟨some 82, _, _, _, _, _⟩) (v := .pointer (some ⟨ga, i, none⟩)) rfl (fun w' hC => by go_simp) ?_
  simp only [Act.put, List.setIfInBounds_toArray, List.set_cons_succ, List.set_cons_zero]
  refine wq_val (o := ⟨some 83, _, _, _, _, _⟩) (v := .int .u8 (yn : Int)) rfl (fun w' hC => by have := cell_grow hcell1 hC; go_simp) ?_
  simp only [Act.put, List.setIfInBounds_toArray, List.set_cons_succ, List.set_cons_zero]
  go_big_quiet_step (fail)
  go_big_quiet_step (fail)
  refine wq_val (o := ⟨some 86, _, _, _, _, _⟩) (v := .pointer (some (ad.add i))) rfl (fun w' hC => by go_simp) ?_
  simp only [Act.put, List.setIfInBounds_toArray, List.set_cons_succ, List.set_cons_zero]
  refine wq_val (o := ⟨some 87, _, _, _, _, _⟩) (v := .int .u8 (yn : Int)) rfl (fun w' hC => by have := cell_grow hcell2 hC; go_simp) ?_
  simp only [Act.put, List.setIfInBounds_toArray, List.set_cons_succ, List.set_cons_zero]
  refine wq_val (o := ⟨some 88, _, _, _, _, _⟩) (v := .bool false) rfl (fun w' hC => by go_simp) ?_
  simp only [Act.put, List.setIfInBounds_toArray, List.set_cons_succ, List.set_cons_zero]
  refine wpQuiet_nil ?_
  intro w13 h13
  have hcell3 := cell_grow hcell1 h13
  have ho13 := own_below' HO.out.1 h13
  have hfz := ho13.frozenAt i
  have HQ := Lib.hid (And.intro h13 ho13)
  clear h13 ho13 hcell1 hcell2
  go_wp2
  have hst := (HQ.out.2.stored i (bv 122)).1
  refine ⟨⟨i + 1, by rw [Int.natCast_add]; rfl, by omega, HO.out.2.1.trans (by rw [HO.out.2.2.2.2]; exact (grown_of HQ.out.1).trans (grownBy_set w13 ga i _)), fun _ => ?_⟩, by simp only [intOf]; omega⟩
  rw [← List.map_set, set_next 122 p1 HO.out.2.2.1] at hst
  exact hst
theorem wkC : wkA.1.2.2.1 := by
  intro A n c raw z w HA b3 HN hn2 zz1 w1 w2 u47 u48 u49 u50 u51 u52 u53 b u55 u56 u57 k W3 p1 p2 m D1 D2 HP HR wc u58 u59 u60 u61 u62 u63 u64 u65 u66 u67 u68 u69 u70 u71 u72 u73 u135 u136 u137 u138 u139 u140 u141 u142 u143 u144 u145 u146 u147 u148 u149 u150 u151 u152 u153 u154 u155 u156 u157 u158 u159 u160 u161 u162 u163 u164 u165 u166 u167 u168 u169 u170 u171 u172 u173 u174 u175 u176 u177 u178 u179 u180 u181 u182 u183 u184 u185 u186 u187 u188 u189 u190 u191 u192 u193 u194 u195 u196 u197 u198 u199 u200 u201 u202 u203 u204 u205 u206 u207 u208 u209 u210 u211 u212 u213 u214 u215 u216 u217 u218 u219 u220 u221 u222 u223 u224 u225 u226 u227 u228 u229 u230 u231 u232 u233 u234 u235 u236 u237 u238 u239 u240 u241 u242 u243 u244 u245 u246 u247 u248 u249 u250 u251 u252 u253 u254 u255 u256 u257 u258 u259 u260 Aa ca Ab cb XL xn G1 G2 CP HAB HG w9 v9' K9 A9 c9 H9 oa HS9 u4 u74 u75 u76 u77 u78 u79 u80 u81 u82 u83 u84 u85 u86 u87 u88 u89 u90 u91 zz474 zz478 zz479 xs vh vb nh nb hx0 bx0 hxn wa HM HZ lo HLO hxni wr u13 u14 u92 u93 u94 u95 u96 u97 u98 u99 u100 u101 u102 u103 u104 u105 u106 u107 u108 u109 u110 u111 u112 u113 u114 u115 u116 u117 u118 u119 u120 u121 u122 u123 u124 u125 u126 u127 u128 u129 u130 u131 u132 u133 u134 i hx bx hix hkx hgs hfil hlt
  obtain ⟨g9, hg9, _, _⟩ := Mem.own_addr hkx.x (by omega)
  subst hg9
  obtain ⟨A2, c2, hvb, hc2⟩ := own_slice (hkx.b i hlt)
  obtain ⟨A3, c3, hvh, hc3⟩ := own_slice (hkx.h i hlt)
  obtain ⟨nbi, hnbi⟩ : ∃ x, x = nb i := ⟨_, rfl⟩
  obtain ⟨nhi, hnhi⟩ : ∃ x, x = nh i := ⟨_, rfl⟩
  rw [← hnbi] at hvb hc2
  rw [← hnhi] at hvh hc3
  have hcellb : ∀ W hx' bx', KX W xn lo K9 (.slice (some ⟨g9, 0, none⟩) xn c9) xs vh vb nh nb hx' bx' → W.cell? ⟨g9, i * 5 + 3, none⟩ = some (.slice A2 nbi c2) := fun W hx' bx' h => by
    rw [h.x.cellAt (i * 5 + 3) (by omega), (h.cell i hlt).2, hvb]
  have hcellh : ∀ W hx' bx', KX W xn lo K9 (.slice (some ⟨g9, 0, none⟩) xn c9) xs vh vb nh nb hx' bx' → W.cell? ⟨g9, i * 5 + 2, none⟩ = some (.slice A3 nhi c3) := fun W hx' bx' h => by
    rw [h.x.cellAt (i * 5 + 2) (by omega), (h.cell i hlt).1, hvh]
  obtain ⟨yn, hyn⟩ : ∃ y, y = (UInt8.ofNat i).toNat := ⟨_, rfl⟩
  have hy1 : (i : Int) % 256 = (yn : Int) := by rw [hyn, UInt8.toNat_ofNat']; omega
  have hy2 : IntKind.u8.wrap (i : Int) = (yn : Int) := by rw [hyn, UInt8.toNat_ofNat']; simp [IntKind.wrap, IntKind.bits, IntKind.signed]
  have hnb65 : (nbi : Int) ≤ 65536 := by have := (HM.out.2.2.2.2.1 i).2; omega
  have hnh65 : (nhi : Int) ≤ 65536 := by have := (HM.out.2.2.2.2.1 i).1; omega
  have hi0 : (0 : Int) ≤ (i : Int) := by omega
  have hlt' : (i : Int) < (xn : Int) := by omega
  have HC := Lib.hid (And.intro hcellb (And.intro hcellh (And.intro hvb (And.intro hvh (And.intro hnbi (And.intro hnhi (And.intro hyn (And.intro (hkx.blen hlt) hfil))))))))
  have HKX := Lib.hid (And.intro hkx hgs)
  clear hcellb hcellh hvb hvh hnbi hnhi hyn hkx hgs hfil hc2 hc3
  go_wp2
  go_loopw [13] (fun v13 w2 => ∃ j : Nat, v13 = .int .i64 j ∧ j ≤ nbi ∧ KX w2 xn lo K9 (.slice (some ⟨g9, 0, none⟩) xn c9) xs vh vb nh nb hx (fupd bx i (List.replicate j (UInt8.ofNat i) ++ (bx i).drop j)) ∧ GrownS wa w2 (fun q => lo ≤ q ∧ q < K9)) (fun v13 _ => nbi - (intOf v13).toNat)
  case atStart => exact ⟨0, rfl, Nat.zero_le _, by rw [List.replicate_zero, List.nil_append, List.drop_zero, fupd_self]; exact HKX.out.1, HKX.out.2⟩
  case round =>
    obtain ⟨j, rfl, hjb, hkx, hgs⟩ := hrel
    have hcb := HC.out.1 _ _ _ hkx
    by_cases hjl : j < nbi
    · have hob := hkx.b i hlt
      rw [HC.out.2.2.1, ← HC.out.2.2.2.2.1] at hob
      obtain ⟨g2, hg2, _, _⟩ := Mem.own_addr hob (by omega)
      subst hg2
      have hce : ∃ u, wr.cell? ⟨g2, j, none⟩ = some u := own_has hob (by omega)
      obtain ⟨u, hce⟩ := hce
      have hfz := hob.frozenAt j
      have hj0 : (0 : Int) ≤ (j : Int) := by omega
      have hjl' : (j : Int) < (nbi : Int) := by omega
      have HKJ := Lib.hid (And.intro hkx (And.intro hgs hob))
      clear hkx hgs hob
      go_wp2
      have hset := HKJ.out.1.fill hlt (HC.out.2.2.1.trans (by rw [HC.out.2.2.2.2.1])) (by rw [HC.out.2.2.2.2.2.2.2.1, ← HC.out.2.2.2.2.1]; exact hjl)
      have hgs2 := HKJ.out.2.1.step (grownBy_set wr g2 j (bv (UInt8.ofNat i))) (fun q e => by injection e with e; exact .inl ⟨by have := (HKJ.out.2.2.lt g2 rfl).1; omega, by have := HKJ.out.1.blt i hlt g2 (by rw [HC.out.2.2.1]; rfl); omega⟩)
      have hbv : bv (UInt8.ofNat i) = .int .u8 (yn : Int) := by rw [HC.out.2.2.2.2.2.2.1]; try rfl
      rw [hbv] at hset hgs2
      exact ⟨⟨j + 1, by rw [Int.natCast_add]; rfl, by omega, hset, hgs2⟩, by simp only [intOf]; omega⟩
    · have bj : decide ((j : Int) < (nbi : Int)) = false := by rw [decide_eq_false_iff_not]; omega
      have hje : j = nbi := by omega
      rw [hje] at hkx
      obtain ⟨bx2, hbx2⟩ : ∃ f, f = fupd bx i (List.replicate nbi (UInt8.ofNat i) ++ (bx i).drop nbi) := ⟨_, rfl⟩
      rw [← hbx2] at hkx
      have hfil2 : ∀ q, q < i + 1 → bx2 q = List.replicate (nb q) (UInt8.ofNat q) := fun q hq => by
        rw [hbx2]
        by_cases e : q = i
        · subst e
          rw [fupd_same, List.drop_of_length_le (by rw [HC.out.2.2.2.2.2.2.2.1, ← HC.out.2.2.2.2.1]; exact Nat.le_refl _), List.append_nil, ← HC.out.2.2.2.2.1]
        · rw [fupd_ne _ _ e]
          exact HC.out.2.2.2.2.2.2.2.2 q (by omega)
      have HK2 := Lib.hid (And.intro hkx hgs)
      have HF2 := Lib.hid hfil2
      clear hkx hgs hbx2 hfil2 hje hjb
      go_wp2
      go_loopw [14] (fun v14 w2 => ∃ (j : Nat) (hx2 : Nat → List Value), v14 = .int .i64 j ∧ j ≤ nhi ∧ KX w2 xn lo K9 (.slice (some ⟨g9, 0, none⟩) xn c9) xs vh vb nh nb hx2 bx2 ∧ GrownS wa w2 (fun q => lo ≤ q ∧ q < K9)) (fun v14 _ => nhi - (intOf v14).toNat)
      case atStart => exact ⟨0, hx, rfl, Nat.zero_le _, HK2.out.1, HK2.out.2⟩
      case round =>
        clear HK2
        obtain ⟨t, hx2, rfl, hth, hkx, hgs⟩ := hrel
        have hch := HC.out.2.1 _ _ _ hkx
        by_cases htl : t < nhi
        · have hoh := hkx.h i hlt
          rw [HC.out.2.2.2.1, ← HC.out.2.2.2.2.2.1] at hoh
          obtain ⟨g3, hg3, _, _⟩ := Mem.own_addr hoh (by omega)
          subst hg3
          obtain ⟨cs, hblk, hcsl, hlo3, hnc3, hcm3⟩ := own_blk hoh
          have ht0 : (0 : Int) ≤ (t : Int) := by omega
          have htl' : (t : Int) < (nhi : Int) := by omega
          have HKT := Lib.hid (And.intro hkx (And.intro hgs (And.intro hblk (And.intro hcsl (And.intro hlo3 (And.intro hnc3 hcm3))))))
          clear hkx hgs hoh hblk hcsl hlo3 hnc3 hcm3
          go_wp2_with (first
            | ((with_reducible show wpList _ _ _ (⟨none, .store _ (.tmp 134) _, _, _, _, _⟩ :: _) _ _); go_must (refine wpList_storeB AH rfl (.tmp 134) (.tmp 133) rfl g3 (t * 2) rfl [.string ⟨#[109, 97, 114, 107, 101, 100]⟩, .string ⟨#[]⟩] rfl rfl _ _ HKT.out.2.2.1 (by have := HKT.out.2.2.2.1; have := HKT.out.2.2.2.2.2.1; simp; omega) (by simp [Value.oneCell']) ?_); intro w4 hBy hgy hzy; have H4 := Lib.hid (And.intro hBy hgy); clear hBy hgy hzy))
          have hown4 := blk_own (n := nhi) H4.out.1 (by rw [splice_len _ _ _ (by have := HKT.out.2.2.2.1; have := HKT.out.2.2.2.2.2.1; simp; omega)]; exact HKT.out.2.2.2.1) HKT.out.2.2.2.2.1 HKT.out.2.2.2.2.2.1 HKT.out.2.2.2.2.2.2
          rw [← HC.out.2.2.2.1, HC.out.2.2.2.2.2.1] at hown4
          have hk4 := HKT.out.1.hdr (i := i) (g := g3) hlt (by rw [HC.out.2.2.2.1]; rfl) H4.out.2 hown4
          have hgs4 := HKT.out.2.1.step H4.out.2 (fun q e => by injection e with e; exact .inl ⟨by have := HKT.out.2.2.2.2.1; omega, by have := HKT.out.1.hlt i hlt g3 (by rw [HC.out.2.2.2.1]; rfl); omega⟩)
          exact ⟨⟨t + 1, _, by rw [Int.natCast_add]; rfl, by omega, hk4, hgs4⟩, by simp only [intOf]; omega⟩
        · have bt : decide ((t : Int) < (nhi : Int)) = false := by rw [decide_eq_false_iff_not]; omega
          have HK3 := Lib.hid (And.intro hkx hgs)
          clear hkx hgs
          go_wp2
          exact ⟨⟨i + 1, hx2, bx2, by rw [Int.natCast_add]; rfl, by omega, HK3.out.1, HK3.out.2, HF2.out⟩, by simp only [intOf]; omega⟩
theorem wkD : wkA.1.2.2.2.1 := by
  intro A n c raw z w HA b3 HN hn2 zz1 w1 w2 u47 u48 u49 u50 u51 u52 u53 b u55 u56 u57 k W3 p1 p2 m D1 D2 HP HR wc u58 u59 u60 u61 u62 u63 u64 u65 u66 u67 u68 u69 u70 u71 u72 u73 u170 u171 u172 u173 u174 u175 u176 u177 u178 u179 u180 u181 u182 u183 u184 u185 u186 u187 u188 u189 u190 u191 u192 u193 u194 u195 u196 u197 u198 u199 u200 u201 u202 u203 u204 u205 u206 u207 u208 u209 u210 u211 u212 u213 u214 u215 u216 u217 u218 u219 u220 u221 u222 u223 u224 u225 u226 u227 u228 u229 u230 u231 u232 u233 u234 u235 u236 u237 u238 u239 u240 u241 u242 u243 u244 u245 u246 u247 u248 u249 u250 u251 u252 u253 u254 u255 u256 u257 u258 u259 u260 Aa ca Ab cb XL xn G1 G2 CP HAB HG w9 v9' K9 A9 c9 H9 oa HS9 u74 u75 u76 u77 u78 u79 u80 u81 u82 u83 u84 u85 u86 u87 u88 u89 u90 u91 zz510 xs vh vb nh nb hx0 bx0 hxn wa HM HZ lo HLO hxni u13 u14 u92 u93 u94 u95 u96 u97 u98 u99 u100 u101 u102 u103 u104 u105 u106 u107 u108 u109 u110 u111 u112 u113 u114 u115 u116 u117 u118 u119 u120 u121 u122 u123 u124 u125 u126 u127 u128 u129 u130 u131 u132 u133 u134 i hx bx HFI zz519 zz520 wr u4 u16 u17 u18 u19 u135 u136 u137 u138 u139 u140 u141 u142 u143 u144 u145 u146 u147 u148 u149 u150 u151 u152 u153 u154 u155 u156 u157 u158 u159 u160 u161 u162 u163 u164 u165 u166 u167 u168 u169 r hr2 hkx hgs hrl
  have br : decide ((r : Int) < 2) = true := by rw [decide_eq_true_eq]; omega
  have hr2i : (r : Int) < 2 := by omega
  have HK6 := Lib.hid (And.intro hkx hgs)
  clear hkx hgs
  go_wp2
  go_loopw [16] (fun v16 w2 => ∃ i : Nat, v16 = .int .i64 i ∧ i ≤ xn ∧ KX w2 xn lo K9 (.slice A9 xn c9) xs vh vb nh nb hx bx ∧ GrownS wa w2 (fun q => lo ≤ q ∧ q < K9)) (fun v16 _ => xn - (intOf v16).toNat)
  case atStart => exact ⟨0, rfl, Nat.zero_le _, HK6.out.1, HK6.out.2⟩
  case round =>
    clear HK6
    obtain ⟨i2, rfl, hi2, hkx, hgs⟩ := hrel
    by_cases hlt : i2 < xn
    · obtain ⟨g9, hg9, _, _⟩ := Mem.own_addr hkx.x (by omega)
      subst hg9
      obtain ⟨A2, c2, hvb, hc2⟩ := own_slice (hkx.b i2 hlt)
      obtain ⟨nbi, hnbi⟩ : ∃ x, x = nb i2 := ⟨_, rfl⟩
      rw [← hnbi] at hvb hc2
      have hcb : wr.cell? ⟨g9, i2 * 5 + 3, none⟩ = some (.slice A2 nbi c2) := by
        rw [hkx.x.cellAt (i2 * 5 + 3) (by omega), (hkx.cell i2 hlt).2, hvb]
      obtain ⟨yn, hyn⟩ : ∃ y, y = (UInt8.ofNat i2).toNat := ⟨_, rfl⟩
      have hy1 : (i2 : Int) % 256 = (yn : Int) := by rw [hyn, UInt8.toNat_ofNat']; omega
      have hy2 : IntKind.u8.wrap (i2 : Int) = (yn : Int) := by rw [hyn, UInt8.toNat_ofNat']; simp [IntKind.wrap, IntKind.bits, IntKind.signed]
      have hnb65 : (nbi : Int) ≤ 65536 := by have := (HM.out.2.2.2.2.1 i2).2; omega
      have hi0 : (0 : Int) ≤ (i2 : Int) := by omega
      have hlt' : (i2 : Int) < (xn : Int) := by omega
      have HC := Lib.hid (And.intro hvb (And.intro hnbi (And.intro hyn (And.intro (HFI.out i2 hlt) hc2))))
      have HK7 := Lib.hid (And.intro hkx hgs)
      clear hvb hnbi hyn hkx hgs hc2
      go_wp2
      go_loopw [18] (fun v18 w2 => ∃ j : Nat, v18 = .int .i64 j ∧ j ≤ nbi ∧ KX w2 xn lo K9 (.slice (some ⟨g9, 0, none⟩) xn c9) xs vh vb nh nb hx bx ∧ GrownS wa w2 (fun q => lo ≤ q ∧ q < K9)) (fun v18 _ => nbi - (intOf v18).toNat)
      case atStart => exact ⟨0, rfl, Nat.zero_le _, HK7.out.1, HK7.out.2⟩
      case round =>
        clear HK7 hcb
        obtain ⟨j, rfl, hjb, hkx, hgs⟩ := hrel
        by_cases hjl : j < nbi
        · have hob := hkx.b i2 hlt
          rw [HC.out.1, ← HC.out.2.1] at hob
          obtain ⟨g2, hg2, _, _⟩ := Mem.own_addr hob (by omega)
          subst hg2
          have hce : wr.cell? ⟨g2, j, none⟩ = some (.int .u8 (yn : Int)) := by
            rw [hob.cellAt j (by omega), HC.out.2.2.2.1, List.getElem?_map, List.getElem?_replicate, if_pos (by rw [← HC.out.2.1]; exact hjl), Option.map_some, HC.out.2.2.1]
            try rfl
          have hj0 : (0 : Int) ≤ (j : Int) := by omega
          have hjl' : (j : Int) < (nbi : Int) := by omega
          have HKJ := Lib.hid (And.intro hkx hgs)
          clear hkx hgs hob
          go_wp2
          exact ⟨⟨j + 1, by rw [Int.natCast_add]; rfl, by omega, HKJ.out.1, HKJ.out.2⟩, by simp only [intOf]; omega⟩
        · have bj : decide ((j : Int) < (nbi : Int)) = false := by rw [decide_eq_false_iff_not]; omega
          have HK8 := Lib.hid (And.intro hkx hgs)
          have hob8 := hkx.b i2 hlt
          rw [HC.out.1, ← HC.out.2.1] at hob8
          have HO8 := Lib.hid hob8
          clear hkx hgs hob8
          go_wp2
          go_loopw [17, 19] (fun v17 v19 w2 => ∃ t : Nat, v19 = .int .i64 t ∧ t ≤ 80 ∧ w2.ownsRow lo 5 1 v17 (nbi + t) ((bx i2).map bv ++ List.replicate t (bv 113)) ∧ (v17.ownBlock = (vb i2).ownBlock ∨ ∀ g, v17.ownBlock = some g → wa.heap.size ≤ g) ∧ KX w2 xn lo K9 (.slice (some ⟨g9, 0, none⟩) xn c9) xs vh vb nh nb hx bx ∧ GrownS wa w2 (fun q => lo ≤ q ∧ q < K9)) (fun _ v19 _ => 80 - (intOf v19).toNat)
          case atStart => exact ⟨0, rfl, by omega, by rw [Nat.add_zero, List.replicate_zero, List.append_nil]; exact HO8.out, .inl (by rw [HC.out.1]), HK8.out.1, HK8.out.2⟩
          case round =>
            clear HK8 HO8 bj
            obtain ⟨t, rfl, ht80, hown, hov, hkx, hgs⟩ := hrel
            by_cases htl : t < 80
            · have bt : decide ((t : Int) < 80) = true := by rw [decide_eq_true_eq]; omega
              have ht80i : (t : Int) < 80 := by omega
              have HKT := Lib.hid (And.intro hown (And.intro hov (And.intro hkx hgs)))
              clear hown hov hkx hgs
              go_wp2_with (first
                | ((with_reducible show wpList _ _ _ (⟨some 168, _, _, _, _, _⟩ :: _) _ _); go_must (refine wpList_build1 EB rfl (.const (.int .u8 113)) rfl (by decide) [.int .u8 113] rfl rfl wr.heap.size rfl ?_); intro w4 hB4 hb4 hz4; have H4 := Lib.hid (And.intro hB4 hb4); clear hB4 hb4 hz4)
                | ((with_reducible show wpList _ _ _ (⟨some 169, _, _, _, _, _⟩ :: _) _ _); go_must (refine wpList_app2 EB rfl (.tmp 167) (.tmp 168) rfl lo _ (nbi + t) _ rfl (own_below' HKT.out.1 H4.out.2) (some ⟨wr.heap.size, 0, none⟩) 1 1 [.int .u8 113] rfl H4.out.1.rv rfl (by intro u hu; simp at hu; rw [hu]; rfl) (by unfold maxLen; omega) (by omega) (by have := HKT.out.2.2.2.size; have := HZ.out; have := H9.out.2.1; have := H9.out.2.2.1; have := HLO.out; have := H4.out.2.size; omega) ?_); intro v17 w5 ho5 hg5 hv5 hk5; have H5 := Lib.hid (And.intro ho5 (And.intro hg5 (And.intro hv5 hk5))); clear ho5 hg5 hv5 hk5))
              have z1 := HKT.out.2.2.2.size
              have z2 := HZ.out
              have z3 := H9.out.2.2.1
              have z4 := H4.out.2.size
              have hk4 := HKT.out.2.2.1.keep (W' := w4) (fun q _ hq => H4.out.2.block q (by omega))
              have hgs4 := HKT.out.2.2.2.below H4.out.2
              have hk5 := hk4.app (i := i2) hlt H5.out.2.1 H5.out.2.2.2 (by rw [← HC.out.2.1]; omega) (by
                rcases HKT.out.2.1 with h | h
                · exact .inl h
                · exact .inr (fun g e => by have := h g e; omega))
              have hgs5 := hgs4.step H5.out.2.1 (fun q e => by
                rcases HKT.out.2.1 with h | h
                · exact .inl ⟨((hk4.b i2 hlt).lt q (h ▸ e)).1, hk4.blt i2 hlt q (h ▸ e)⟩
                · exact .inr (h q e))
              refine ⟨⟨t + 1, by rw [Int.natCast_add]; rfl, by omega, ?_, ?_, hk5, hgs5⟩, by simp only [intOf]; omega⟩
              · have := H5.out.1
                rw [List.append_assoc, show [Value.int IntKind.u8 113] = [bv 113] from rfl, ← List.replicate_succ'] at this
                exact this
              · rcases H5.out.2.2.1 with h | h
                · rw [h]; exact HKT.out.2.1
                · refine .inr (fun g e => ?_)
                  rw [h] at e; injection e with e; omega
            · have bt : decide ((t : Int) < 80) = false := by rw [decide_eq_false_iff_not]; omega
              have HKE := Lib.hid (And.intro hkx hgs)
              clear hkx hgs hown hov
              go_wp2
              exact ⟨⟨i2 + 1, by rw [Int.natCast_add]; rfl, by omega, HKE.out.1, HKE.out.2⟩, by simp only [intOf]; omega⟩
    · have b1 : decide ((i2 : Int) < (xn : Int)) = false := by rw [decide_eq_false_iff_not]; omega
      have HKE := Lib.hid (And.intro hkx hgs)
      clear hkx hgs
      go_wp2
      exact ⟨⟨r + 1, by rw [Int.natCast_add]; rfl, by omega, HKE.out.1, HKE.out.2⟩, by simp only [intOf]; omega⟩
end Go.Proofs.YtojemdggbcklkaaDoor.WireR
