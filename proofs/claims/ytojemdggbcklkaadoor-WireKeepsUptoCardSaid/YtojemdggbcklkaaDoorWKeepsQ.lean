/- weirlaw28.WireKeeps: a part of the walk. (Printed by mkwkcut.py.) -/
import Derived.Test.YtojemdggbcklkaaDoorWKeepsA
namespace Go.Proofs.YtojemdggbcklkaaDoor.WireR
open Go.RowKit Go.Proofs.YtojemdggbcklkaaDoor.Mem Go.Proofs.YtojemdggbcklkaaDoor.Wire Go.Proofs.YtojemdggbcklkaaDoor.Strs Go.Proofs.YtojemdggbcklkaaDoor.Heads
set_option linter.unusedVariables false
set_option linter.unusedSimpArgs false
set_option maxRecDepth 8000
set_option maxHeartbeats 32000000
theorem wkQ : wkA.1.2.2.2.2.2 := by
  intro A n c raw z w HA b3 HN hn2 zz1 w1 w2 u47 u48 u49 u50 u51 u52 u53 b u55 u56 u57 k W3 p1 p2 m D1 D2 HP wc u58 u59 u60 u61 u62 u63 u64 u65 u66 u67 u68 u69 u70 u71 u72 u73 u170 u171 u172 u173 u174 u175 u185 u186 u187 u188 u189 u190 u191 u192 u193 u194 u195 u196 u197 u198 u199 u200 u201 u202 u203 u204 u205 u206 u207 u208 u209 u210 u211 u212 u213 u214 u215 u216 u217 u218 u219 u220 u221 u222 u223 u224 u225 u226 u227 u228 u229 u230 u231 u232 u233 u234 u235 u236 u237 u238 u239 u240 u241 u242 u243 u244 u245 u246 u247 u248 u249 u250 u251 u252 u253 u254 u255 u256 u257 u258 u259 u260 Aa ca Ab cb XL xn G1 G2 w9 v9' K9 A9 c9 oa u74 u75 u76 u77 u78 u79 u80 u81 u82 u83 u84 u85 u86 u87 u88 u89 u90 u91 zz519 xs vh vb nh nb hx0 bx0 hxn wa lo hxni u13 u14 u92 u93 u94 u95 u96 u97 u98 u99 u100 u101 u102 u103 u104 u105 u106 u107 u108 u109 u110 u111 u112 u113 u114 u115 u116 u117 u118 u119 u120 u121 u122 u123 u124 u125 u126 u127 u128 u129 u130 u131 u132 u133 u134 i hx bx u4 u16 u17 u18 u19 u135 u136 u137 u138 u139 u140 u141 u142 u143 u144 u145 u146 u147 u148 u149 u150 u151 u152 u153 u154 u155 u156 u157 u158 u159 u160 u161 u162 u163 u164 u165 u166 u167 u168 u169 r YL yn fe w10 v10' K10 A10 c10 ob hmi wr u176 u177 u178 u179 u180 u181 u182 u183 u184 i3 an w11 w12 S12 c12 w13 v13' K13 A13 c13 fr D HD w15 zz537 zz538 HW15 rq N smm stg hm bl cl CR SM
  go_upto_region 54 with (first
    | ((with_reducible show wpList _ _ _ (⟨some 223, _, _, _, _, _⟩ :: _) _ _); go_must (refine Seal.wpList_zeroG EB (by decide) rfl rfl w15.heap.size rfl ?_); intro w16 ho4 hb4 hz4; have O16 := Lib.hid (OwnB.of_own (l := []) ho4); have H16 := Lib.hid hb4; clear ho4 hb4 hz4)
    | ((with_reducible show wpList _ _ _ (⟨some 225, _, _, _, _, _⟩ :: _) _ _); go_must (refine wpList_appBB rfl (.tmp 223) (.tmp 224) rfl Tryd.underlying22 (by kernel_rfl) rfl O16.out H16.out.size A n c raw rfl HA.out.2.1 (HA.out.1.below (HW15.out.trans (H16.out.mono HW15.out.size))) (by have := HN.out; have := HA.out.2.1; simp; omega) ?_); intro v17 w17 ho hg; have B17 := Lib.hid (HW15.out.trans ((OwnB.below O16.out H16.out hg H16.out.size).mono HW15.out.size)); rw [List.nil_append] at ho; obtain ⟨S17, c17, rfl, hc17⟩ := OwnB.form ho HA.out.2.1; have O17 := Lib.hid (And.intro (OwnB.rd ho) hc17); clear ho hg hc17)
    | (go_at_call 16; (with_reducible show Calls _ _ #[.slice S17 n c17] _ _); go_must (refine (CR.out _ _ _ O17.out.1 O17.out.2).mono ?_); rintro e w18 hp; obtain ⟨hb, A1, k1, P1, q1, K1, rfl, ho1, hK1, hw1, hob1⟩ := hp; have A18 := Lib.hid (gt B17.out hb); have E18 := Lib.hid hb; have R1 := Lib.hid (And.intro ho1 (And.intro hob1 hw1)); clear ho1 hK1 hw1 hob1; clear hb)
    | ((with_reducible show wpList _ _ _ (⟨some 25, .alloc _, _, _, _, _⟩ :: _) _ _); go_must (refine wpList_allocB AR rfl rfl w18.heap.size rfl ?_); intro w18a hBx hbx hzx; have H18 := Lib.hid (And.intro hBx hbx); clear hBx hbx hzx)
    | ((with_reducible show wpList _ _ _ (⟨none, .store _ (.tmp 25) _, _, _, _, _⟩ :: _) _ _); go_must (refine wpList_storeB AR rfl (.tmp 25) (.tmp 227) rfl w18.heap.size 0 rfl [.string smm, .string stg, .slice A1 hm k1, .slice P1 bl q1, .bool cl] rfl rfl _ _ H18.out.1 (by simp) (by simp [Value.oneCell']) ?_); intro w18b hBy hgy hzy
       simp only [splice, List.take_zero, List.nil_append, List.length_cons, List.length_nil, List.drop_succ_cons, List.drop_zero, List.append_nil, Nat.zero_add, List.drop_nil] at hBy
       have D18 := Lib.hid (H18.out.2.grown hgy H18.out.2.size (fun j hj => by injection hj with hj; omega))
       have C18 := Lib.hid hBy
       have B18 := Lib.hid (gt A18.out D18.out)
       clear hBy hgy hzy)
    | ((with_reducible show wpList _ _ _ (⟨some 230, _, _, _, _, _⟩ :: _) _ _); go_must (refine Seal.wpList_zeroG EB (by decide) rfl rfl w18b.heap.size rfl ?_); intro w19 ho4 hb4 hz4; have O19 := Lib.hid ho4; have H19 := Lib.hid hb4; clear ho4 hb4 hz4)
    | ((with_reducible show wpList _ _ _ (⟨some 232, _, _, _, _, _⟩ :: _) _ _); go_must (refine wpList_app EB rfl (.tmp 230) (.tmp 231) rfl w18b.heap.size (.slice (some ⟨w18b.heap.size, 0, none⟩) 0 0) 0 [] rfl O19.out A n c (raw.map bv) rfl (HA.out.1.below (B18.out.trans (H19.out.mono B18.out.size))).rv (by rw [List.length_map, HA.out.2.1]; simp) (by intro u hu; rw [List.mem_map] at hu; obtain ⟨_, _, rfl⟩ := hu; rfl) (by have := HN.out; unfold maxLen; omega) (by have := HN.out; omega) H19.out.size ?_); intro v20 w20 ho20 hg20 hv20; rw [Nat.zero_add, List.nil_append] at ho20; have H20 := Lib.hid (show Below w18b.heap.size w18b w20 from H19.out.grown hg20 H19.out.size (fun j hj => (O19.out.lt j hj).1)); have B20 := Lib.hid (gt' B18.out H20.out); obtain ⟨S20, c20, rfl, hc20⟩ := own_slice ho20; have O20 := Lib.hid (And.intro ho20 hc20); clear ho20 hg20 hv20 hc20)
    | (go_at_call 16; (with_reducible show Calls _ _ #[.slice S20 n c20] _ _); go_must (refine (CR.out _ _ _ (own_rv O20.out.1).rb O20.out.2).mono ?_); rintro e w21 hp; obtain ⟨hb, A2, k2, P2, q2, K2, rfl, ho2, hK2, hw2, hob2⟩ := hp; have A21 := Lib.hid (gt B20.out hb); have E21 := Lib.hid hb; have R2 := Lib.hid (And.intro ho2 (And.intro hob2 hw2)); clear ho2 hK2 hw2 hob2; clear hb)
    | ((with_reducible show wpList _ _ _ (⟨some 28, .alloc _, _, _, _, _⟩ :: _) _ _); go_must (refine wpList_allocB AR rfl rfl w21.heap.size rfl ?_); intro w21a hBx hbx hzx; have H21 := Lib.hid (And.intro hBx hbx); clear hBx hbx hzx)
    | ((with_reducible show wpList _ _ _ (⟨none, .store _ (.tmp 28) _, _, _, _, _⟩ :: _) _ _); go_must (refine wpList_storeB AR rfl (.tmp 28) (.tmp 236) rfl w21.heap.size 0 rfl [.string smm, .string stg, .slice A2 hm k2, .slice P2 bl q2, .bool cl] rfl rfl _ _ H21.out.1 (by simp) (by simp [Value.oneCell']) ?_); intro w21b hBy hgy hzy
       simp only [splice, List.take_zero, List.nil_append, List.length_cons, List.length_nil, List.drop_succ_cons, List.drop_zero, List.append_nil, Nat.zero_add, List.drop_nil] at hBy
       have D21 := Lib.hid (H21.out.2.grown hgy H21.out.2.size (fun j hj => by injection hj with hj; omega))
       have C21 := Lib.hid hBy
       have B21 := Lib.hid (gt A21.out D21.out)
       clear hBy hgy hzy))
  obtain ⟨h25, hh25⟩ : ∃ x, x = w18.heap.size := ⟨_, rfl⟩
  obtain ⟨h28, hh28⟩ : ∃ x, x = w21.heap.size := ⟨_, rfl⟩
  have s18 := H18.out.2.size
  have hC25 : Blk w21b h25 30 [.string smm, .string stg, .slice A1 hm k1, .slice P1 bl q1, .bool cl] := hh25 ▸ ((C18.out.grow H20.out).grow (gt E21.out D21.out))
  have hC28 : Blk w21b h28 30 [.string smm, .string stg, .slice A2 hm k2, .slice P2 bl q2, .bool cl] := hh28 ▸ C21.out
  have hlt25 : h25 < w18b.heap.size := by rw [hh25]; exact C18.out.lt
  have hge28 : w20.heap.size ≤ h28 := by rw [hh28]; exact E21.out.size
  have hown : w21b.ownsRow w18b.heap.size 5 1 (.slice S20 n c20) n (raw.map bv) := own_below' O20.out.1 (gt E21.out D21.out)
  have hobl : ∀ j, (Value.slice S20 n c20).ownBlock = some j → w18b.heap.size ≤ j ∧ j < w20.heap.size := fun j e => O20.out.1.lt j e
  have HF := Lib.hid (And.intro hC25 (And.intro hC28 (And.intro hlt25 (And.intro hge28 (And.intro hobl hown)))))
  rw [← hh25, ← hh28]
  clear hh25 hh28 s18 hC25 hC28 hlt25 hge28 hown hobl
  go_wp2
  go_loopw [31] (fun v31 w2 => ∃ i : Nat, v31 = .int .i64 i ∧ i ≤ n ∧ w21b.grownBy w2 (Value.slice S20 n c20).ownBlock ∧ w2.ownsRow w18b.heap.size 5 1 (.slice S20 n c20) n ((List.replicate i 118 ++ raw.drop i).map bv)) (fun v31 _ => n - (intOf v31).toNat)
  case atStart => exact ⟨0, rfl, Nat.zero_le _, World.grownBy.refl _ _, by rw [List.replicate_zero, List.nil_append, List.drop_zero]; exact HF.out.2.2.2.2.2⟩
  case round =>
    obtain ⟨i4, rfl, hi4, hgr, ho⟩ := hrel
    by_cases hlt : i4 < n
    · obtain ⟨gb, hgb, _, _⟩ := Mem.own_addr ho (by omega)
      subst hgb
      have hce : ∃ u, wr.cell? ⟨gb, i4, none⟩ = some u := own_has ho (by omega)
      obtain ⟨u, hce⟩ := hce
      have hfz := ho.frozenAt i4
      have hi0 : (0 : Int) ≤ (i4 : Int) := by omega
      have hlt' : (i4 : Int) < (n : Int) := by omega
      have HQ := Lib.hid (And.intro ho hgr)
      clear ho hgr
      go_wp2
      have hst := (HQ.out.1.stored i4 (bv 118)).1
      rw [← List.map_set, set_next 118 raw (by rw [← HA.out.2.1]; exact hlt)] at hst
      exact ⟨⟨i4 + 1, by rw [Int.natCast_add]; rfl, by omega, HQ.out.2.trans (grownBy_set wr gb i4 _), hst⟩, by simp only [intOf]; omega⟩
    · have b1 : decide ((i4 : Int) < (n : Int)) = false := by rw [decide_eq_false_iff_not]; omega
      have hC25 := HF.out.1.grown hgr (fun e => by have := HF.out.2.2.1; have := HF.out.2.2.2.2.1 h25 e.symm; omega)
      have hC28 := HF.out.2.1.grown hgr (fun e => by have := HF.out.2.2.2.1; have := HF.out.2.2.2.2.1 h28 e.symm; omega)
      have u0 := hC25.cell 0
      have u1 := hC25.cell 1
      have u2 := hC25.cell 2
      have u3 := hC25.cell 3
      have u4 := hC25.cell 4
      have v0 := hC28.cell 0
      have v1 := hC28.cell 1
      have v2 := hC28.cell 2
      have v3 := hC28.cell 3
      have v4 := hC28.cell 4
      simp only [List.getElem?_cons_succ, List.getElem?_cons_zero] at u0 u1 u2 u3 u4 v0 v1 v2 v3 v4
      have hlowf : Below w.heap.size w wr := B21.out.grown hgr B21.out.size (fun j hj => by have := (HF.out.2.2.2.2.1 j hj).1; have := B18.out.size; omega)
      have HLF := Lib.hid hlowf
      have z20 := H20.out.size
      have keep1 : ∀ {T : TypeId} {sz k B : Nat} {v : Value} {ys : List Value}, w18.ownsRow B T sz v k ys → wr.ownsRow B T sz v k ys := fun h => own_keep (own_below' (own_below' (own_below' h D18.out) H20.out) (gt E21.out D21.out)) (fun X e hX => hgr.block X hX (fun e2 => by have := (h.lt X e).2; have := D18.out.size; have := (HF.out.2.2.2.2.1 X e2.symm).1; omega))
      have keep2 : ∀ {T : TypeId} {sz k B : Nat} {v : Value} {ys : List Value}, w21.ownsRow B T sz v k ys → w20.heap.size ≤ B → wr.ownsRow B T sz v k ys := fun h hB => own_keep (own_below' h D21.out) (fun X e hX => hgr.block X hX (fun e2 => by have := (h.lt X e).1; have := (HF.out.2.2.2.2.1 X e2.symm).2; omega))
      have k1x := SM.out wr A1 k1 P1 q1 A2 k2 P2 q2 (own_rv (keep1 R1.out.1)) (own_rv (keep2 R2.out.1 (Nat.le_refl _))) (own_rv (keep1 R1.out.2.1)).rb (own_rv (keep2 R2.out.2.1 R2.out.2.2)).rb (own_spot R1.out.1) (own_spot R2.out.1)
      have K1X := Lib.hid k1x
      clear z20 keep1 keep2 k1x
      clear hgr ho hlowf hC25 hC28
      go_wp2_with (first
        | (go_at_call 17; go_must (refine (K1X.out).mono ?_); rintro e w22 ⟨rfl, hb22⟩; have B22 := Lib.hid (gt HLF.out hb22); clear hb22))
      go_ret
      exact ⟨rfl, B22.out⟩
end Go.Proofs.YtojemdggbcklkaaDoor.WireR
