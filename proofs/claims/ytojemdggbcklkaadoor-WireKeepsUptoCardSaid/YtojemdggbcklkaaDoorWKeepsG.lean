/- weirlaw28.WireKeeps: a part of the walk. (Printed by mkwkcut.py.) -/
import Derived.Test.YtojemdggbcklkaaDoorWKeepsA
namespace Go.Proofs.YtojemdggbcklkaaDoor.WireR
open Go.RowKit Go.Proofs.YtojemdggbcklkaaDoor.Mem Go.Proofs.YtojemdggbcklkaaDoor.Wire Go.Proofs.YtojemdggbcklkaaDoor.Strs Go.Proofs.YtojemdggbcklkaaDoor.Heads
set_option linter.unusedVariables false
set_option linter.unusedSimpArgs false
set_option maxRecDepth 8000
set_option maxHeartbeats 32000000
theorem wkG : wkA.1.1 := by
  intro A n c raw z w HA b3 HN hn2 zz1 w1 H1 w2 H2 u47 u48 u49 u50 u51 u52 u53 b u55 u56 u57 u58 u59 u60 u61 u62 u63 u64 u65 u66 u67 u68 u69 u70 u71 u72 u73 u74 u75 u76 u77 u78 u79 u80 u81 u82 u83 u84 u85 u86 u87 u88 u89 u90 u91 u92 u93 u94 u95 u96 u97 u98 u99 u100 u101 u102 u103 u104 u105 u106 u107 u108 u109 u110 u111 u112 u113 u114 u115 u116 u117 u118 u119 u120 u121 u122 u123 u124 u125 u126 u127 u128 u129 u130 u131 u132 u133 u134 u135 u136 u137 u138 u139 u140 u141 u142 u143 u144 u145 u146 u147 u148 u149 u150 u151 u152 u153 u154 u155 u156 u157 u158 u159 u160 u161 u162 u163 u164 u165 u166 u167 u168 u169 u170 u171 u172 u173 u174 u175 u176 u177 u178 u179 u180 u181 u182 u183 u184 u185 u186 u187 u188 u189 u190 u191 u192 u193 u194 u195 u196 u197 u198 u199 u200 u201 u202 u203 u204 u205 u206 u207 u208 u209 u210 u211 u212 u213 u214 u215 u216 u217 u218 u219 u220 u221 u222 u223 u224 u225 u226 u227 u228 u229 u230 u231 u232 u233 u234 u235 u236 u237 u238 u239 u240 u241 u242 u243 u244 u245 u246 u247 u248 u249 u250 u251 u252 u253 u254 u255 u256 u257 u258 u259 u260 k W3 H3 p1 p2 m D1 D2 HP HR zz210 zz211 zz212 zz213
  by_cases hk0 : 0 < k
  · by_cases hm0 : 0 < m
    · skip
      try simp only [Act.put, List.setIfInBounds_toArray, List.set_cons_succ, List.set_cons_zero]
      refine wp_region_rg [.new 58 ZeroB, .eq 59 (.slice A n c), .eq 60 (.int .i64 (k : Int)), .eq 61 (.slice D1 k c), .new 62 (fun v w' => w'.ownsRow W3.heap.size 5 1 v k (p1.map bv)), .new 63 ZeroB, .eq 64 (.slice A n c), .eq 65 (.int .i64 (k : Int)), .eq 66 (.slice D2 m (c - k)), .new 67 (fun v w' => w'.ownsRow W3.heap.size 5 1 v m (p2.map bv)), spSame 7 62, spSame 8 67] (by kernel_rfl) (by kernel_rfl) ?hst0 ?hob0 ?hfin0
      case hst0 =>
        intro s hs
        simp only [List.mem_cons, List.not_mem_nil, or_false] at hs
        rcases hs with rfl | rfl | rfl | rfl | rfl | rfl | rfl | rfl | rfl | rfl | rfl | rfl
        · rintro vs w1 w2 ⟨v, rfl, h⟩ hb; exact ⟨v, rfl, h⟩
        · exact fun _ _ _ h _ => h
        · exact fun _ _ _ h _ => h
        · exact fun _ _ _ h _ => h
        · rintro vs w1 w2 ⟨v, rfl, h⟩ hb; exact ⟨v, rfl, own_below' h hb⟩
        · rintro vs w1 w2 ⟨v, rfl, h⟩ hb; exact ⟨v, rfl, h⟩
        · exact fun _ _ _ h _ => h
        · exact fun _ _ _ h _ => h
        · exact fun _ _ _ h _ => h
        · rintro vs w1 w2 ⟨v, rfl, h⟩ hb; exact ⟨v, rfl, own_below' h hb⟩
        · exact fun _ _ _ h _ => h
        · exact fun _ _ _ h _ => h
      case hob0 =>
        refine rgs_cons ?_ (rgs_cons ?_ (rgs_cons ?_ (rgs_cons ?_ (rgs_cons ?_ (rgs_cons ?_ (rgs_cons ?_ (rgs_cons ?_ (rgs_cons ?_ (rgs_cons ?_ (rgs_cons ?_ (rgs_cons ?_ (rgs_nil))))))))))))
        · refine rg_val (by decide) (by rfl) fun x w' B hg hp hB => ?_
          refine ⟨.slice (some ⟨w'.heap.size, 0, none⟩) 0 0, _, Seal.run_zero EB (by decide) rfl, ga (gr w') _, ?_, ?_⟩
          · simp [Sp.holds, Sp.new, rgUpd, ZeroB]
          · intro b hb; simp [Sp.own, Sp.new, rgUpd, blockOf] at hb; subst hb; simp
        · refine rg_eq (by decide) (by rfl) (by rfl) fun x w' B hg hp hB => ?_
          have e0 := hB 0
          simp [rgDsts] at e0
          go_simp
        · refine rg_eq (by decide) (by rfl) (by rfl) fun x w' B hg hp hB => ?_
          have e1 := hB 1
          simp [rgDsts] at e1
          go_simp
        · refine rg_eq (by decide) (by rfl) (by rfl) fun x w' B hg hp hB => ?_
          have h59 := rg_pred_eq (d := 59) hp 0 rfl rfl rfl
          have h60 := rg_pred_eq (d := 60) hp 1 rfl rfl rfl
          have e1 := (hB.at_ 59 rfl).trans h59
          have e2 := (hB.at_ 60 rfl).trans h60
          rw [HR.out.2.2.1]; exact cut_head (m := k) rfl (by simpa [Act.eval] using e1) (by simpa [Act.eval] using e2) (by have := HA.out.2.2; have := HP.out.2.2.2.2.2.2.1; omega)
        · refine rg_fresh (A := D1) (p := p1) (c := c) (by decide) rfl rfl rfl HP.out.2.2.2.1 hk0 (by have := HN.out; have := HP.out.2.2.1; have := HP.out.2.2.2.2.2.2.1; omega) fun x w' B hg hp hB => ?_
          have h58 := rg_pred_new (d := 58) hp 0 rfl rfl rfl
          have h61 := rg_pred_eq (d := 61) hp 1 rfl rfl rfl
          obtain ⟨g, hg0⟩ := h58
          have e1 := (hB.at_ 58 rfl).trans hg0
          have e2 := (hB.at_ 61 rfl).trans h61
          exact ⟨HR.out.1.below hg, ⟨g, by simpa [Act.eval] using e1⟩, by simpa [Act.eval] using e2⟩
        · refine rg_val (by decide) (by rfl) fun x w' B hg hp hB => ?_
          refine ⟨.slice (some ⟨w'.heap.size, 0, none⟩) 0 0, _, Seal.run_zero EB (by decide) rfl, ga (gr w') _, ?_, ?_⟩
          · simp [Sp.holds, Sp.new, rgUpd, ZeroB]
          · intro b hb; simp [Sp.own, Sp.new, rgUpd, blockOf] at hb; subst hb; simp
        · refine rg_eq (by decide) (by rfl) (by rfl) fun x w' B hg hp hB => ?_
          have e0 := hB 0
          simp [rgDsts] at e0
          go_simp
        · refine rg_eq (by decide) (by rfl) (by rfl) fun x w' B hg hp hB => ?_
          have e1 := hB 1
          simp [rgDsts] at e1
          go_simp
        · refine rg_eq (by decide) (by rfl) (by rfl) fun x w' B hg hp hB => ?_
          have h64 := rg_pred_eq (d := 64) hp 0 rfl rfl rfl
          have h65 := rg_pred_eq (d := 65) hp 1 rfl rfl rfl
          have e1 := (hB.at_ 64 rfl).trans h64
          have e2 := (hB.at_ 65 rfl).trans h65
          rw [HR.out.2.2.2, HP.out.2.2.1]; exact cut_behind (m := k) rfl (by simpa [Act.eval] using e1) (by simpa [Act.eval] using e2) (by have := HP.out.2.2.2.2.2.2.1; omega)
        · refine rg_fresh (A := D2) (p := p2) (c := (c - k)) (by decide) rfl rfl rfl HP.out.2.2.2.2.1 hm0 (by have := HN.out; have := HP.out.2.2.1; have := HP.out.2.2.2.2.2.2.1; omega) fun x w' B hg hp hB => ?_
          have h63 := rg_pred_new (d := 63) hp 0 rfl rfl rfl
          have h66 := rg_pred_eq (d := 66) hp 1 rfl rfl rfl
          obtain ⟨g, hg0⟩ := h63
          have e1 := (hB.at_ 63 rfl).trans hg0
          have e2 := (hB.at_ 66 rfl).trans h66
          exact ⟨HR.out.2.1.below hg, ⟨g, by simpa [Act.eval] using e1⟩, by simpa [Act.eval] using e2⟩
        · refine rg_val (by decide) (by rfl) fun x w' B hg hp hB => ?_
          refine ⟨x 62, w', ?_, gr w', ?_, ?_⟩
          · have e1 := hB.at_ 62 rfl
            simp [execOp, Act.eval, e1, Result.andThen]
          · rw [same_holds]; simp [rgUpd]
          · intro b hb; simp [same_own] at hb
        · refine rg_val (by decide) (by rfl) fun x w' B hg hp hB => ?_
          refine ⟨x 67, w', ?_, gr w', ?_, ?_⟩
          · have e1 := hB.at_ 67 rfl
            simp [execOp, Act.eval, e1, Result.andThen]
          · rw [same_holds]; simp [rgUpd]
          · intro b hb; simp [same_own] at hb
      case hfin0 =>
        intro x w8 hg hall hap
        simp only [RgAll, holds_eq, holds_new, holds_one, same_holds, and_true] at hall
        obtain ⟨h58, h59, h60, h61, h62, h63, h64, h65, h66, h67, h7, h8⟩ := hall
        obtain ⟨g58, h58⟩ := h58
        obtain ⟨g63, h63⟩ := h63
        have hap2 := hap.2.2.2.2.1
        have hab : AB W3 w8 k m p1 p2 (x 62) (x 67) := AB.of hg HP.out.2.2.2.1 HP.out.2.2.2.2.1 (.inl h62) (.inl h67) (fun _ _ g e e2 => hap2 g (by simp only [own_new]; exact in_block h62 e) _ (by simp only [List.mem_cons]; exact .inr (.inr (.inr (.inr (.inl rfl))))) (by simp only [own_new]; exact in_block h67 e2))
        obtain ⟨va, hva⟩ : ∃ v, x 62 = v := ⟨_, rfl⟩
        obtain ⟨vb, hvb⟩ : ∃ v, x 67 = v := ⟨_, rfl⟩
        rw [hva] at h7 hab
        rw [hvb] at h8 hab
        have HABX := Lib.hid hab
        clear hap hap2 h62 h67 hab hg
        simp only [rgDsts, List.filterMap_cons, List.filterMap_nil, putMany, List.foldl_cons, List.foldl_nil, List.setIfInBounds_toArray, List.set_cons_succ, List.set_cons_zero, h58, h59, h60, h61, hva, h63, h64, h65, h66, hvb, h7, h8]
        clear h58 h59 h60 h61 h63 h64 h65 h66 h7 h8 hva hvb
        go_wp2
        go_meet
        exact HABX.out
    · have hm0 : m = 0 := by omega
      try simp only [Act.put, List.setIfInBounds_toArray, List.set_cons_succ, List.set_cons_zero]
      refine wp_region_rg [.new 58 ZeroB, .eq 59 (.slice A n c), .eq 60 (.int .i64 (k : Int)), .eq 61 (.slice D1 k c), .new 62 (fun v w' => w'.ownsRow W3.heap.size 5 1 v k (p1.map bv)), .new 63 ZeroB, .eq 64 (.slice A n c), .eq 65 (.int .i64 (k : Int)), .eq 66 (.slice D2 m (c - k)), .one 67 ZeroB, spSame 7 62, spSame 8 67] (by kernel_rfl) (by kernel_rfl) ?hst1 ?hob1 ?hfin1
      case hst1 =>
        intro s hs
        simp only [List.mem_cons, List.not_mem_nil, or_false] at hs
        rcases hs with rfl | rfl | rfl | rfl | rfl | rfl | rfl | rfl | rfl | rfl | rfl | rfl
        · rintro vs w1 w2 ⟨v, rfl, h⟩ hb; exact ⟨v, rfl, h⟩
        · exact fun _ _ _ h _ => h
        · exact fun _ _ _ h _ => h
        · exact fun _ _ _ h _ => h
        · rintro vs w1 w2 ⟨v, rfl, h⟩ hb; exact ⟨v, rfl, own_below' h hb⟩
        · rintro vs w1 w2 ⟨v, rfl, h⟩ hb; exact ⟨v, rfl, h⟩
        · exact fun _ _ _ h _ => h
        · exact fun _ _ _ h _ => h
        · exact fun _ _ _ h _ => h
        · rintro vs w1 w2 ⟨v, rfl, h⟩ hb; exact ⟨v, rfl, h⟩
        · exact fun _ _ _ h _ => h
        · exact fun _ _ _ h _ => h
      case hob1 =>
        refine rgs_cons ?_ (rgs_cons ?_ (rgs_cons ?_ (rgs_cons ?_ (rgs_cons ?_ (rgs_cons ?_ (rgs_cons ?_ (rgs_cons ?_ (rgs_cons ?_ (rgs_cons ?_ (rgs_cons ?_ (rgs_cons ?_ (rgs_nil))))))))))))
        · refine rg_val (by decide) (by rfl) fun x w' B hg hp hB => ?_
          refine ⟨.slice (some ⟨w'.heap.size, 0, none⟩) 0 0, _, Seal.run_zero EB (by decide) rfl, ga (gr w') _, ?_, ?_⟩
          · simp [Sp.holds, Sp.new, rgUpd, ZeroB]
          · intro b hb; simp [Sp.own, Sp.new, rgUpd, blockOf] at hb; subst hb; simp
        · refine rg_eq (by decide) (by rfl) (by rfl) fun x w' B hg hp hB => ?_
          have e0 := hB 0
          simp [rgDsts] at e0
          go_simp
        · refine rg_eq (by decide) (by rfl) (by rfl) fun x w' B hg hp hB => ?_
          have e1 := hB 1
          simp [rgDsts] at e1
          go_simp
        · refine rg_eq (by decide) (by rfl) (by rfl) fun x w' B hg hp hB => ?_
          have h59 := rg_pred_eq (d := 59) hp 0 rfl rfl rfl
          have h60 := rg_pred_eq (d := 60) hp 1 rfl rfl rfl
          have e1 := (hB.at_ 59 rfl).trans h59
          have e2 := (hB.at_ 60 rfl).trans h60
          rw [HR.out.2.2.1]; exact cut_head (m := k) rfl (by simpa [Act.eval] using e1) (by simpa [Act.eval] using e2) (by have := HA.out.2.2; have := HP.out.2.2.2.2.2.2.1; omega)
        · refine rg_fresh (A := D1) (p := p1) (c := c) (by decide) rfl rfl rfl HP.out.2.2.2.1 hk0 (by have := HN.out; have := HP.out.2.2.1; have := HP.out.2.2.2.2.2.2.1; omega) fun x w' B hg hp hB => ?_
          have h58 := rg_pred_new (d := 58) hp 0 rfl rfl rfl
          have h61 := rg_pred_eq (d := 61) hp 1 rfl rfl rfl
          obtain ⟨g, hg0⟩ := h58
          have e1 := (hB.at_ 58 rfl).trans hg0
          have e2 := (hB.at_ 61 rfl).trans h61
          exact ⟨HR.out.1.below hg, ⟨g, by simpa [Act.eval] using e1⟩, by simpa [Act.eval] using e2⟩
        · refine rg_val (by decide) (by rfl) fun x w' B hg hp hB => ?_
          refine ⟨.slice (some ⟨w'.heap.size, 0, none⟩) 0 0, _, Seal.run_zero EB (by decide) rfl, ga (gr w') _, ?_, ?_⟩
          · simp [Sp.holds, Sp.new, rgUpd, ZeroB]
          · intro b hb; simp [Sp.own, Sp.new, rgUpd, blockOf] at hb; subst hb; simp
        · refine rg_eq (by decide) (by rfl) (by rfl) fun x w' B hg hp hB => ?_
          have e0 := hB 0
          simp [rgDsts] at e0
          go_simp
        · refine rg_eq (by decide) (by rfl) (by rfl) fun x w' B hg hp hB => ?_
          have e1 := hB 1
          simp [rgDsts] at e1
          go_simp
        · refine rg_eq (by decide) (by rfl) (by rfl) fun x w' B hg hp hB => ?_
          have h64 := rg_pred_eq (d := 64) hp 0 rfl rfl rfl
          have h65 := rg_pred_eq (d := 65) hp 1 rfl rfl rfl
          have e1 := (hB.at_ 64 rfl).trans h64
          have e2 := (hB.at_ 65 rfl).trans h65
          rw [HR.out.2.2.2, HP.out.2.2.1]; exact cut_behind (m := k) rfl (by simpa [Act.eval] using e1) (by simpa [Act.eval] using e2) (by have := HP.out.2.2.2.2.2.2.1; omega)
        · refine rg_val (by decide) (by rfl) fun x w' B hg hp hB => ?_
          have h63 := rg_pred_new (d := 63) hp 0 rfl rfl rfl
          have h66 := rg_pred_eq (d := 66) hp 1 rfl rfl rfl
          obtain ⟨g, hg0⟩ := h63
          have e1 := (hB.at_ 63 rfl).trans hg0
          have e2 := (hB.at_ 66 rfl).trans h66
          refine ⟨.slice (some ⟨g, 0, none⟩) 0 0, w', exec_empty (s := .tmp 63) (x := .tmp 66) (g := g) rfl (by simpa [Act.eval] using e1) (by simpa [Act.eval, hm0] using e2), gr w', ?_, ?_⟩
          · simp [Sp.holds, Sp.one, rgUpd, ZeroB]
          · intro b hb; simp [Sp.own, Sp.one] at hb
        · refine rg_val (by decide) (by rfl) fun x w' B hg hp hB => ?_
          refine ⟨x 62, w', ?_, gr w', ?_, ?_⟩
          · have e1 := hB.at_ 62 rfl
            simp [execOp, Act.eval, e1, Result.andThen]
          · rw [same_holds]; simp [rgUpd]
          · intro b hb; simp [same_own] at hb
        · refine rg_val (by decide) (by rfl) fun x w' B hg hp hB => ?_
          refine ⟨x 67, w', ?_, gr w', ?_, ?_⟩
          · have e1 := hB.at_ 67 rfl
            simp [execOp, Act.eval, e1, Result.andThen]
          · rw [same_holds]; simp [rgUpd]
          · intro b hb; simp [same_own] at hb
      case hfin1 =>
        intro x w8 hg hall hap
        simp only [RgAll, holds_eq, holds_new, holds_one, same_holds, and_true] at hall
        obtain ⟨h58, h59, h60, h61, h62, h63, h64, h65, h66, h67, h7, h8⟩ := hall
        obtain ⟨g58, h58⟩ := h58
        obtain ⟨g63, h63⟩ := h63
        obtain ⟨g67, h67⟩ := h67
        have hap2 := hap.2.2.2.2.1
        have hab : AB W3 w8 k m p1 p2 (x 62) (x 67) := AB.of hg HP.out.2.2.2.1 HP.out.2.2.2.2.1 (.inl h62) (.inr ⟨hm0, g67, h67⟩) (fun a b => by omega)
        obtain ⟨va, hva⟩ : ∃ v, x 62 = v := ⟨_, rfl⟩
        obtain ⟨vb, hvb⟩ : ∃ v, x 67 = v := ⟨_, rfl⟩
        rw [hva] at h7 hab
        rw [hvb] at h8 hab
        have HABX := Lib.hid hab
        clear hap hap2 h62 h67 hab hg
        simp only [rgDsts, List.filterMap_cons, List.filterMap_nil, putMany, List.foldl_cons, List.foldl_nil, List.setIfInBounds_toArray, List.set_cons_succ, List.set_cons_zero, h58, h59, h60, h61, hva, h63, h64, h65, h66, hvb, h7, h8]
        clear h58 h59 h60 h61 h63 h64 h65 h66 h7 h8 hva hvb
        go_wp2
        go_meet
        exact HABX.out
  · have hk0 : k = 0 := by omega
    by_cases hm0 : 0 < m
    · skip
      try simp only [Act.put, List.setIfInBounds_toArray, List.set_cons_succ, List.set_cons_zero]
      refine wp_region_rg [.new 58 ZeroB, .eq 59 (.slice A n c), .eq 60 (.int .i64 (k : Int)), .eq 61 (.slice D1 k c), .one 62 ZeroB, .new 63 ZeroB, .eq 64 (.slice A n c), .eq 65 (.int .i64 (k : Int)), .eq 66 (.slice D2 m (c - k)), .new 67 (fun v w' => w'.ownsRow W3.heap.size 5 1 v m (p2.map bv)), spSame 7 62, spSame 8 67] (by kernel_rfl) (by kernel_rfl) ?hst2 ?hob2 ?hfin2
      case hst2 =>
        intro s hs
        simp only [List.mem_cons, List.not_mem_nil, or_false] at hs
        rcases hs with rfl | rfl | rfl | rfl | rfl | rfl | rfl | rfl | rfl | rfl | rfl | rfl
        · rintro vs w1 w2 ⟨v, rfl, h⟩ hb; exact ⟨v, rfl, h⟩
        · exact fun _ _ _ h _ => h
        · exact fun _ _ _ h _ => h
        · exact fun _ _ _ h _ => h
        · rintro vs w1 w2 ⟨v, rfl, h⟩ hb; exact ⟨v, rfl, h⟩
        · rintro vs w1 w2 ⟨v, rfl, h⟩ hb; exact ⟨v, rfl, h⟩
        · exact fun _ _ _ h _ => h
        · exact fun _ _ _ h _ => h
        · exact fun _ _ _ h _ => h
        · rintro vs w1 w2 ⟨v, rfl, h⟩ hb; exact ⟨v, rfl, own_below' h hb⟩
        · exact fun _ _ _ h _ => h
        · exact fun _ _ _ h _ => h
      case hob2 =>
        refine rgs_cons ?_ (rgs_cons ?_ (rgs_cons ?_ (rgs_cons ?_ (rgs_cons ?_ (rgs_cons ?_ (rgs_cons ?_ (rgs_cons ?_ (rgs_cons ?_ (rgs_cons ?_ (rgs_cons ?_ (rgs_cons ?_ (rgs_nil))))))))))))
        · refine rg_val (by decide) (by rfl) fun x w' B hg hp hB => ?_
          refine ⟨.slice (some ⟨w'.heap.size, 0, none⟩) 0 0, _, Seal.run_zero EB (by decide) rfl, ga (gr w') _, ?_, ?_⟩
          · simp [Sp.holds, Sp.new, rgUpd, ZeroB]
          · intro b hb; simp [Sp.own, Sp.new, rgUpd, blockOf] at hb; subst hb; simp
        · refine rg_eq (by decide) (by rfl) (by rfl) fun x w' B hg hp hB => ?_
          have e0 := hB 0
          simp [rgDsts] at e0
          go_simp
        · refine rg_eq (by decide) (by rfl) (by rfl) fun x w' B hg hp hB => ?_
          have e1 := hB 1
          simp [rgDsts] at e1
          go_simp
        · refine rg_eq (by decide) (by rfl) (by rfl) fun x w' B hg hp hB => ?_
          have h59 := rg_pred_eq (d := 59) hp 0 rfl rfl rfl
          have h60 := rg_pred_eq (d := 60) hp 1 rfl rfl rfl
          have e1 := (hB.at_ 59 rfl).trans h59
          have e2 := (hB.at_ 60 rfl).trans h60
          rw [HR.out.2.2.1]; exact cut_head (m := k) rfl (by simpa [Act.eval] using e1) (by simpa [Act.eval] using e2) (by have := HA.out.2.2; have := HP.out.2.2.2.2.2.2.1; omega)
        · refine rg_val (by decide) (by rfl) fun x w' B hg hp hB => ?_
          have h58 := rg_pred_new (d := 58) hp 0 rfl rfl rfl
          have h61 := rg_pred_eq (d := 61) hp 1 rfl rfl rfl
          obtain ⟨g, hg0⟩ := h58
          have e1 := (hB.at_ 58 rfl).trans hg0
          have e2 := (hB.at_ 61 rfl).trans h61
          refine ⟨.slice (some ⟨g, 0, none⟩) 0 0, w', exec_empty (s := .tmp 58) (x := .tmp 61) (g := g) rfl (by simpa [Act.eval] using e1) (by simpa [Act.eval, hk0] using e2), gr w', ?_, ?_⟩
          · simp [Sp.holds, Sp.one, rgUpd, ZeroB]
          · intro b hb; simp [Sp.own, Sp.one] at hb
        · refine rg_val (by decide) (by rfl) fun x w' B hg hp hB => ?_
          refine ⟨.slice (some ⟨w'.heap.size, 0, none⟩) 0 0, _, Seal.run_zero EB (by decide) rfl, ga (gr w') _, ?_, ?_⟩
          · simp [Sp.holds, Sp.new, rgUpd, ZeroB]
          · intro b hb; simp [Sp.own, Sp.new, rgUpd, blockOf] at hb; subst hb; simp
        · refine rg_eq (by decide) (by rfl) (by rfl) fun x w' B hg hp hB => ?_
          have e0 := hB 0
          simp [rgDsts] at e0
          go_simp
        · refine rg_eq (by decide) (by rfl) (by rfl) fun x w' B hg hp hB => ?_
          have e1 := hB 1
          simp [rgDsts] at e1
          go_simp
        · refine rg_eq (by decide) (by rfl) (by rfl) fun x w' B hg hp hB => ?_
          have h64 := rg_pred_eq (d := 64) hp 0 rfl rfl rfl
          have h65 := rg_pred_eq (d := 65) hp 1 rfl rfl rfl
          have e1 := (hB.at_ 64 rfl).trans h64
          have e2 := (hB.at_ 65 rfl).trans h65
          rw [HR.out.2.2.2, HP.out.2.2.1]; exact cut_behind (m := k) rfl (by simpa [Act.eval] using e1) (by simpa [Act.eval] using e2) (by have := HP.out.2.2.2.2.2.2.1; omega)
        · refine rg_fresh (A := D2) (p := p2) (c := (c - k)) (by decide) rfl rfl rfl HP.out.2.2.2.2.1 hm0 (by have := HN.out; have := HP.out.2.2.1; have := HP.out.2.2.2.2.2.2.1; omega) fun x w' B hg hp hB => ?_
          have h63 := rg_pred_new (d := 63) hp 0 rfl rfl rfl
          have h66 := rg_pred_eq (d := 66) hp 1 rfl rfl rfl
          obtain ⟨g, hg0⟩ := h63
          have e1 := (hB.at_ 63 rfl).trans hg0
          have e2 := (hB.at_ 66 rfl).trans h66
          exact ⟨HR.out.2.1.below hg, ⟨g, by simpa [Act.eval] using e1⟩, by simpa [Act.eval] using e2⟩
        · refine rg_val (by decide) (by rfl) fun x w' B hg hp hB => ?_
          refine ⟨x 62, w', ?_, gr w', ?_, ?_⟩
          · have e1 := hB.at_ 62 rfl
            simp [execOp, Act.eval, e1, Result.andThen]
          · rw [same_holds]; simp [rgUpd]
          · intro b hb; simp [same_own] at hb
        · refine rg_val (by decide) (by rfl) fun x w' B hg hp hB => ?_
          refine ⟨x 67, w', ?_, gr w', ?_, ?_⟩
          · have e1 := hB.at_ 67 rfl
            simp [execOp, Act.eval, e1, Result.andThen]
          · rw [same_holds]; simp [rgUpd]
          · intro b hb; simp [same_own] at hb
      case hfin2 =>
        intro x w8 hg hall hap
        simp only [RgAll, holds_eq, holds_new, holds_one, same_holds, and_true] at hall
        obtain ⟨h58, h59, h60, h61, h62, h63, h64, h65, h66, h67, h7, h8⟩ := hall
        obtain ⟨g58, h58⟩ := h58
        obtain ⟨g63, h63⟩ := h63
        obtain ⟨g62, h62⟩ := h62
        have hap2 := True.intro
        have hab : AB W3 w8 k m p1 p2 (x 62) (x 67) := AB.of hg HP.out.2.2.2.1 HP.out.2.2.2.2.1 (.inr ⟨hk0, g62, h62⟩) (.inl h67) (fun a b => by omega)
        obtain ⟨va, hva⟩ : ∃ v, x 62 = v := ⟨_, rfl⟩
        obtain ⟨vb, hvb⟩ : ∃ v, x 67 = v := ⟨_, rfl⟩
        rw [hva] at h7 hab
        rw [hvb] at h8 hab
        have HABX := Lib.hid hab
        clear hap hap2 h62 h67 hab hg
        simp only [rgDsts, List.filterMap_cons, List.filterMap_nil, putMany, List.foldl_cons, List.foldl_nil, List.setIfInBounds_toArray, List.set_cons_succ, List.set_cons_zero, h58, h59, h60, h61, hva, h63, h64, h65, h66, hvb, h7, h8]
        clear h58 h59 h60 h61 h63 h64 h65 h66 h7 h8 hva hvb
        go_wp2
        go_meet
        exact HABX.out
    · have hm0 : m = 0 := by omega
      try simp only [Act.put, List.setIfInBounds_toArray, List.set_cons_succ, List.set_cons_zero]
      refine wp_region_rg [.new 58 ZeroB, .eq 59 (.slice A n c), .eq 60 (.int .i64 (k : Int)), .eq 61 (.slice D1 k c), .one 62 ZeroB, .new 63 ZeroB, .eq 64 (.slice A n c), .eq 65 (.int .i64 (k : Int)), .eq 66 (.slice D2 m (c - k)), .one 67 ZeroB, spSame 7 62, spSame 8 67] (by kernel_rfl) (by kernel_rfl) ?hst3 ?hob3 ?hfin3
      case hst3 =>
        intro s hs
        simp only [List.mem_cons, List.not_mem_nil, or_false] at hs
        rcases hs with rfl | rfl | rfl | rfl | rfl | rfl | rfl | rfl | rfl | rfl | rfl | rfl
        · rintro vs w1 w2 ⟨v, rfl, h⟩ hb; exact ⟨v, rfl, h⟩
        · exact fun _ _ _ h _ => h
        · exact fun _ _ _ h _ => h
        · exact fun _ _ _ h _ => h
        · rintro vs w1 w2 ⟨v, rfl, h⟩ hb; exact ⟨v, rfl, h⟩
        · rintro vs w1 w2 ⟨v, rfl, h⟩ hb; exact ⟨v, rfl, h⟩
        · exact fun _ _ _ h _ => h
        · exact fun _ _ _ h _ => h
        · exact fun _ _ _ h _ => h
        · rintro vs w1 w2 ⟨v, rfl, h⟩ hb; exact ⟨v, rfl, h⟩
        · exact fun _ _ _ h _ => h
        · exact fun _ _ _ h _ => h
      case hob3 =>
        refine rgs_cons ?_ (rgs_cons ?_ (rgs_cons ?_ (rgs_cons ?_ (rgs_cons ?_ (rgs_cons ?_ (rgs_cons ?_ (rgs_cons ?_ (rgs_cons ?_ (rgs_cons ?_ (rgs_cons ?_ (rgs_cons ?_ (rgs_nil))))))))))))
        · refine rg_val (by decide) (by rfl) fun x w' B hg hp hB => ?_
          refine ⟨.slice (some ⟨w'.heap.size, 0, none⟩) 0 0, _, Seal.run_zero EB (by decide) rfl, ga (gr w') _, ?_, ?_⟩
          · simp [Sp.holds, Sp.new, rgUpd, ZeroB]
          · intro b hb; simp [Sp.own, Sp.new, rgUpd, blockOf] at hb; subst hb; simp
        · refine rg_eq (by decide) (by rfl) (by rfl) fun x w' B hg hp hB => ?_
          have e0 := hB 0
          simp [rgDsts] at e0
          go_simp
        · refine rg_eq (by decide) (by rfl) (by rfl) fun x w' B hg hp hB => ?_
          have e1 := hB 1
          simp [rgDsts] at e1
          go_simp
        · refine rg_eq (by decide) (by rfl) (by rfl) fun x w' B hg hp hB => ?_
          have h59 := rg_pred_eq (d := 59) hp 0 rfl rfl rfl
          have h60 := rg_pred_eq (d := 60) hp 1 rfl rfl rfl
          have e1 := (hB.at_ 59 rfl).trans h59
          have e2 := (hB.at_ 60 rfl).trans h60
          rw [HR.out.2.2.1]; exact cut_head (m := k) rfl (by simpa [Act.eval] using e1) (by simpa [Act.eval] using e2) (by have := HA.out.2.2; have := HP.out.2.2.2.2.2.2.1; omega)
        · refine rg_val (by decide) (by rfl) fun x w' B hg hp hB => ?_
          have h58 := rg_pred_new (d := 58) hp 0 rfl rfl rfl
          have h61 := rg_pred_eq (d := 61) hp 1 rfl rfl rfl
          obtain ⟨g, hg0⟩ := h58
          have e1 := (hB.at_ 58 rfl).trans hg0
          have e2 := (hB.at_ 61 rfl).trans h61
          refine ⟨.slice (some ⟨g, 0, none⟩) 0 0, w', exec_empty (s := .tmp 58) (x := .tmp 61) (g := g) rfl (by simpa [Act.eval] using e1) (by simpa [Act.eval, hk0] using e2), gr w', ?_, ?_⟩
          · simp [Sp.holds, Sp.one, rgUpd, ZeroB]
          · intro b hb; simp [Sp.own, Sp.one] at hb
        · refine rg_val (by decide) (by rfl) fun x w' B hg hp hB => ?_
          refine ⟨.slice (some ⟨w'.heap.size, 0, none⟩) 0 0, _, Seal.run_zero EB (by decide) rfl, ga (gr w') _, ?_, ?_⟩
          · simp [Sp.holds, Sp.new, rgUpd, ZeroB]
          · intro b hb; simp [Sp.own, Sp.new, rgUpd, blockOf] at hb; subst hb; simp
        · refine rg_eq (by decide) (by rfl) (by rfl) fun x w' B hg hp hB => ?_
          have e0 := hB 0
          simp [rgDsts] at e0
          go_simp
        · refine rg_eq (by decide) (by rfl) (by rfl) fun x w' B hg hp hB => ?_
          have e1 := hB 1
          simp [rgDsts] at e1
          go_simp
        · refine rg_eq (by decide) (by rfl) (by rfl) fun x w' B hg hp hB => ?_
          have h64 := rg_pred_eq (d := 64) hp 0 rfl rfl rfl
          have h65 := rg_pred_eq (d := 65) hp 1 rfl rfl rfl
          have e1 := (hB.at_ 64 rfl).trans h64
          have e2 := (hB.at_ 65 rfl).trans h65
          rw [HR.out.2.2.2, HP.out.2.2.1]; exact cut_behind (m := k) rfl (by simpa [Act.eval] using e1) (by simpa [Act.eval] using e2) (by have := HP.out.2.2.2.2.2.2.1; omega)
        · refine rg_val (by decide) (by rfl) fun x w' B hg hp hB => ?_
          have h63 := rg_pred_new (d := 63) hp 0 rfl rfl rfl
          have h66 := rg_pred_eq (d := 66) hp 1 rfl rfl rfl
          obtain ⟨g, hg0⟩ := h63
          have e1 := (hB.at_ 63 rfl).trans hg0
          have e2 := (hB.at_ 66 rfl).trans h66
          refine ⟨.slice (some ⟨g, 0, none⟩) 0 0, w', exec_empty (s := .tmp 63) (x := .tmp 66) (g := g) rfl (by simpa [Act.eval] using e1) (by simpa [Act.eval, hm0] using e2), gr w', ?_, ?_⟩
          · simp [Sp.holds, Sp.one, rgUpd, ZeroB]
          · intro b hb; simp [Sp.own, Sp.one] at hb
        · refine rg_val (by decide) (by rfl) fun x w' B hg hp hB => ?_
          refine ⟨x 62, w', ?_, gr w', ?_, ?_⟩
          · have e1 := hB.at_ 62 rfl
            simp [execOp, Act.eval, e1, Result.andThen]
          · rw [same_holds]; simp [rgUpd]
          · intro b hb; simp [same_own] at hb
        · refine rg_val (by decide) (by rfl) fun x w' B hg hp hB => ?_
          refine ⟨x 67, w', ?_, gr w', ?_, ?_⟩
          · have e1 := hB.at_ 67 rfl
            simp [execOp, Act.eval, e1, Result.andThen]
          · rw [same_holds]; simp [rgUpd]
          · intro b hb; simp [same_own] at hb
      case hfin3 =>
        intro x w8 hg hall hap
        simp only [RgAll, holds_eq, holds_new, holds_one, same_holds, and_true] at hall
        obtain ⟨h58, h59, h60, h61, h62, h63, h64, h65, h66, h67, h7, h8⟩ := hall
        obtain ⟨g58, h58⟩ := h58
        obtain ⟨g63, h63⟩ := h63
        obtain ⟨g62, h62⟩ := h62
        obtain ⟨g67, h67⟩ := h67
        have hap2 := True.intro
        have hab : AB W3 w8 k m p1 p2 (x 62) (x 67) := AB.of hg HP.out.2.2.2.1 HP.out.2.2.2.2.1 (.inr ⟨hk0, g62, h62⟩) (.inr ⟨hm0, g67, h67⟩) (fun a b => by omega)
        obtain ⟨va, hva⟩ : ∃ v, x 62 = v := ⟨_, rfl⟩
        obtain ⟨vb, hvb⟩ : ∃ v, x 67 = v := ⟨_, rfl⟩
        rw [hva] at h7 hab
        rw [hvb] at h8 hab
        have HABX := Lib.hid hab
        clear hap hap2 h62 h67 hab hg
        simp only [rgDsts, List.filterMap_cons, List.filterMap_nil, putMany, List.foldl_cons, List.foldl_nil, List.setIfInBounds_toArray, List.set_cons_succ, List.set_cons_zero, h58, h59, h60, h61, hva, h63, h64, h65, h66, hvb, h7, h8]
        clear h58 h59 h60 h61 h63 h64 h65 h66 h7 h8 hva hvb
        go_wp2
        go_meet
        exact HABX.out
end Go.Proofs.YtojemdggbcklkaaDoor.WireR
