/- weirlaw28.WireKeeps: the walk. (Printed by mklkeeps.py.) -/
import Derived.Test.YtojemdggbcklkaaDoorWKeepB
import Derived.Test.YtojemdggbcklkaaDoorLawStays
import Derived.Test.YtojemdggbcklkaaDoorLawTwice
import Derived.Deep.CutBlock
namespace Go.Proofs.YtojemdggbcklkaaDoor.WireR
open Go.RowKit Go.Proofs.YtojemdggbcklkaaDoor.Mem Go.Proofs.YtojemdggbcklkaaDoor.Wire Go.Proofs.YtojemdggbcklkaaDoor.Strs Go.Proofs.YtojemdggbcklkaaDoor.Heads
set_option linter.unusedVariables false
set_option linter.unusedSimpArgs false
set_option maxRecDepth 8000

/-- two copies: each a row of its own, if it is not empty -/
structure AB (w3 wc : World) (k m : Nat) (p1 p2 : Bytes) (v7 v8 : Value) : Prop where
  low : Below w3.heap.size w3 wc
  a : ∃ A c, v7 = .slice A k c ∧ k ≤ c ∧ RB wc A p1
  b : ∃ A c, v8 = .slice A m c ∧ m ≤ c ∧ RB wc A p2
  ao : 0 < k → wc.ownsRow w3.heap.size 5 1 v7 k (p1.map bv)
  bo : 0 < m → wc.ownsRow w3.heap.size 5 1 v8 m (p2.map bv)
  far : 0 < k → 0 < m → Far v7 v8
theorem in_block {w : World} {B n : Nat} {T : TypeId} {v : Value} {xs : List Value} (h : w.ownsRow B T 1 v n xs) {b : Nat} (e : v.ownBlock = some b) : b ∈ blockOf v := by
  rcases h.2 with ⟨rfl, _⟩ | ⟨g, cap, cur, rfl, _⟩
  · cases e
  · simp [Value.ownBlock] at e
    subst e
    simp [blockOf]
theorem AB.of {w3 wc : World} {k m : Nat} {p1 p2 : Bytes} {va vb : Value} (hb : Below w3.heap.size w3 wc) (hl1 : k = p1.length) (hl2 : m = p2.length) (ha : wc.ownsRow w3.heap.size 5 1 va k (p1.map bv) ∨ (k = 0 ∧ ∃ g, va = .slice (some ⟨g, 0, none⟩) 0 0))
    (hb2 : wc.ownsRow w3.heap.size 5 1 vb m (p2.map bv) ∨ (m = 0 ∧ ∃ g, vb = .slice (some ⟨g, 0, none⟩) 0 0)) (hf : 0 < k → 0 < m → Far va vb) : AB w3 wc k m p1 p2 va vb := by
  refine ⟨hb, ?_, ?_, fun h => ?_, fun h => ?_, hf⟩
  · rcases ha with h | ⟨rfl, g, rfl⟩
    · obtain ⟨A, c, rfl, hc⟩ := own_slice h
      exact ⟨A, c, rfl, hc, (own_rv h).rb⟩
    · have : p1 = [] := List.length_eq_zero_iff.1 hl1.symm
      subst this
      exact ⟨_, 0, rfl, Nat.le_refl _, RB.nil _ _⟩
  · rcases hb2 with h | ⟨rfl, g, rfl⟩
    · obtain ⟨A, c, rfl, hc⟩ := own_slice h
      exact ⟨A, c, rfl, hc, (own_rv h).rb⟩
    · have : p2 = [] := List.length_eq_zero_iff.1 hl2.symm
      subst this
      exact ⟨_, 0, rfl, Nat.le_refl _, RB.nil _ _⟩
  · rcases ha with h' | ⟨h', _⟩
    · exact h'
    · omega
  · rcases hb2 with h' | ⟨h', _⟩
    · exact h'
    · omega
set_option maxHeartbeats 16000000 in
theorem law_keeps (A : Option Addr) (n c : Nat) (raw : List UInt8) (z : Int) (w : World) (hA : RB w A raw) (hn : n = raw.length) (hc : n ≤ c) (hl : n ≤ 1073741824) :
    Calls Tryd.prog 11 #[.slice A n c, .int .i64 z] w fun e w' => e = .returned (.bool true) ∧ Below w.heap.size w w' := by
  have HA := Lib.hid (And.intro hA (And.intro hn hc))
  have hll : (n : Int) ≤ 1073741824 := by omega
  clear hA hn hc
  by_cases h1 : 262144 < n
  · have b3 : decide ((262144 : Int) < (n : Int)) = true := by rw [decide_eq_true_eq]; omega
    clear h1
    go_enter Tryd.func11, Tryd.ntmps11
    go_wp2_with (first
      | (go_at_call 22; (with_reducible show Calls _ _ #[] w _); go_must (refine (new_any _).mono ?_); rintro e w1 ⟨rfl, hB1, hb1⟩; have H1 := Lib.hid (And.intro hB1 hb1); clear hB1 hb1)
      | (go_at_call 22; go_must (refine (new_any _).mono ?_); rintro e w2 ⟨rfl, hB2, hb2⟩; have H2 := Lib.hid (And.intro hB2 hb2); clear hB2 hb2)
      | (go_at_call 14; go_must (refine (awake_any _).mono ?_); rintro e w3 ⟨rfl, hb3⟩; have H3 := Lib.hid hb3; clear hb3))
    go_ret
    exact ⟨rfl, gt H1.out.2 (gt H2.out.2 H3.out)⟩
  · have b3 : decide ((262144 : Int) < (n : Int)) = false := by rw [decide_eq_false_iff_not]; omega
    have HN := Lib.hid (show n ≤ 262144 by omega)
    have hn2 : (n : Int) ≤ 262144 := by omega
    clear h1 hl hll
    go_enter Tryd.func11, Tryd.ntmps11
    go_upto_region 6 with (first
      | (go_at_call 22; (with_reducible show Calls _ _ #[] w _); go_must (refine (new_any _).mono ?_); rintro e w1 ⟨rfl, hB1, hb1⟩; have H1 := Lib.hid (And.intro hB1 hb1); clear hB1 hb1)
      | (go_at_call 22; go_must (refine (new_any _).mono ?_); rintro e w2 ⟨rfl, hB2, hb2⟩; have H2 := Lib.hid (And.intro hB2 hb2); clear hB2 hb2)
      | (go_at_call 14; go_must (refine (awake_any _).mono ?_); rintro e w3 ⟨rfl, hb3⟩; have H3 := Lib.hid hb3; clear hb3))
    go_cut [54] from 47 (fun v wc => ∃ b : Bool, v = .bool b ∧ (b = false → 0 ≤ z ∧ z ≤ (n : Int)) ∧ wc = w3)
    case first =>
      -- A>
      by_cases h0 : z < 0
      · have c1 : decide (z < 0) = true := by rw [decide_eq_true_eq]; exact h0
        go_wp2
        go_meet
        exact ⟨true, rfl, fun h => (by cases h), rfl⟩
      · have c1 : decide (z < 0) = false := by rw [decide_eq_false_iff_not]; exact h0
        by_cases h2 : (n : Int) < z
        · have c2 : decide ((n : Int) < z) = true := by rw [decide_eq_true_eq]; exact h2
          go_wp2
          go_meet
          exact ⟨true, rfl, fun h => (by cases h), rfl⟩
        · have c2 : decide ((n : Int) < z) = false := by rw [decide_eq_false_iff_not]; exact h2
          go_wp2
          go_meet
          exact ⟨false, rfl, fun _ => ⟨by omega, by omega⟩, rfl⟩
      -- <A
    case rest =>
    obtain ⟨b, rfl, hbz, rfl⟩ := hcut
    go_upto_if 54 with fail
    go_cut [1] from 55 (fun v1 wx => ∃ k : Nat, k ≤ n ∧ v1 = .int .i64 k ∧ wx = wc)
    case first =>
      -- A>
      obtain ⟨q, hq⟩ : ∃ q, q = n / 2 := ⟨_, rfl⟩
      have d1 : ((n : Int)).tdiv 2 = (q : Int) := by rw [Int.tdiv_eq_ediv_of_nonneg (by omega)]; omega
      have d2 : ((n : Int)) / 2 = (q : Int) := by omega
      have d3 : IntKind.i64.wrap (q : Int) = (q : Int) := by rw [IntKind.wrap_i64]; omega
      have hqn : q ≤ n := by omega
      clear hq
      cases b
      · obtain ⟨z1, z2⟩ := hbz rfl
        go_wp2
        go_meet
        exact ⟨z.toNat, by omega, by rw [Int.toNat_of_nonneg z1], rfl⟩
      · clear hbz
        go_wp2
        go_meet
        exact ⟨q, hqn, rfl, rfl⟩
      -- <A
    case rest =>
    clear hbz
    obtain ⟨k, hkn, rfl, rfl⟩ := hcut
    obtain ⟨W3, hW3⟩ : ∃ x, x = wc := ⟨_, rfl⟩
    subst hW3
    go_upto_region 8 with fail
    obtain ⟨p1, hp1⟩ : ∃ p, p = raw.take k := ⟨_, rfl⟩
    obtain ⟨p2, hp2⟩ : ∃ p, p = raw.drop k := ⟨_, rfl⟩
    obtain ⟨m, hm⟩ : ∃ m, m = n - k := ⟨_, rfl⟩
    have hl1 : k = p1.length := by rw [hp1, List.length_take]; have := HA.out.2.1; omega
    have hl2 : m = p2.length := by rw [hp2, List.length_drop, hm, HA.out.2.1]
    have hp12 : p1 ++ p2 = raw := by rw [hp1, hp2, List.take_append_drop]
    have hw3 : Below w.heap.size w W3 := gt H1.out.2 (gt H2.out.2 H3.out)
    obtain ⟨D1, hD1⟩ : ∃ D, D = (if c = 0 then A else A.map (·.add 0)) := ⟨_, rfl⟩
    obtain ⟨D2, hD2⟩ : ∃ D, D = (if c = k then A else A.map (·.add k)) := ⟨_, rfl⟩
    have r1 : RB W3 D1 p1 := by
      have := rb_behind (l := 0) (c := c) (HA.out.1.below hw3) (Nat.zero_le _) (by have := HA.out.2.1; have := HA.out.2.2; omega)
      rw [List.drop_zero, ← hD1] at this
      rw [hp1]
      exact this.take k
    have r2 : RB W3 D2 p2 := by
      have := rb_behind (l := k) (c := c) (HA.out.1.below hw3) (by have := HA.out.2.1; omega) (by have := HA.out.2.1; have := HA.out.2.2; omega)
      rw [← hD2] at this
      rw [hp2]
      exact this
    have HP := Lib.hid (And.intro hp1 (And.intro hp2 (And.intro hm (And.intro hl1 (And.intro hl2 (And.intro hp12 (And.intro hkn hw3)))))))
    have HR := Lib.hid (And.intro r1 (And.intro r2 (And.intro hD1 hD2)))
    clear hp1 hp2 hm hl1 hl2 hp12 hkn hw3 hD1 hD2 r1 r2
    go_cut [7, 8] from 58 (fun v7 v8 wx => AB W3 wx k m p1 p2 v7 v8)
    case first =>
      -- A>
      by_cases hk0 : 0 < k
      · by_cases hm0 : 0 < m
        · skip
          try simp only [Act.put, List.setIfInBounds_toArray, List.set_cons_succ, List.set_cons_zero]
          refine wp_region_rg [.new 58 ZeroB, .eq 59 (.slice A n c), .eq 60 (.int .i64 (k : Int)), .eq 61 (.slice D1 k c), .new 62 (fun v w' => w'.ownsRow W3.heap.size 5 1 v k (p1.map bv)), .new 63 ZeroB, .eq 64 (.slice A n c), .eq 65 (.int .i64 (k : Int)), .eq 66 (.slice D2 m (c - k)), .new 67 (fun v w' => w'.ownsRow W3.heap.size 5 1 v m (p2.map bv)), spSame 7 62, spSame 8 67] (by kernel_rfl) (by kernel_rfl) ?hst0 ?hob0 ?hfin0
          case hst0 =>
            intro s hs
            simp only [List.mem_cons, List.not_mem_nil, or_false] at hs
            rcases hs with rfl | rfl | rfl | rfl | rfl | rfl | rfl | rfl | rfl | rfl | rfl | rfl
            · rintro vs w1 w2 ⟨v, rfl, h⟩ hb; exact ⟨v, rfl, h⟩
            · exact fun _ _ _ h _ => h
            · exact fun _ _ _ h _ => h
            · exact fun _ _ _ h _ => h
            · rintro vs w1 w2 ⟨v, rfl, h⟩ hb; exact ⟨v, rfl, own_below' h hb⟩
            · rintro vs w1 w2 ⟨v, rfl, h⟩ hb; exact ⟨v, rfl, h⟩
            · exact fun _ _ _ h _ => h
            · exact fun _ _ _ h _ => h
            · exact fun _ _ _ h _ => h
            · rintro vs w1 w2 ⟨v, rfl, h⟩ hb; exact ⟨v, rfl, own_below' h hb⟩
            · exact fun _ _ _ h _ => h
            · exact fun _ _ _ h _ => h
          case hob0 =>
            refine rgs_cons ?_ (rgs_cons ?_ (rgs_cons ?_ (rgs_cons ?_ (rgs_cons ?_ (rgs_cons ?_ (rgs_cons ?_ (rgs_cons ?_ (rgs_cons ?_ (rgs_cons ?_ (rgs_cons ?_ (rgs_cons ?_ (rgs_nil))))))))))))
            · refine rg_val (by decide) (by rfl) fun x w' B hg hp hB => ?_
              refine ⟨.slice (some ⟨w'.heap.size, 0, none⟩) 0 0, _, Seal.run_zero EB (by decide) rfl, ga (gr w') _, ?_, ?_⟩
              · simp [Sp.holds, Sp.new, rgUpd, ZeroB]
              · intro b hb; simp [Sp.own, Sp.new, rgUpd, blockOf] at hb; subst hb; simp
            · refine rg_eq (by decide) (by rfl) (by rfl) fun x w' B hg hp hB => ?_
              have e0 := hB 0
              simp [rgDsts] at e0
              go_simp
            · refine rg_eq (by decide) (by rfl) (by rfl) fun x w' B hg hp hB => ?_
              have e1 := hB 1
              simp [rgDsts] at e1
              go_simp
            · refine rg_eq (by decide) (by rfl) (by rfl) fun x w' B hg hp hB => ?_
              have h59 := rg_pred_eq (d := 59) hp 0 rfl rfl rfl
              have h60 := rg_pred_eq (d := 60) hp 1 rfl rfl rfl
              have e1 := (hB.at_ 59 rfl).trans h59
              have e2 := (hB.at_ 60 rfl).trans h60
              rw [HR.out.2.2.1]; exact cut_head (m := k) rfl (by simpa [Act.eval] using e1) (by simpa [Act.eval] using e2) (by have := HA.out.2.2; have := HP.out.2.2.2.2.2.2.1; omega)
            · refine rg_fresh (A := D1) (p := p1) (c := c) (by decide) rfl rfl rfl HP.out.2.2.2.1 hk0 (by have := HN.out; have := HP.out.2.2.1; have := HP.out.2.2.2.2.2.2.1; omega) fun x w' B hg hp hB => ?_
              have h58 := rg_pred_new (d := 58) hp 0 rfl rfl rfl
              have h61 := rg_pred_eq (d := 61) hp 1 rfl rfl rfl
              obtain ⟨g, hg0⟩ := h58
              have e1 := (hB.at_ 58 rfl).trans hg0
              have e2 := (hB.at_ 61 rfl).trans h61
              exact ⟨HR.out.1.below hg, ⟨g, by simpa [Act.eval] using e1⟩, by simpa [Act.eval] using e2⟩
            · refine rg_val (by decide) (by rfl) fun x w' B hg hp hB => ?_
              refine ⟨.slice (some ⟨w'.heap.size, 0, none⟩) 0 0, _, Seal.run_zero EB (by decide) rfl, ga (gr w') _, ?_, ?_⟩
              · simp [Sp.holds, Sp.new, rgUpd, ZeroB]
              · intro b hb; simp [Sp.own, Sp.new, rgUpd, blockOf] at hb; subst hb; simp
            · refine rg_eq (by decide) (by rfl) (by rfl) fun x w' B hg hp hB => ?_
              have e0 := hB 0
              simp [rgDsts] at e0
              go_simp
            · refine rg_eq (by decide) (by rfl) (by rfl) fun x w' B hg hp hB => ?_
              have e1 := hB 1
              simp [rgDsts] at e1
              go_simp
            · refine rg_eq (by decide) (by rfl) (by rfl) fun x w' B hg hp hB => ?_
              have h64 := rg_pred_eq (d := 64) hp 0 rfl rfl rfl
              have h65 := rg_pred_eq (d := 65) hp 1 rfl rfl rfl
              have e1 := (hB.at_ 64 rfl).trans h64
              have e2 := (hB.at_ 65 rfl).trans h65
              rw [HR.out.2.2.2, HP.out.2.2.1]; exact cut_behind (m := k) rfl (by simpa [Act.eval] using e1) (by simpa [Act.eval] using e2) (by have := HP.out.2.2.2.2.2.2.1; omega)
            · refine rg_fresh (A := D2) (p := p2) (c := (c - k)) (by decide) rfl rfl rfl HP.out.2.2.2.2.1 hm0 (by have := HN.out; have := HP.out.2.2.1; have := HP.out.2.2.2.2.2.2.1; omega) fun x w' B hg hp hB => ?_
              have h63 := rg_pred_new (d := 63) hp 0 rfl rfl rfl
              have h66 := rg_pred_eq (d := 66) hp 1 rfl rfl rfl
              obtain ⟨g, hg0⟩ := h63
              have e1 := (hB.at_ 63 rfl).trans hg0
              have e2 := (hB.at_ 66 rfl).trans h66
              exact ⟨HR.out.2.1.below hg, ⟨g, by simpa [Act.eval] using e1⟩, by simpa [Act.eval] using e2⟩
            · refine rg_val (by decide) (by rfl) fun x w' B hg hp hB => ?_
              refine ⟨x 62, w', ?_, gr w', ?_, ?_⟩
              · have e1 := hB.at_ 62 rfl
                simp [execOp, Act.eval, e1, Result.andThen]
              · rw [same_holds]; simp [rgUpd]
              · intro b hb; simp [same_own] at hb
            · refine rg_val (by decide) (by rfl) fun x w' B hg hp hB => ?_
              refine ⟨x 67, w', ?_, gr w', ?_, ?_⟩
              · have e1 := hB.at_ 67 rfl
                simp [execOp, Act.eval, e1, Result.andThen]
              · rw [same_holds]; simp [rgUpd]
              · intro b hb; simp [same_own] at hb
          case hfin0 =>
            intro x w8 hg hall hap
            simp only [RgAll, holds_eq, holds_new, holds_one, same_holds, and_true] at hall
            obtain ⟨h58, h59, h60, h61, h62, h63, h64, h65, h66, h67, h7, h8⟩ := hall
            obtain ⟨g58, h58⟩ := h58
            obtain ⟨g63, h63⟩ := h63
            have hap2 := hap.2.2.2.2.1
            have hab : AB W3 w8 k m p1 p2 (x 62) (x 67) := AB.of hg HP.out.2.2.2.1 HP.out.2.2.2.2.1 (.inl h62) (.inl h67) (fun _ _ g e e2 => hap2 g (by simp only [own_new]; exact in_block h62 e) _ (by simp only [List.mem_cons]; exact .inr (.inr (.inr (.inr (.inl rfl))))) (by simp only [own_new]; exact in_block h67 e2))
            obtain ⟨va, hva⟩ : ∃ v, x 62 = v := ⟨_, rfl⟩
            obtain ⟨vb, hvb⟩ : ∃ v, x 67 = v := ⟨_, rfl⟩
            rw [hva] at h7 hab
            rw [hvb] at h8 hab
            have HABX := Lib.hid hab
            clear hap hap2 h62 h67 hab hg
            simp only [rgDsts, List.filterMap_cons, List.filterMap_nil, putMany, List.foldl_cons, List.foldl_nil, List.setIfInBounds_toArray, List.set_cons_succ, List.set_cons_zero, h58, h59, h60, h61, hva, h63, h64, h65, h66, hvb, h7, h8]
            clear h58 h59 h60 h61 h63 h64 h65 h66 h7 h8 hva hvb
            go_wp2
            go_meet
            exact HABX.out
        · have hm0 : m = 0 := by omega
          try simp only [Act.put, List.setIfInBounds_toArray, List.set_cons_succ, List.set_cons_zero]
          refine wp_region_rg [.new 58 ZeroB, .eq 59 (.slice A n c), .eq 60 (.int .i64 (k : Int)), .eq 61 (.slice D1 k c), .new 62 (fun v w' => w'.ownsRow W3.heap.size 5 1 v k (p1.map bv)), .new 63 ZeroB, .eq 64 (.slice A n c), .eq 65 (.int .i64 (k : Int)), .eq 66 (.slice D2 m (c - k)), .one 67 ZeroB, spSame 7 62, spSame 8 67] (by kernel_rfl) (by kernel_rfl) ?hst1 ?hob1 ?hfin1
          case hst1 =>
            intro s hs
            simp only [List.mem_cons, List.not_mem_nil, or_false] at hs
            rcases hs with rfl | rfl | rfl | rfl | rfl | rfl | rfl | rfl | rfl | rfl | rfl | rfl
            · rintro vs w1 w2 ⟨v, rfl, h⟩ hb; exact ⟨v, rfl, h⟩
            · exact fun _ _ _ h _ => h
            · exact fun _ _ _ h _ => h
            · exact fun _ _ _ h _ => h
            · rintro vs w1 w2 ⟨v, rfl, h⟩ hb; exact ⟨v, rfl, own_below' h hb⟩
            · rintro vs w1 w2 ⟨v, rfl, h⟩ hb; exact ⟨v, rfl, h⟩
            · exact fun _ _ _ h _ => h
            · exact fun _ _ _ h _ => h
            · exact fun _ _ _ h _ => h
            · rintro vs w1 w2 ⟨v, rfl, h⟩ hb; exact ⟨v, rfl, h⟩
            · exact fun _ _ _ h _ => h
            · exact fun _ _ _ h _ => h
          case hob1 =>
            refine rgs_cons ?_ (rgs_cons ?_ (rgs_cons ?_ (rgs_cons ?_ (rgs_cons ?_ (rgs_cons ?_ (rgs_cons ?_ (rgs_cons ?_ (rgs_cons ?_ (rgs_cons ?_ (rgs_cons ?_ (rgs_cons ?_ (rgs_nil))))))))))))
            · refine rg_val (by decide) (by rfl) fun x w' B hg hp hB => ?_
              refine ⟨.slice (some ⟨w'.heap.size, 0, none⟩) 0 0, _, Seal.run_zero EB (by decide) rfl, ga (gr w') _, ?_, ?_⟩
              · simp [Sp.holds, Sp.new, rgUpd, ZeroB]
              · intro b hb; simp [Sp.own, Sp.new, rgUpd, blockOf] at hb; subst hb; simp
            · refine rg_eq (by decide) (by rfl) (by rfl) fun x w' B hg hp hB => ?_
              have e0 := hB 0
              simp [rgDsts] at e0
              go_simp
            · refine rg_eq (by decide) (by rfl) (by rfl) fun x w' B hg hp hB => ?_
              have e1 := hB 1
              simp [rgDsts] at e1
              go_simp
            · refine rg_eq (by decide) (by rfl) (by rfl) fun x w' B hg hp hB => ?_
              have h59 := rg_pred_eq (d := 59) hp 0 rfl rfl rfl
              have h60 := rg_pred_eq (d := 60) hp 1 rfl rfl rfl
              have e1 := (hB.at_ 59 rfl).trans h59
              have e2 := (hB.at_ 60 rfl).trans h60
              rw [HR.out.2.2.1]; exact cut_head (m := k) rfl (by simpa [Act.eval] using e1) (by simpa [Act.eval] using e2) (by have := HA.out.2.2; have := HP.out.2.2.2.2.2.2.1; omega)
            · refine rg_fresh (A := D1) (p := p1) (c := c) (by decide) rfl rfl rfl HP.out.2.2.2.1 hk0 (by have := HN.out; have := HP.out.2.2.1; have := HP.out.2.2.2.2.2.2.1; omega) fun x w' B hg hp hB => ?_
              have h58 := rg_pred_new (d := 58) hp 0 rfl rfl rfl
              have h61 := rg_pred_eq (d := 61) hp 1 rfl rfl rfl
              obtain ⟨g, hg0⟩ := h58
              have e1 := (hB.at_ 58 rfl).trans hg0
              have e2 := (hB.at_ 61 rfl).trans h61
              exact ⟨HR.out.1.below hg, ⟨g, by simpa [Act.eval] using e1⟩, by simpa [Act.eval] using e2⟩
            · refine rg_val (by decide) (by rfl) fun x w' B hg hp hB => ?_
              refine ⟨.slice (some ⟨w'.heap.size, 0, none⟩) 0 0, _, Seal.run_zero EB (by decide) rfl, ga (gr w') _, ?_, ?_⟩
              · simp [Sp.holds, Sp.new, rgUpd, ZeroB]
              · intro b hb; simp [Sp.own, Sp.new, rgUpd, blockOf] at hb; subst hb; simp
            · refine rg_eq (by decide) (by rfl) (by rfl) fun x w' B hg hp hB => ?_
              have e0 := hB 0
              simp [rgDsts] at e0
              go_simp
            · refine rg_eq (by decide) (by rfl) (by rfl) fun x w' B hg hp hB => ?_
              have e1 := hB 1
              simp [rgDsts] at e1
              go_simp
            · refine rg_eq (by decide) (by rfl) (by rfl) fun x w' B hg hp hB => ?_
              have h64 := rg_pred_eq (d := 64) hp 0 rfl rfl rfl
              have h65 := rg_pred_eq (d := 65) hp 1 rfl rfl rfl
              have e1 := (hB.at_ 64 rfl).trans h64
              have e2 := (hB.at_ 65 rfl).trans h65
              rw [HR.out.2.2.2, HP.out.2.2.1]; exact cut_behind (m := k) rfl (by simpa [Act.eval] using e1) (by simpa [Act.eval] using e2) (by have := HP.out.2.2.2.2.2.2.1; omega)
            · refine rg_val (by decide) (by rfl) fun x w' B hg hp hB => ?_
              have h63 := rg_pred_new (d := 63) hp 0 rfl rfl rfl
              have h66 := rg_pred_eq (d := 66) hp 1 rfl rfl rfl
              obtain ⟨g, hg0⟩ := h63
              have e1 := (hB.at_ 63 rfl).trans hg0
              have e2 := (hB.at_ 66 rfl).trans h66
              refine ⟨.slice (some ⟨g, 0, none⟩) 0 0, w', exec_empty (s := .tmp 63) (x := .tmp 66) (g := g) rfl (by simpa [Act.eval] using e1) (by simpa [Act.eval, hm0] using e2), gr w', ?_, ?_⟩
              · simp [Sp.holds, Sp.one, rgUpd, ZeroB]
              · intro b hb; simp [Sp.own, Sp.one] at hb
            · refine rg_val (by decide) (by rfl) fun x w' B hg hp hB => ?_
              refine ⟨x 62, w', ?_, gr w', ?_, ?_⟩
              · have e1 := hB.at_ 62 rfl
                simp [execOp, Act.eval, e1, Result.andThen]
              · rw [same_holds]; simp [rgUpd]
              · intro b hb; simp [same_own] at hb
            · refine rg_val (by decide) (by rfl) fun x w' B hg hp hB => ?_
              refine ⟨x 67, w', ?_, gr w', ?_, ?_⟩
              · have e1 := hB.at_ 67 rfl
                simp [execOp, Act.eval, e1, Result.andThen]
              · rw [same_holds]; simp [rgUpd]
              · intro b hb; simp [same_own] at hb
          case hfin1 =>
            intro x w8 hg hall hap
            simp only [RgAll, holds_eq, holds_new, holds_one, same_holds, and_true] at hall
            obtain ⟨h58, h59, h60, h61, h62, h63, h64, h65, h66, h67, h7, h8⟩ := hall
            obtain ⟨g58, h58⟩ := h58
            obtain ⟨g63, h63⟩ := h63
            obtain ⟨g67, h67⟩ := h67
            have hap2 := hap.2.2.2.2.1
            have hab : AB W3 w8 k m p1 p2 (x 62) (x 67) := AB.of hg HP.out.2.2.2.1 HP.out.2.2.2.2.1 (.inl h62) (.inr ⟨hm0, g67, h67⟩) (fun a b => by omega)
            obtain ⟨va, hva⟩ : ∃ v, x 62 = v := ⟨_, rfl⟩
            obtain ⟨vb, hvb⟩ : ∃ v, x 67 = v := ⟨_, rfl⟩
            rw [hva] at h7 hab
            rw [hvb] at h8 hab
            have HABX := Lib.hid hab
            clear hap hap2 h62 h67 hab hg
            simp only [rgDsts, List.filterMap_cons, List.filterMap_nil, putMany, List.foldl_cons, List.foldl_nil, List.setIfInBounds_toArray, List.set_cons_succ, List.set_cons_zero, h58, h59, h60, h61, hva, h63, h64, h65, h66, hvb, h7, h8]
            clear h58 h59 h60 h61 h63 h64 h65 h66 h7 h8 hva hvb
            go_wp2
            go_meet
            exact HABX.out
      · have hk0 : k = 0 := by omega
        by_cases hm0 : 0 < m
        · skip
          try simp only [Act.put, List.setIfInBounds_toArray, List.set_cons_succ, List.set_cons_zero]
          refine wp_region_rg [.new 58 ZeroB, .eq 59 (.slice A n c), .eq 60 (.int .i64 (k : Int)), .eq 61 (.slice D1 k c), .one 62 ZeroB, .new 63 ZeroB, .eq 64 (.slice A n c), .eq 65 (.int .i64 (k : Int)), .eq 66 (.slice D2 m (c - k)), .new 67 (fun v w' => w'.ownsRow W3.heap.size 5 1 v m (p2.map bv)), spSame 7 62, spSame 8 67] (by kernel_rfl) (by kernel_rfl) ?hst2 ?hob2 ?hfin2
          case hst2 =>
            intro s hs
            simp only [List.mem_cons, List.not_mem_nil, or_false] at hs
            rcases hs with rfl | rfl | rfl | rfl | rfl | rfl | rfl | rfl | rfl | rfl | rfl | rfl
            · rintro vs w1 w2 ⟨v, rfl, h⟩ hb; exact ⟨v, rfl, h⟩
            · exact fun _ _ _ h _ => h
            · exact fun _ _ _ h _ => h
            · exact fun _ _ _ h _ => h
            · rintro vs w1 w2 ⟨v, rfl, h⟩ hb; exact ⟨v, rfl, h⟩
            · rintro vs w1 w2 ⟨v, rfl, h⟩ hb; exact ⟨v, rfl, h⟩
            · exact fun _ _ _ h _ => h
            · exact fun _ _ _ h _ => h
            · exact fun _ _ _ h _ => h
            · rintro vs w1 w2 ⟨v, rfl, h⟩ hb; exact ⟨v, rfl, own_below' h hb⟩
            · exact fun _ _ _ h _ => h
            · exact fun _ _ _ h _ => h
          case hob2 =>
            refine rgs_cons ?_ (rgs_cons ?_ (rgs_cons ?_ (rgs_cons ?_ (rgs_cons ?_ (rgs_cons ?_ (rgs_cons ?_ (rgs_cons ?_ (rgs_cons ?_ (rgs_cons ?_ (rgs_cons ?_ (rgs_cons ?_ (rgs_nil))))))))))))
            · refine rg_val (by decide) (by rfl) fun x w' B hg hp hB => ?_
              refine ⟨.slice (some ⟨w'.heap.size, 0, none⟩) 0 0, _, Seal.run_zero EB (by decide) rfl, ga (gr w') _, ?_, ?_⟩
              · simp [Sp.holds, Sp.new, rgUpd, ZeroB]
              · intro b hb; simp [Sp.own, Sp.new, rgUpd, blockOf] at hb; subst hb; simp
            · refine rg_eq (by decide) (by rfl) (by rfl) fun x w' B hg hp hB => ?_
              have e0 := hB 0
              simp [rgDsts] at e0
              go_simp
            · refine rg_eq (by decide) (by rfl) (by rfl) fun x w' B hg hp hB => ?_
              have e1 := hB 1
              simp [rgDsts] at e1
              go_simp
            · refine rg_eq (by decide) (by rfl) (by rfl) fun x w' B hg hp hB => ?_
              have h59 := rg_pred_eq (d := 59) hp 0 rfl rfl rfl
              have h60 := rg_pred_eq (d := 60) hp 1 rfl rfl rfl
              have e1 := (hB.at_ 59 rfl).trans h59
              have e2 := (hB.at_ 60 rfl).trans h60
              rw [HR.out.2.2.1]; exact cut_head (m := k) rfl (by simpa [Act.eval] using e1) (by simpa [Act.eval] using e2) (by have := HA.out.2.2; have := HP.out.2.2.2.2.2.2.1; omega)
            · refine rg_val (by decide) (by rfl) fun x w' B hg hp hB => ?_
              have h58 := rg_pred_new (d := 58) hp 0 rfl rfl rfl
              have h61 := rg_pred_eq (d := 61) hp 1 rfl rfl rfl
              obtain ⟨g, hg0⟩ := h58
              have e1 := (hB.at_ 58 rfl).trans hg0
              have e2 := (hB.at_ 61 rfl).trans h61
              refine ⟨.slice (some ⟨g, 0, none⟩) 0 0, w', exec_empty (s := .tmp 58) (x := .tmp 61) (g := g) rfl (by simpa [Act.eval] using e1) (by simpa [Act.eval, hk0] using e2), gr w', ?_, ?_⟩
              · simp [Sp.holds, Sp.one, rgUpd, ZeroB]
              · intro b hb; simp [Sp.own, Sp.one] at hb
            · refine rg_val (by decide) (by rfl) fun x w' B hg hp hB => ?_
              refine ⟨.slice (some ⟨w'.heap.size, 0, none⟩) 0 0, _, Seal.run_zero EB (by decide) rfl, ga (gr w') _, ?_, ?_⟩
              · simp [Sp.holds, Sp.new, rgUpd, ZeroB]
              · intro b hb; simp [Sp.own, Sp.new, rgUpd, blockOf] at hb; subst hb; simp
            · refine rg_eq (by decide) (by rfl) (by rfl) fun x w' B hg hp hB => ?_
              have e0 := hB 0
              simp [rgDsts] at e0
              go_simp
            · refine rg_eq (by decide) (by rfl) (by rfl) fun x w' B hg hp hB => ?_
              have e1 := hB 1
              simp [rgDsts] at e1
              go_simp
            · refine rg_eq (by decide) (by rfl) (by rfl) fun x w' B hg hp hB => ?_
              have h64 := rg_pred_eq (d := 64) hp 0 rfl rfl rfl
              have h65 := rg_pred_eq (d := 65) hp 1 rfl rfl rfl
              have e1 := (hB.at_ 64 rfl).trans h64
              have e2 := (hB.at_ 65 rfl).trans h65
              rw [HR.out.2.2.2, HP.out.2.2.1]; exact cut_behind (m := k) rfl (by simpa [Act.eval] using e1) (by simpa [Act.eval] using e2) (by have := HP.out.2.2.2.2.2.2.1; omega)
            · refine rg_fresh (A := D2) (p := p2) (c := (c - k)) (by decide) rfl rfl rfl HP.out.2.2.2.2.1 hm0 (by have := HN.out; have := HP.out.2.2.1; have := HP.out.2.2.2.2.2.2.1; omega) fun x w' B hg hp hB => ?_
              have h63 := rg_pred_new (d := 63) hp 0 rfl rfl rfl
              have h66 := rg_pred_eq (d := 66) hp 1 rfl rfl rfl
              obtain ⟨g, hg0⟩ := h63
              have e1 := (hB.at_ 63 rfl).trans hg0
              have e2 := (hB.at_ 66 rfl).trans h66
              exact ⟨HR.out.2.1.below hg, ⟨g, by simpa [Act.eval] using e1⟩, by simpa [Act.eval] using e2⟩
            · refine rg_val (by decide) (by rfl) fun x w' B hg hp hB => ?_
              refine ⟨x 62, w', ?_, gr w', ?_, ?_⟩
              · have e1 := hB.at_ 62 rfl
                simp [execOp, Act.eval, e1, Result.andThen]
              · rw [same_holds]; simp [rgUpd]
              · intro b hb; simp [same_own] at hb
            · refine rg_val (by decide) (by rfl) fun x w' B hg hp hB => ?_
              refine ⟨x 67, w', ?_, gr w', ?_, ?_⟩
              · have e1 := hB.at_ 67 rfl
                simp [execOp, Act.eval, e1, Result.andThen]
              · rw [same_holds]; simp [rgUpd]
              · intro b hb; simp [same_own] at hb
          case hfin2 =>
            intro x w8 hg hall hap
            simp only [RgAll, holds_eq, holds_new, holds_one, same_holds, and_true] at hall
            obtain ⟨h58, h59, h60, h61, h62, h63, h64, h65, h66, h67, h7, h8⟩ := hall
            obtain ⟨g58, h58⟩ := h58
            obtain ⟨g63, h63⟩ := h63
            obtain ⟨g62, h62⟩ := h62
            have hap2 := True.intro
            have hab : AB W3 w8 k m p1 p2 (x 62) (x 67) := AB.of hg HP.out.2.2.2.1 HP.out.2.2.2.2.1 (.inr ⟨hk0, g62, h62⟩) (.inl h67) (fun a b => by omega)
            obtain ⟨va, hva⟩ : ∃ v, x 62 = v := ⟨_, rfl⟩
            obtain ⟨vb, hvb⟩ : ∃ v, x 67 = v := ⟨_, rfl⟩
            rw [hva] at h7 hab
            rw [hvb] at h8 hab
            have HABX := Lib.hid hab
            clear hap hap2 h62 h67 hab hg
            simp only [rgDsts, List.filterMap_cons, List.filterMap_nil, putMany, List.foldl_cons, List.foldl_nil, List.setIfInBounds_toArray, List.set_cons_succ, List.set_cons_zero, h58, h59, h60, h61, hva, h63, h64, h65, h66, hvb, h7, h8]
            clear h58 h59 h60 h61 h63 h64 h65 h66 h7 h8 hva hvb
            go_wp2
            go_meet
            exact HABX.out
        · have hm0 : m = 0 := by omega
          try simp only [Act.put, List.setIfInBounds_toArray, List.set_cons_succ, List.set_cons_zero]
          refine wp_region_rg [.new 58 ZeroB, .eq 59 (.slice A n c), .eq 60 (.int .i64 (k : Int)), .eq 61 (.slice D1 k c), .one 62 ZeroB, .new 63 ZeroB, .eq 64 (.slice A n c), .eq 65 (.int .i64 (k : Int)), .eq 66 (.slice D2 m (c - k)), .one 67 ZeroB, spSame 7 62, spSame 8 67] (by kernel_rfl) (by kernel_rfl) ?hst3 ?hob3 ?hfin3
          case hst3 =>
            intro s hs
            simp only [List.mem_cons, List.not_mem_nil, or_false] at hs
            rcases hs with rfl | rfl | rfl | rfl | rfl | rfl | rfl | rfl | rfl | rfl | rfl | rfl
            · rintro vs w1 w2 ⟨v, rfl, h⟩ hb; exact ⟨v, rfl, h⟩
            · exact fun _ _ _ h _ => h
            · exact fun _ _ _ h _ => h
            · exact fun _ _ _ h _ => h
            · rintro vs w1 w2 ⟨v, rfl, h⟩ hb; exact ⟨v, rfl, h⟩
            · rintro vs w1 w2 ⟨v, rfl, h⟩ hb; exact ⟨v, rfl, h⟩
            · exact fun _ _ _ h _ => h
            · exact fun _ _ _ h _ => h
            · exact fun _ _ _ h _ => h
            · rintro vs w1 w2 ⟨v, rfl, h⟩ hb; exact ⟨v, rfl, h⟩
            · exact fun _ _ _ h _ => h
            · exact fun _ _ _ h _ => h
          case hob3 =>
            refine rgs_cons ?_ (rgs_cons ?_ (rgs_cons ?_ (rgs_cons ?_ (rgs_cons ?_ (rgs_cons ?_ (rgs_cons ?_ (rgs_cons ?_ (rgs_cons ?_ (rgs_cons ?_ (rgs_cons ?_ (rgs_cons ?_ (rgs_nil))))))))))))
            · refine rg_val (by decide) (by rfl) fun x w' B hg hp hB => ?_
              refine ⟨.slice (some ⟨w'.heap.size, 0, none⟩) 0 0, _, Seal.run_zero EB (by decide) rfl, ga (gr w') _, ?_, ?_⟩
              · simp [Sp.holds, Sp.new, rgUpd, ZeroB]
              · intro b hb; simp [Sp.own, Sp.new, rgUpd, blockOf] at hb; subst hb; simp
            · refine rg_eq (by decide) (by rfl) (by rfl) fun x w' B hg hp hB => ?_
              have e0 := hB 0
              simp [rgDsts] at e0
              go_simp
            · refine rg_eq (by decide) (by rfl) (by rfl) fun x w' B hg hp hB => ?_
              have e1 := hB 1
              simp [rgDsts] at e1
              go_simp
            · refine rg_eq (by decide) (by rfl) (by rfl) fun x w' B hg hp hB => ?_
              have h59 := rg_pred_eq (d := 59) hp 0 rfl rfl rfl
              have h60 := rg_pred_eq (d := 60) hp 1 rfl rfl rfl
              have e1 := (hB.at_ 59 rfl).trans h59
              have e2 := (hB.at_ 60 rfl).trans h60
              rw [HR.out.2.2.1]; exact cut_head (m := k) rfl (by simpa [Act.eval] using e1) (by simpa [Act.eval] using e2) (by have := HA.out.2.2; have := HP.out.2.2.2.2.2.2.1; omega)
            · refine rg_val (by decide) (by rfl) fun x w' B hg hp hB => ?_
              have h58 := rg_pred_new (d := 58) hp 0 rfl rfl rfl
              have h61 := rg_pred_eq (d := 61) hp 1 rfl rfl rfl
              obtain ⟨g, hg0⟩ := h58
              have e1 := (hB.at_ 58 rfl).trans hg0
              have e2 := (hB.at_ 61 rfl).trans h61
              refine ⟨.slice (some ⟨g, 0, none⟩) 0 0, w', exec_empty (s := .tmp 58) (x := .tmp 61) (g := g) rfl (by simpa [Act.eval] using e1) (by simpa [Act.eval, hk0] using e2), gr w', ?_, ?_⟩
              · simp [Sp.holds, Sp.one, rgUpd, ZeroB]
              · intro b hb; simp [Sp.own, Sp.one] at hb
            · refine rg_val (by decide) (by rfl) fun x w' B hg hp hB => ?_
              refine ⟨.slice (some ⟨w'.heap.size, 0, none⟩) 0 0, _, Seal.run_zero EB (by decide) rfl, ga (gr w') _, ?_, ?_⟩
              · simp [Sp.holds, Sp.new, rgUpd, ZeroB]
              · intro b hb; simp [Sp.own, Sp.new, rgUpd, blockOf] at hb; subst hb; simp
            · refine rg_eq (by decide) (by rfl) (by rfl) fun x w' B hg hp hB => ?_
              have e0 := hB 0
              simp [rgDsts] at e0
              go_simp
            · refine rg_eq (by decide) (by rfl) (by rfl) fun x w' B hg hp hB => ?_
              have e1 := hB 1
              simp [rgDsts] at e1
              go_simp
            · refine rg_eq (by decide) (by rfl) (by rfl) fun x w' B hg hp hB => ?_
              have h64 := rg_pred_eq (d := 64) hp 0 rfl rfl rfl
              have h65 := rg_pred_eq (d := 65) hp 1 rfl rfl rfl
              have e1 := (hB.at_ 64 rfl).trans h64
              have e2 := (hB.at_ 65 rfl).trans h65
              rw [HR.out.2.2.2, HP.out.2.2.1]; exact cut_behind (m := k) rfl (by simpa [Act.eval] using e1) (by simpa [Act.eval] using e2) (by have := HP.out.2.2.2.2.2.2.1; omega)
            · refine rg_val (by decide) (by rfl) fun x w' B hg hp hB => ?_
              have h63 := rg_pred_new (d := 63) hp 0 rfl rfl rfl
              have h66 := rg_pred_eq (d := 66) hp 1 rfl rfl rfl
              obtain ⟨g, hg0⟩ := h63
              have e1 := (hB.at_ 63 rfl).trans hg0
              have e2 := (hB.at_ 66 rfl).trans h66
              refine ⟨.slice (some ⟨g, 0, none⟩) 0 0, w', exec_empty (s := .tmp 63) (x := .tmp 66) (g := g) rfl (by simpa [Act.eval] using e1) (by simpa [Act.eval, hm0] using e2), gr w', ?_, ?_⟩
              · simp [Sp.holds, Sp.one, rgUpd, ZeroB]
              · intro b hb; simp [Sp.own, Sp.one] at hb
            · refine rg_val (by decide) (by rfl) fun x w' B hg hp hB => ?_
              refine ⟨x 62, w', ?_, gr w', ?_, ?_⟩
              · have e1 := hB.at_ 62 rfl
                simp [execOp, Act.eval, e1, Result.andThen]
              · rw [same_holds]; simp [rgUpd]
              · intro b hb; simp [same_own] at hb
            · refine rg_val (by decide) (by rfl) fun x w' B hg hp hB => ?_
              refine ⟨x 67, w', ?_, gr w', ?_, ?_⟩
              · have e1 := hB.at_ 67 rfl
                simp [execOp, Act.eval, e1, Result.andThen]
              · rw [same_holds]; simp [rgUpd]
              · intro b hb; simp [same_own] at hb
          case hfin3 =>
            intro x w8 hg hall hap
            simp only [RgAll, holds_eq, holds_new, holds_one, same_holds, and_true] at hall
            obtain ⟨h58, h59, h60, h61, h62, h63, h64, h65, h66, h67, h7, h8⟩ := hall
            obtain ⟨g58, h58⟩ := h58
            obtain ⟨g63, h63⟩ := h63
            obtain ⟨g62, h62⟩ := h62
            obtain ⟨g67, h67⟩ := h67
            have hap2 := True.intro
            have hab : AB W3 w8 k m p1 p2 (x 62) (x 67) := AB.of hg HP.out.2.2.2.1 HP.out.2.2.2.2.1 (.inr ⟨hk0, g62, h62⟩) (.inr ⟨hm0, g67, h67⟩) (fun a b => by omega)
            obtain ⟨va, hva⟩ : ∃ v, x 62 = v := ⟨_, rfl⟩
            obtain ⟨vb, hvb⟩ : ∃ v, x 67 = v := ⟨_, rfl⟩
            rw [hva] at h7 hab
            rw [hvb] at h8 hab
            have HABX := Lib.hid hab
            clear hap hap2 h62 h67 hab hg
            simp only [rgDsts, List.filterMap_cons, List.filterMap_nil, putMany, List.foldl_cons, List.foldl_nil, List.setIfInBounds_toArray, List.set_cons_succ, List.set_cons_zero, h58, h59, h60, h61, hva, h63, h64, h65, h66, hvb, h7, h8]
            clear h58 h59 h60 h61 h63 h64 h65 h66 h7 h8 hva hvb
            go_wp2
            go_meet
            exact HABX.out
      -- <A
    case rest =>
    obtain ⟨Aa, ca, hva, hca, hra⟩ := hcut.a
    obtain ⟨Ab, cb, hvb, hcb, hrb⟩ := hcut.b
    subst hva hvb
    have hG1 : Blk wc w.heap.size 78 [.slice none 0 0, .bool false, .int .i64 0] := H1.out.1.grow (gt H2.out.2 (gt H3.out hcut.low))
    have hG2 : Blk wc w1.heap.size 78 [.slice none 0 0, .bool false, .int .i64 0] := H2.out.1.grow (gt H3.out hcut.low)
    have s1 := H1.out.1.lt
    have s1' := H1.out.2.size
    have s2 := H2.out.1.lt
    have s2' := H2.out.2.size
    have s3 := H3.out.size
    have s8 := hcut.low.size
    have hlow8 : Below w.heap.size w wc := HP.out.2.2.2.2.2.2.2.trans (hcut.low.mono HP.out.2.2.2.2.2.2.2.size)
    have cput := put_nextO (w := wc) (R := []) (G := w.heap.size) (B := w.heap.size + 1) (v := .slice none 0 0) (by rw [feed_nil]; exact ⟨hG1, World.ownsRow_nil _ _ _ _, Nat.lt_succ_self _⟩) Aa k ca p1 hra HP.out.2.2.2.1 (by omega) (by have := HN.out; have := HP.out.2.2.2.1; have := HP.out.2.2.2.2.2.2.1; simp; omega)
    unfold NextPostO at cput
    rw [List.nil_append, show gotL [] p1 = (feedS p1).l by rw [gotL, feed_nil]; simp] at cput
    obtain ⟨XL, hXL⟩ : ∃ x, x = (feedS p1).l := ⟨_, rfl⟩
    obtain ⟨xn, hxn⟩ : ∃ x, x = XL.length := ⟨_, rfl⟩
    rw [← hXL] at cput
    obtain ⟨G1, hg1⟩ : ∃ x, x = w.heap.size := ⟨_, rfl⟩
    obtain ⟨G2, hg2⟩ : ∃ x, x = w1.heap.size := ⟨_, rfl⟩
    rw [← hg2] at hG2 s1' s2 ⊢
    rw [← hg1] at hG1 cput s1 s1' ⊢
    have CP := Lib.hid cput
    have HAB := Lib.hid (And.intro hcut (And.intro hra (And.intro hrb (And.intro hca hcb))))
    have HG := Lib.hid (And.intro hG2 (And.intro (show G1 < G2 by omega) (And.intro (show G2 < W3.heap.size by omega) (And.intro hlow8 (And.intro hg1 (And.intro hXL hxn))))))
    clear hcut hra hrb hca hcb hG1 hG2 s1 s1' s2 s2' s3 s8 hlow8 cput hXL hxn hg1 hg2 H1 H2 H3
    go_upto_region 10 with (first
      | (go_at_call 21; go_must (refine (CP.out).mono ?_); rintro e w9 ⟨hfr9, u9, v9', K9, rfl, hk1, hk2, hrl9, hf9, hv9⟩; obtain ⟨A9, c9, rfl, hc9⟩ := hrl9.slice; rw [← HG.out.2.2.2.2.2.2] at hrl9 hc9 ⊢; have H9 := Lib.hid (And.intro hfr9 (And.intro hk1 (And.intro hk2 (And.intro hrl9 (And.intro hf9 (And.intro hv9 hc9)))))); clear hfr9 hk1 hk2 hrl9 hf9 hv9 hc9))
    have hao9 : 0 < k → w9.ownsRow W3.heap.size 5 1 (.slice Aa k ca) k (p1.map bv) := fun h0 => own_keep (HAB.out.1.ao h0) (fun X e hX => H9.out.1.block X hX (by have := ((HAB.out.1.ao h0).lt X e).1; have := HG.out.2.1; have := HG.out.2.2.1; omega) (fun e => by cases e))
    have hlow9 : Below w.heap.size w w9 := below_fr HG.out.2.2.2.1 H9.out.1 HG.out.2.2.2.1.size (by rw [HG.out.2.2.2.2.1]; exact Nat.le_refl _) (fun Y e => by cases e)
    obtain ⟨oa, hoa⟩ : ∃ o, o = (if 0 < k then (Value.slice Aa k ca).ownBlock else none) := ⟨_, rfl⟩
    have hoa1 : 0 < k → oa = (Value.slice Aa k ca).ownBlock := fun h0 => by rw [hoa, if_pos h0]
    have hoa2 : ∀ j, oa = some j → 0 < k ∧ W3.heap.size ≤ j ∧ j < wc.heap.size := fun j e => by
      by_cases h0 : 0 < k
      · rw [hoa, if_pos h0] at e
        exact ⟨h0, (HAB.out.1.ao h0).lt j e⟩
      · rw [hoa, if_neg h0] at e; cases e
    have HS9 := Lib.hid (And.intro hao9 (And.intro hlow9 (And.intro hoa1 hoa2)))
    clear hao9 hlow9 hoa hoa1 hoa2
    go_wp2
    go_loopw [11] (fun v11 wr => ∃ i : Nat, v11 = .int .i64 i ∧ i ≤ k ∧ w9.grownBy wr oa ∧ (0 < k → wr.ownsRow W3.heap.size 5 1 (.slice Aa k ca) k ((List.replicate i 122 ++ p1.drop i).map bv))) (fun v11 _ => k - (intOf v11).toNat)
    case atStart => exact ⟨0, rfl, Nat.zero_le _, World.grownBy.refl _ _, by rw [List.replicate_zero, List.nil_append, List.drop_zero]; exact HS9.out.1⟩
    case round =>
      obtain ⟨i, rfl, hik, hgr, how⟩ := hrel
      by_cases hlt : i < k
      -- B>
      · have ho := how (by omega)
        obtain ⟨ga, hga, _, _⟩ := Mem.own_addr ho (by omega)
        subst hga
        have hoa := HS9.out.2.2.1 (by omega)
        have hlowr : Below w.heap.size w wr := HS9.out.2.1.grown hgr HS9.out.2.1.size (fun j hj => by have := (HS9.out.2.2.2 j hj).2.1; have := HG.out.2.1; have := HG.out.2.2.1; have := HG.out.2.2.2.2.1; omega)
        have hip : i < p1.length := by rw [← HP.out.2.2.2.1]; exact hlt
        have hir : i < raw.length := by have := HP.out.2.2.2.2.2.2.1; have := HA.out.2.1; omega
        obtain ⟨yn, hyn⟩ : ∃ y, y = (p1[i]).toNat := ⟨_, rfl⟩
        have hcell1 : wr.cell? ⟨ga, i, none⟩ = some (.int .u8 (yn : Int)) := by
          rw [ho.cellAt i (by omega), List.getElem?_map, at_next 122 p1 hip, Option.map_some, hyn]
          try rfl
        obtain ⟨ad, hAd, hcell2⟩ := (HA.out.1.below hlowr) i hir
        have hyr : bv raw[i] = .int .u8 (yn : Int) := by
          have h9 : raw[i]? = some p1[i] := by
            rw [← HP.out.2.2.2.2.2.1, List.getElem?_append_left hip, List.getElem?_eq_getElem hip]
          rw [List.getElem?_eq_getElem hir] at h9
          injection h9 with h9
          rw [h9, hyn]; try rfl
        rw [hyr] at hcell2
        subst hAd
        have hi0 : (0 : Int) ≤ (i : Int) := by omega
        have hik2 : (i : Int) < (k : Int) := by omega
        have hin2 : (i : Int) < (n : Int) := by have := HP.out.2.2.2.2.2.2.1; omega
        have HO := Lib.hid (And.intro ho (And.intro hgr (And.intro hip (And.intro hlowr hoa))))
        clear hoa ho how hgr hlowr hir hyn hyr hip
        go_upto_region 13 with fail
        try simp only [Act.put, List.setIfInBounds_toArray, List.set_cons_succ, List.set_cons_zero]
        refine wp_region_qb (by kernel_rfl) (by kernel_rfl) ?_
        go_big_quiet_step (fail)
        go_big_quiet_step (fail)
        refine wq_val (o := ⟨some 82, _, _, _, _, _⟩) (v := .pointer (some ⟨ga, i, none⟩)) rfl (fun w' hC => by go_simp) ?_
        simp only [Act.put, List.setIfInBounds_toArray, List.set_cons_succ, List.set_cons_zero]
        refine wq_val (o := ⟨some 83, _, _, _, _, _⟩) (v := .int .u8 (yn : Int)) rfl (fun w' hC => by have := cell_grow hcell1 hC; go_simp) ?_
        simp only [Act.put, List.setIfInBounds_toArray, List.set_cons_succ, List.set_cons_zero]
        go_big_quiet_step (fail)
        go_big_quiet_step (fail)
        refine wq_val (o := ⟨some 86, _, _, _, _, _⟩) (v := .pointer (some (ad.add i))) rfl (fun w' hC => by go_simp) ?_
        simp only [Act.put, List.setIfInBounds_toArray, List.set_cons_succ, List.set_cons_zero]
        refine wq_val (o := ⟨some 87, _, _, _, _, _⟩) (v := .int .u8 (yn : Int)) rfl (fun w' hC => by have := cell_grow hcell2 hC; go_simp) ?_
        simp only [Act.put, List.setIfInBounds_toArray, List.set_cons_succ, List.set_cons_zero]
        refine wq_val (o := ⟨some 88, _, _, _, _, _⟩) (v := .bool false) rfl (fun w' hC => by go_simp) ?_
        simp only [Act.put, List.setIfInBounds_toArray, List.set_cons_succ, List.set_cons_zero]
        refine wpQuiet_nil ?_
        intro w13 h13
        have hcell3 := cell_grow hcell1 h13
        have ho13 := own_below' HO.out.1 h13
        have hfz := ho13.frozenAt i
        have HQ := Lib.hid (And.intro h13 ho13)
        clear h13 ho13 hcell1 hcell2
        go_wp2
        have hst := (HQ.out.2.stored i (bv 122)).1
        refine ⟨⟨i + 1, by rw [Int.natCast_add]; rfl, by omega, HO.out.2.1.trans (by rw [HO.out.2.2.2.2]; exact (grown_of HQ.out.1).trans (grownBy_set w13 ga i _)), fun _ => ?_⟩, by simp only [intOf]; omega⟩
        rw [← List.map_set, set_next 122 p1 HO.out.2.2.1] at hst
        exact hst
      -- <B
      · have b1 : decide ((i : Int) < (k : Int)) = false := by rw [decide_eq_false_iff_not]; omega
        have hlowr : Below w.heap.size w wr := HS9.out.2.1.grown hgr HS9.out.2.1.size (fun j hj => by have := (HS9.out.2.2.2 j hj).2.1; have := HG.out.2.1; have := HG.out.2.2.1; have := HG.out.2.2.2.2.1; omega)
        go_upto_region 16 with fail
        have hK := (H9.out.2.2.2.1).kx
        rw [← HG.out.2.2.2.2.2.2] at hK
        obtain ⟨xs, vh, vb, hK9⟩ := hK
        have hoa2 := HS9.out.2.2.2
        have hKr := hK9.keep (W' := wr) (fun q hq1 hq2 => hgr.block q (by have := H9.out.2.2.1; omega) (fun e => by have := (hoa2 q e.symm).2.2; omega))
        have hfd : FeedAt wr G1 (G1 + 1) v9' (feedS p1).rest (feedS p1).done (feedS p1).e := by
          refine (H9.out.2.2.2.2.1).kept hgr (fun e => ?_) (fun Y e e2 => ?_)
          · have := (hoa2 G1 e.symm).2.1; have := HG.out.2.1; have := HG.out.2.2.1; omega
          · have h9 := (hoa2 Y e2.symm).2.2
            rcases H9.out.2.2.2.2.2.1 with rfl | h
            · cases e
            · have := h Y e; have := H9.out.2.1; omega
        have hb9 : 0 < m → wr.ownsRow W3.heap.size 5 1 (.slice Ab m cb) m (p2.map bv) := fun h0 => own_keep (own_keep (HAB.out.1.bo h0) (fun X e hX => H9.out.1.block X hX (by have := ((HAB.out.1.bo h0).lt X e).1; have := HG.out.2.1; have := HG.out.2.2.1; omega) (fun e => by cases e))) (fun X e hX => hgr.block X hX (fun e2 => by
          have h9 := (hoa2 X e2.symm).1
          exact HAB.out.1.far h9 h0 X ((HS9.out.2.2.1 h9) ▸ e2.symm) e))
        have hG2r : Blk wr G2 78 [.slice none 0 0, .bool false, .int .i64 0] := by
          have e1 : w9.heap[G2]? = wc.heap[G2]? := H9.out.1.block G2 HG.out.1.lt (by have := HG.out.2.1; omega) (fun e => by cases e)
          have e2 : wr.heap[G2]? = w9.heap[G2]? := hgr.block G2 (by have := HG.out.1.lt; have := H9.out.1.size; omega) (fun e => by have := (hoa2 G2 e.symm).2.1; have := HG.out.2.2.1; omega)
          exact e2.trans (e1.trans HG.out.1)
        obtain ⟨nh, hnh⟩ : ∃ f, f = (fun (i : Nat) => (XL[i]?.map fun (r : Req) => r.headers.length).getD 0) := ⟨_, rfl⟩
        obtain ⟨nb, hnb⟩ : ∃ f, f = (fun (i : Nat) => (XL[i]?.map fun (r : Req) => r.body.length).getD 0) := ⟨_, rfl⟩
        rw [← hnh, ← hnb] at hKr
        obtain ⟨hx0, hhx0⟩ : ∃ f, f = (fun (i : Nat) => (XL[i]?.map fun (r : Req) => hdrV r.headers).getD []) := ⟨_, rfl⟩
        obtain ⟨bx0, hbx0⟩ : ∃ f, f = (fun (i : Nat) => (XL[i]?.map fun (r : Req) => r.body).getD []) := ⟨_, rfl⟩
        rw [← hhx0, ← hbx0] at hKr
        have hlens : ∀ i, nh i ≤ 65536 ∧ nb i ≤ 65536 := fun i => by
          have hl := feed_lens p1.length p1 (Nat.le_refl _)
          rw [← HG.out.2.2.2.2.2.1] at hl
          rw [hnh, hnb]
          simp only
          cases hq : XL[i]? with
          | none => simp
          | some r => simpa using hl r (List.mem_of_getElem? hq)
        have hxn : xn ≤ 262144 := by
          have hl := feed_len p1.length p1 (Nat.le_refl _)
          rw [← HG.out.2.2.2.2.2.1, ← HG.out.2.2.2.2.2.2] at hl
          have := HN.out; have := HP.out.2.2.2.1; have := HP.out.2.2.2.2.2.2.1; omega
        obtain ⟨wa, hwa⟩ : ∃ x, x = wr := ⟨_, rfl⟩
        have HM := Lib.hid (And.intro hfd (And.intro hb9 (And.intro hG2r (And.intro hlowr (And.intro hlens hxn)))))
        have hsz : w9.heap.size ≤ wr.heap.size := hgr.size
        have HZ := Lib.hid hsz
        have HK0 := Lib.hid hKr
        rw [hwa.symm] at HM HZ HK0 ⊢
        clear hK9 hoa2 hKr hfd hb9 hG2r hnh hnb hhx0 hbx0 hlens hlowr hgr how hsz hwa b1 hlt hik
        obtain ⟨lo, hlo⟩ : ∃ x, x = wc.heap.size := ⟨_, rfl⟩
        rw [← hlo] at HK0
        have HLO := Lib.hid hlo
        have hxni : (xn : Int) ≤ 262144 := by have := HM.out.2.2.2.2.2; omega
        clear hlo
        go_wp2
        go_loopw [12] (fun v12 wr => ∃ (i : Nat) (hx : Nat → List Value) (bx : Nat → List UInt8), v12 = .int .i64 i ∧ i ≤ xn ∧ KX wr xn lo K9 (.slice A9 xn c9) xs vh vb nh nb hx bx ∧ GrownS wa wr (fun q => lo ≤ q ∧ q < K9) ∧ (∀ j, j < i → bx j = List.replicate (nb j) (UInt8.ofNat j))) (fun v12 _ => xn - (intOf v12).toNat)
        case atStart => exact ⟨0, hx0, bx0, rfl, Nat.zero_le _, HK0.out, GrownS.refl _ _, fun j h => absurd h (by omega)⟩
        case round =>
          clear HK0
          obtain ⟨i, hx, bx, rfl, hix, hkx, hgs, hfil⟩ := hrel
          by_cases hlt : i < xn
          -- C>
          · obtain ⟨g9, hg9, _, _⟩ := Mem.own_addr hkx.x (by omega)
            subst hg9
            obtain ⟨A2, c2, hvb, hc2⟩ := own_slice (hkx.b i hlt)
            obtain ⟨A3, c3, hvh, hc3⟩ := own_slice (hkx.h i hlt)
            obtain ⟨nbi, hnbi⟩ : ∃ x, x = nb i := ⟨_, rfl⟩
            obtain ⟨nhi, hnhi⟩ : ∃ x, x = nh i := ⟨_, rfl⟩
            rw [← hnbi] at hvb hc2
            rw [← hnhi] at hvh hc3
            have hcellb : ∀ W hx' bx', KX W xn lo K9 (.slice (some ⟨g9, 0, none⟩) xn c9) xs vh vb nh nb hx' bx' → W.cell? ⟨g9, i * 5 + 3, none⟩ = some (.slice A2 nbi c2) := fun W hx' bx' h => by
              rw [h.x.cellAt (i * 5 + 3) (by omega), (h.cell i hlt).2, hvb]
            have hcellh : ∀ W hx' bx', KX W xn lo K9 (.slice (some ⟨g9, 0, none⟩) xn c9) xs vh vb nh nb hx' bx' → W.cell? ⟨g9, i * 5 + 2, none⟩ = some (.slice A3 nhi c3) := fun W hx' bx' h => by
              rw [h.x.cellAt (i * 5 + 2) (by omega), (h.cell i hlt).1, hvh]
            obtain ⟨yn, hyn⟩ : ∃ y, y = (UInt8.ofNat i).toNat := ⟨_, rfl⟩
            have hy1 : (i : Int) % 256 = (yn : Int) := by rw [hyn, UInt8.toNat_ofNat']; omega
            have hy2 : IntKind.u8.wrap (i : Int) = (yn : Int) := by rw [hyn, UInt8.toNat_ofNat']; simp [IntKind.wrap, IntKind.bits, IntKind.signed]
            have hnb65 : (nbi : Int) ≤ 65536 := by have := (HM.out.2.2.2.2.1 i).2; omega
            have hnh65 : (nhi : Int) ≤ 65536 := by have := (HM.out.2.2.2.2.1 i).1; omega
            have hi0 : (0 : Int) ≤ (i : Int) := by omega
            have hlt' : (i : Int) < (xn : Int) := by omega
            have HC := Lib.hid (And.intro hcellb (And.intro hcellh (And.intro hvb (And.intro hvh (And.intro hnbi (And.intro hnhi (And.intro hyn (And.intro (hkx.blen hlt) hfil))))))))
            have HKX := Lib.hid (And.intro hkx hgs)
            clear hcellb hcellh hvb hvh hnbi hnhi hyn hkx hgs hfil hc2 hc3
            go_wp2
            go_loopw [13] (fun v13 w2 => ∃ j : Nat, v13 = .int .i64 j ∧ j ≤ nbi ∧ KX w2 xn lo K9 (.slice (some ⟨g9, 0, none⟩) xn c9) xs vh vb nh nb hx (fupd bx i (List.replicate j (UInt8.ofNat i) ++ (bx i).drop j)) ∧ GrownS wa w2 (fun q => lo ≤ q ∧ q < K9)) (fun v13 _ => nbi - (intOf v13).toNat)
            case atStart => exact ⟨0, rfl, Nat.zero_le _, by rw [List.replicate_zero, List.nil_append, List.drop_zero, fupd_self]; exact HKX.out.1, HKX.out.2⟩
            case round =>
              obtain ⟨j, rfl, hjb, hkx, hgs⟩ := hrel
              have hcb := HC.out.1 _ _ _ hkx
              by_cases hjl : j < nbi
              · have hob := hkx.b i hlt
                rw [HC.out.2.2.1, ← HC.out.2.2.2.2.1] at hob
                obtain ⟨g2, hg2, _, _⟩ := Mem.own_addr hob (by omega)
                subst hg2
                have hce : ∃ u, wr.cell? ⟨g2, j, none⟩ = some u := own_has hob (by omega)
                obtain ⟨u, hce⟩ := hce
                have hfz := hob.frozenAt j
                have hj0 : (0 : Int) ≤ (j : Int) := by omega
                have hjl' : (j : Int) < (nbi : Int) := by omega
                have HKJ := Lib.hid (And.intro hkx (And.intro hgs hob))
                clear hkx hgs hob
                go_wp2
                have hset := HKJ.out.1.fill hlt (HC.out.2.2.1.trans (by rw [HC.out.2.2.2.2.1])) (by rw [HC.out.2.2.2.2.2.2.2.1, ← HC.out.2.2.2.2.1]; exact hjl)
                have hgs2 := HKJ.out.2.1.step (grownBy_set wr g2 j (bv (UInt8.ofNat i))) (fun q e => by injection e with e; exact .inl ⟨by have := (HKJ.out.2.2.lt g2 rfl).1; omega, by have := HKJ.out.1.blt i hlt g2 (by rw [HC.out.2.2.1]; rfl); omega⟩)
                have hbv : bv (UInt8.ofNat i) = .int .u8 (yn : Int) := by rw [HC.out.2.2.2.2.2.2.1]; try rfl
                rw [hbv] at hset hgs2
                exact ⟨⟨j + 1, by rw [Int.natCast_add]; rfl, by omega, hset, hgs2⟩, by simp only [intOf]; omega⟩
              · have bj : decide ((j : Int) < (nbi : Int)) = false := by rw [decide_eq_false_iff_not]; omega
                have hje : j = nbi := by omega
                rw [hje] at hkx
                obtain ⟨bx2, hbx2⟩ : ∃ f, f = fupd bx i (List.replicate nbi (UInt8.ofNat i) ++ (bx i).drop nbi) := ⟨_, rfl⟩
                rw [← hbx2] at hkx
                have hfil2 : ∀ q, q < i + 1 → bx2 q = List.replicate (nb q) (UInt8.ofNat q) := fun q hq => by
                  rw [hbx2]
                  by_cases e : q = i
                  · subst e
                    rw [fupd_same, List.drop_of_length_le (by rw [HC.out.2.2.2.2.2.2.2.1, ← HC.out.2.2.2.2.1]; exact Nat.le_refl _), List.append_nil, ← HC.out.2.2.2.2.1]
                  · rw [fupd_ne _ _ e]
                    exact HC.out.2.2.2.2.2.2.2.2 q (by omega)
                have HK2 := Lib.hid (And.intro hkx hgs)
                have HF2 := Lib.hid hfil2
                clear hkx hgs hbx2 hfil2 hje hjb
                go_wp2
                go_loopw [14] (fun v14 w2 => ∃ (j : Nat) (hx2 : Nat → List Value), v14 = .int .i64 j ∧ j ≤ nhi ∧ KX w2 xn lo K9 (.slice (some ⟨g9, 0, none⟩) xn c9) xs vh vb nh nb hx2 bx2 ∧ GrownS wa w2 (fun q => lo ≤ q ∧ q < K9)) (fun v14 _ => nhi - (intOf v14).toNat)
                case atStart => exact ⟨0, hx, rfl, Nat.zero_le _, HK2.out.1, HK2.out.2⟩
                case round =>
                  clear HK2
                  obtain ⟨t, hx2, rfl, hth, hkx, hgs⟩ := hrel
                  have hch := HC.out.2.1 _ _ _ hkx
                  by_cases htl : t < nhi
                  · have hoh := hkx.h i hlt
                    rw [HC.out.2.2.2.1, ← HC.out.2.2.2.2.2.1] at hoh
                    obtain ⟨g3, hg3, _, _⟩ := Mem.own_addr hoh (by omega)
                    subst hg3
                    obtain ⟨cs, hblk, hcsl, hlo3, hnc3, hcm3⟩ := own_blk hoh
                    have ht0 : (0 : Int) ≤ (t : Int) := by omega
                    have htl' : (t : Int) < (nhi : Int) := by omega
                    have HKT := Lib.hid (And.intro hkx (And.intro hgs (And.intro hblk (And.intro hcsl (And.intro hlo3 (And.intro hnc3 hcm3))))))
                    clear hkx hgs hoh hblk hcsl hlo3 hnc3 hcm3
                    go_wp2_with (first
                      | ((with_reducible show wpList _ _ _ (⟨none, .store _ (.tmp 134) _, _, _, _, _⟩ :: _) _ _); go_must (refine wpList_storeB AH rfl (.tmp 134) (.tmp 133) rfl g3 (t * 2) rfl [.string ⟨#[109, 97, 114, 107, 101, 100]⟩, .string ⟨#[]⟩] rfl rfl _ _ HKT.out.2.2.1 (by have := HKT.out.2.2.2.1; have := HKT.out.2.2.2.2.2.1; simp; omega) (by simp [Value.oneCell']) ?_); intro w4 hBy hgy hzy; have H4 := Lib.hid (And.intro hBy hgy); clear hBy hgy hzy))
                    have hown4 := blk_own (n := nhi) H4.out.1 (by rw [splice_len _ _ _ (by have := HKT.out.2.2.2.1; have := HKT.out.2.2.2.2.2.1; simp; omega)]; exact HKT.out.2.2.2.1) HKT.out.2.2.2.2.1 HKT.out.2.2.2.2.2.1 HKT.out.2.2.2.2.2.2
                    rw [← HC.out.2.2.2.1, HC.out.2.2.2.2.2.1] at hown4
                    have hk4 := HKT.out.1.hdr (i := i) (g := g3) hlt (by rw [HC.out.2.2.2.1]; rfl) H4.out.2 hown4
                    have hgs4 := HKT.out.2.1.step H4.out.2 (fun q e => by injection e with e; exact .inl ⟨by have := HKT.out.2.2.2.2.1; omega, by have := HKT.out.1.hlt i hlt g3 (by rw [HC.out.2.2.2.1]; rfl); omega⟩)
                    exact ⟨⟨t + 1, _, by rw [Int.natCast_add]; rfl, by omega, hk4, hgs4⟩, by simp only [intOf]; omega⟩
                  · have bt : decide ((t : Int) < (nhi : Int)) = false := by rw [decide_eq_false_iff_not]; omega
                    have HK3 := Lib.hid (And.intro hkx hgs)
                    clear hkx hgs
                    go_wp2
                    exact ⟨⟨i + 1, hx2, bx2, by rw [Int.natCast_add]; rfl, by omega, HK3.out.1, HK3.out.2, HF2.out⟩, by simp only [intOf]; omega⟩
          -- <C
          · have b1 : decide ((i : Int) < (xn : Int)) = false := by rw [decide_eq_false_iff_not]; omega
            have hie : i = xn := by omega
            rw [hie] at hfil
            have HK5 := Lib.hid (And.intro hkx hgs)
            have HFI := Lib.hid hfil
            clear hkx hgs hfil hix hie
            go_upto_region 27 with fail
            go_wp2
            clear hlt b1
            go_loopw [15] (fun v15 wr => ∃ r : Nat, v15 = .int .i64 r ∧ r ≤ 2 ∧ KX wr xn lo K9 (.slice A9 xn c9) xs vh vb nh nb hx bx ∧ GrownS wa wr (fun q => lo ≤ q ∧ q < K9)) (fun v15 _ => 2 - (intOf v15).toNat)
            case atStart => exact ⟨0, rfl, by omega, HK5.out.1, HK5.out.2⟩
            case round =>
              clear HK5
              obtain ⟨r, rfl, hr2, hkx, hgs⟩ := hrel
              by_cases hrl : r < 2
              -- D>
              · have br : decide ((r : Int) < 2) = true := by rw [decide_eq_true_eq]; omega
                have hr2i : (r : Int) < 2 := by omega
                have HK6 := Lib.hid (And.intro hkx hgs)
                clear hkx hgs
                go_wp2
                go_loopw [16] (fun v16 w2 => ∃ i : Nat, v16 = .int .i64 i ∧ i ≤ xn ∧ KX w2 xn lo K9 (.slice A9 xn c9) xs vh vb nh nb hx bx ∧ GrownS wa w2 (fun q => lo ≤ q ∧ q < K9)) (fun v16 _ => xn - (intOf v16).toNat)
                case atStart => exact ⟨0, rfl, Nat.zero_le _, HK6.out.1, HK6.out.2⟩
                case round =>
                  clear HK6
                  obtain ⟨i2, rfl, hi2, hkx, hgs⟩ := hrel
                  by_cases hlt : i2 < xn
                  · obtain ⟨g9, hg9, _, _⟩ := Mem.own_addr hkx.x (by omega)
                    subst hg9
                    obtain ⟨A2, c2, hvb, hc2⟩ := own_slice (hkx.b i2 hlt)
                    obtain ⟨nbi, hnbi⟩ : ∃ x, x = nb i2 := ⟨_, rfl⟩
                    rw [← hnbi] at hvb hc2
                    have hcb : wr.cell? ⟨g9, i2 * 5 + 3, none⟩ = some (.slice A2 nbi c2) := by
                      rw [hkx.x.cellAt (i2 * 5 + 3) (by omega), (hkx.cell i2 hlt).2, hvb]
                    obtain ⟨yn, hyn⟩ : ∃ y, y = (UInt8.ofNat i2).toNat := ⟨_, rfl⟩
                    have hy1 : (i2 : Int) % 256 = (yn : Int) := by rw [hyn, UInt8.toNat_ofNat']; omega
                    have hy2 : IntKind.u8.wrap (i2 : Int) = (yn : Int) := by rw [hyn, UInt8.toNat_ofNat']; simp [IntKind.wrap, IntKind.bits, IntKind.signed]
                    have hnb65 : (nbi : Int) ≤ 65536 := by have := (HM.out.2.2.2.2.1 i2).2; omega
                    have hi0 : (0 : Int) ≤ (i2 : Int) := by omega
                    have hlt' : (i2 : Int) < (xn : Int) := by omega
                    have HC := Lib.hid (And.intro hvb (And.intro hnbi (And.intro hyn (And.intro (HFI.out i2 hlt) hc2))))
                    have HK7 := Lib.hid (And.intro hkx hgs)
                    clear hvb hnbi hyn hkx hgs hc2
                    go_wp2
                    go_loopw [18] (fun v18 w2 => ∃ j : Nat, v18 = .int .i64 j ∧ j ≤ nbi ∧ KX w2 xn lo K9 (.slice (some ⟨g9, 0, none⟩) xn c9) xs vh vb nh nb hx bx ∧ GrownS wa w2 (fun q => lo ≤ q ∧ q < K9)) (fun v18 _ => nbi - (intOf v18).toNat)
                    case atStart => exact ⟨0, rfl, Nat.zero_le _, HK7.out.1, HK7.out.2⟩
                    case round =>
                      clear HK7 hcb
                      obtain ⟨j, rfl, hjb, hkx, hgs⟩ := hrel
                      by_cases hjl : j < nbi
                      · have hob := hkx.b i2 hlt
                        rw [HC.out.1, ← HC.out.2.1] at hob
                        obtain ⟨g2, hg2, _, _⟩ := Mem.own_addr hob (by omega)
                        subst hg2
                        have hce : wr.cell? ⟨g2, j, none⟩ = some (.int .u8 (yn : Int)) := by
                          rw [hob.cellAt j (by omega), HC.out.2.2.2.1, List.getElem?_map, List.getElem?_replicate, if_pos (by rw [← HC.out.2.1]; exact hjl), Option.map_some, HC.out.2.2.1]
                          try rfl
                        have hj0 : (0 : Int) ≤ (j : Int) := by omega
                        have hjl' : (j : Int) < (nbi : Int) := by omega
                        have HKJ := Lib.hid (And.intro hkx hgs)
                        clear hkx hgs hob
                        go_wp2
                        exact ⟨⟨j + 1, by rw [Int.natCast_add]; rfl, by omega, HKJ.out.1, HKJ.out.2⟩, by simp only [intOf]; omega⟩
                      · have bj : decide ((j : Int) < (nbi : Int)) = false := by rw [decide_eq_false_iff_not]; omega
                        have HK8 := Lib.hid (And.intro hkx hgs)
                        have hob8 := hkx.b i2 hlt
                        rw [HC.out.1, ← HC.out.2.1] at hob8
                        have HO8 := Lib.hid hob8
                        clear hkx hgs hob8
                        go_wp2
                        go_loopw [17, 19] (fun v17 v19 w2 => ∃ t : Nat, v19 = .int .i64 t ∧ t ≤ 80 ∧ w2.ownsRow lo 5 1 v17 (nbi + t) ((bx i2).map bv ++ List.replicate t (bv 113)) ∧ (v17.ownBlock = (vb i2).ownBlock ∨ ∀ g, v17.ownBlock = some g → wa.heap.size ≤ g) ∧ KX w2 xn lo K9 (.slice (some ⟨g9, 0, none⟩) xn c9) xs vh vb nh nb hx bx ∧ GrownS wa w2 (fun q => lo ≤ q ∧ q < K9)) (fun _ v19 _ => 80 - (intOf v19).toNat)
                        case atStart => exact ⟨0, rfl, by omega, by rw [Nat.add_zero, List.replicate_zero, List.append_nil]; exact HO8.out, .inl (by rw [HC.out.1]), HK8.out.1, HK8.out.2⟩
                        case round =>
                          clear HK8 HO8 bj
                          obtain ⟨t, rfl, ht80, hown, hov, hkx, hgs⟩ := hrel
                          by_cases htl : t < 80
                          · have bt : decide ((t : Int) < 80) = true := by rw [decide_eq_true_eq]; omega
                            have ht80i : (t : Int) < 80 := by omega
                            have HKT := Lib.hid (And.intro hown (And.intro hov (And.intro hkx hgs)))
                            clear hown hov hkx hgs
                            go_wp2_with (first
                              | ((with_reducible show wpList _ _ _ (⟨some 168, _, _, _, _, _⟩ :: _) _ _); go_must (refine wpList_build1 EB rfl (.const (.int .u8 113)) rfl (by decide) [.int .u8 113] rfl rfl wr.heap.size rfl ?_); intro w4 hB4 hb4 hz4; have H4 := Lib.hid (And.intro hB4 hb4); clear hB4 hb4 hz4)
                              | ((with_reducible show wpList _ _ _ (⟨some 169, _, _, _, _, _⟩ :: _) _ _); go_must (refine wpList_app2 EB rfl (.tmp 167) (.tmp 168) rfl lo _ (nbi + t) _ rfl (own_below' HKT.out.1 H4.out.2) (some ⟨wr.heap.size, 0, none⟩) 1 1 [.int .u8 113] rfl H4.out.1.rv rfl (by intro u hu; simp at hu; rw [hu]; rfl) (by unfold maxLen; omega) (by omega) (by have := HKT.out.2.2.2.size; have := HZ.out; have := H9.out.2.1; have := H9.out.2.2.1; have := HLO.out; have := H4.out.2.size; omega) ?_); intro v17 w5 ho5 hg5 hv5 hk5; have H5 := Lib.hid (And.intro ho5 (And.intro hg5 (And.intro hv5 hk5))); clear ho5 hg5 hv5 hk5))
                            have z1 := HKT.out.2.2.2.size
                            have z2 := HZ.out
                            have z3 := H9.out.2.2.1
                            have z4 := H4.out.2.size
                            have hk4 := HKT.out.2.2.1.keep (W' := w4) (fun q _ hq => H4.out.2.block q (by omega))
                            have hgs4 := HKT.out.2.2.2.below H4.out.2
                            have hk5 := hk4.app (i := i2) hlt H5.out.2.1 H5.out.2.2.2 (by rw [← HC.out.2.1]; omega) (by
                              rcases HKT.out.2.1 with h | h
                              · exact .inl h
                              · exact .inr (fun g e => by have := h g e; omega))
                            have hgs5 := hgs4.step H5.out.2.1 (fun q e => by
                              rcases HKT.out.2.1 with h | h
                              · exact .inl ⟨((hk4.b i2 hlt).lt q (h ▸ e)).1, hk4.blt i2 hlt q (h ▸ e)⟩
                              · exact .inr (h q e))
                            refine ⟨⟨t + 1, by rw [Int.natCast_add]; rfl, by omega, ?_, ?_, hk5, hgs5⟩, by simp only [intOf]; omega⟩
                            · have := H5.out.1
                              rw [List.append_assoc, show [Value.int IntKind.u8 113] = [bv 113] from rfl, ← List.replicate_succ'] at this
                              exact this
                            · rcases H5.out.2.2.1 with h | h
                              · rw [h]; exact HKT.out.2.1
                              · refine .inr (fun g e => ?_)
                                rw [h] at e; injection e with e; omega
                          · have bt : decide ((t : Int) < 80) = false := by rw [decide_eq_false_iff_not]; omega
                            have HKE := Lib.hid (And.intro hkx hgs)
                            clear hkx hgs hown hov
                            go_wp2
                            exact ⟨⟨i2 + 1, by rw [Int.natCast_add]; rfl, by omega, HKE.out.1, HKE.out.2⟩, by simp only [intOf]; omega⟩
                  · have b1 : decide ((i2 : Int) < (xn : Int)) = false := by rw [decide_eq_false_iff_not]; omega
                    have HKE := Lib.hid (And.intro hkx hgs)
                    clear hkx hgs
                    go_wp2
                    exact ⟨⟨r + 1, by rw [Int.natCast_add]; rfl, by omega, HKE.out.1, HKE.out.2⟩, by simp only [intOf]; omega⟩
              -- <D
              · have br : decide ((r : Int) < 2) = false := by rw [decide_eq_false_iff_not]; omega
                go_upto_region 43 with fail
                clear br hrl hr2
                have z1 := hgs.size
                have z2 := HZ.out
                have z3 := H9.out.2.2.1
                have z4 := H9.out.2.1
                have z5 := HLO.out
                have zG := HG.out.2.1
                have zG2 := HG.out.2.2.1
                have z8 := HAB.out.1.low.size
                have hfd : FeedAt wr G1 (G1 + 1) v9' (feedS p1).rest (feedS p1).done (feedS p1).e :=
                  ⟨hgs.blk HM.out.1.blk (by omega), hgs.own HM.out.1.own (fun q e => by
                    rcases H9.out.2.2.2.2.2.1 with rfl | h
                    · cases e
                    · have := h q e; omega), HM.out.1.gb⟩
                have hbo : 0 < m → wr.ownsRow W3.heap.size 5 1 (.slice Ab m cb) m (p2.map bv) := fun h0 => hgs.own (HM.out.2.1 h0) (fun q e => by have := ((HAB.out.1.bo h0).lt q e).2; omega)
                have hrb2 : RB wr Ab p2 := by
                  rcases Nat.eq_zero_or_pos m with h0 | h0
                  · have : p2 = [] := List.length_eq_zero_iff.1 (by rw [← HP.out.2.2.2.2.1]; exact h0)
                    rw [this]; exact RB.nil _ _
                  · exact (own_rv (hbo h0)).rb
                have hG2r := hgs.blk HM.out.2.2.1 (by omega)
                have hlowr : Below w.heap.size w wr := hgs.low HM.out.2.2.2.1 HM.out.2.2.2.1.size (fun q hq => by have := HG.out.2.2.2.2.1; omega)
                have cput := put_nextO hfd Ab m cb p2 hrb2 HP.out.2.2.2.2.1 (by omega) (by have := HN.out; have := HP.out.2.2.2.1; have := HP.out.2.2.2.2.1; have := HP.out.2.2.1; have := HP.out.2.2.2.2.2.2.1; omega)
                unfold NextPostO at cput
                rw [HP.out.2.2.2.2.2.1] at cput
                have hgot := got_more p1 p2
                rw [HP.out.2.2.2.2.2.1, ← HG.out.2.2.2.2.2.1] at hgot
                obtain ⟨YL, hYL⟩ : ∃ x, x = gotL p1 p2 := ⟨_, rfl⟩
                obtain ⟨yn, hyn⟩ : ∃ x, x = YL.length := ⟨_, rfl⟩
                obtain ⟨fe, hfe⟩ : ∃ x, x = (feedS raw).e := ⟨_, rfl⟩
                rw [← hYL, ← hfe] at cput
                rw [← hYL] at hgot
                have hbox : ∀ j, (Value.slice Ab m cb).ownBlock = some j → 0 < m → j < lo ∧ w.heap.size ≤ j ∧ j ≠ G1 ∧ j ≠ G2 := fun j e h0 => by have := ((HAB.out.1.bo h0).lt j e); have := HG.out.2.2.2.2.1; omega
                have CP2 := Lib.hid cput
                have HB := Lib.hid (And.intro hbo (And.intro hG2r (And.intro hlowr (And.intro hgot (And.intro hyn (And.intro hfe (And.intro hbox (show K9 ≤ wr.heap.size ∧ lo ≤ K9 ∧ G1 < lo ∧ G2 < lo from ⟨by omega, by omega, by omega, by omega⟩))))))))
                clear z1 z2 z3 z4 z5 zG zG2 z8 hfd hbo hrb2 hG2r hlowr cput hgot hYL hyn hfe hbox hkx hgs HFI
                go_upto_region 44 with (first
                  | (go_at_call 21; go_must (refine (CP2.out).mono ?_); rintro e w10 ⟨hfr, u10, v10', K10, rfl, hk1, hk2, hrl, hf, hv⟩; obtain ⟨A10, c10, rfl, hc10⟩ := hrl.slice; rw [← HB.out.2.2.2.2.1] at hrl hc10 ⊢; have H10 := Lib.hid (And.intro hfr (And.intro hk1 (And.intro hk2 (And.intro hrl (And.intro hf (And.intro hv hc10)))))); clear hfr hk1 hk2 hrl hf hv hc10))
                have hbo10 : 0 < m → w10.ownsRow W3.heap.size 5 1 (.slice Ab m cb) m (p2.map bv) := fun h0 => own_keep (HB.out.1 h0) (fun X e hX => H10.out.1.block X hX (HB.out.2.2.2.2.2.2.1 X e h0).2.2.1 (fun e2 => by
                  have h1 := HB.out.2.2.2.2.2.2.1 X e h0
                  rcases H9.out.2.2.2.2.2.1 with rfl | h
                  · cases e2
                  · have := h X e2.symm; have := HB.out.2.2.2.2.2.2.2; omega))
                obtain ⟨ob, hob⟩ : ∃ o, o = (if 0 < m then (Value.slice Ab m cb).ownBlock else none) := ⟨_, rfl⟩
                have hob1 : 0 < m → ob = (Value.slice Ab m cb).ownBlock := fun h0 => by rw [hob, if_pos h0]
                have hob2 : ∀ j, ob = some j → 0 < m ∧ j < lo ∧ w.heap.size ≤ j ∧ j ≠ G1 ∧ j ≠ G2 := fun j e => by
                  by_cases h0 : 0 < m
                  · rw [hob, if_pos h0] at e
                    exact ⟨h0, HB.out.2.2.2.2.2.2.1 j e h0⟩
                  · rw [hob, if_neg h0] at e; cases e
                have HO10 := Lib.hid (And.intro hbo10 (And.intro hob1 hob2))
                have hmi : (m : Int) ≤ 262144 := by have := HP.out.2.2.1; have := HN.out; omega
                clear hbo10 hob hob1 hob2
                go_wp2
                go_loopw [22] (fun v22 w2 => ∃ i : Nat, v22 = .int .i64 i ∧ i ≤ m ∧ w10.grownBy w2 ob ∧ (0 < m → w2.ownsRow W3.heap.size 5 1 (.slice Ab m cb) m ((List.replicate i 119 ++ p2.drop i).map bv))) (fun v22 _ => m - (intOf v22).toNat)
                case atStart => exact ⟨0, rfl, Nat.zero_le _, World.grownBy.refl _ _, by rw [List.replicate_zero, List.nil_append, List.drop_zero]; exact HO10.out.1⟩
                case round =>
                  obtain ⟨i3, rfl, hi3, hgr, how⟩ := hrel
                  by_cases hlt : i3 < m
                  -- E>
                  · have ho := how (by omega)
                    obtain ⟨gb, hgb, _, _⟩ := Mem.own_addr ho (by omega)
                    subst hgb
                    have hob := HO10.out.2.1 (by omega)
                    have hce : ∃ u, wr.cell? ⟨gb, i3, none⟩ = some u := own_has ho (by omega)
                    obtain ⟨u, hce⟩ := hce
                    have hfz := ho.frozenAt i3
                    have hi0 : (0 : Int) ≤ (i3 : Int) := by omega
                    have hlt' : (i3 : Int) < (m : Int) := by omega
                    have HQ := Lib.hid (And.intro ho (And.intro hgr hob))
                    clear ho how hgr hob
                    go_wp2
                    have hst := (HQ.out.1.stored i3 (bv 119)).1
                    rw [← List.map_set, set_next 119 p2 (by rw [← HP.out.2.2.2.2.1]; exact hlt)] at hst
                    exact ⟨⟨i3 + 1, by rw [Int.natCast_add]; rfl, by omega, HQ.out.2.1.trans (by rw [HQ.out.2.2]; exact grownBy_set wr gb i3 _), fun _ => hst⟩, by simp only [intOf]; omega⟩
                  -- <E
                  · have b1 : decide ((i3 : Int) < (m : Int)) = false := by rw [decide_eq_false_iff_not]; omega
                    go_upto_region 48 with fail
                    have hob2 := HO10.out.2.2
                    have hK := HB.out.2.2.2.2.2.2.2
                    have h10a := H10.out.2.1
                    have h10b := H10.out.2.2.1
                    have h10s := H10.out.1.size
                    have zgs := hgr.size
                    have hv10 : ∀ Y, v10'.ownBlock = some Y → K9 ≤ Y := fun Y e => by
                      rcases H10.out.2.2.2.2.2.1 with h | h
                      · rw [h] at e
                        rcases H9.out.2.2.2.2.2.1 with h9 | h9
                        · rw [h9] at e; cases e
                        · exact h9 Y e
                      · have := h Y e; omega
                    have hy : RL wr K9 (.slice A10 yn c10) YL := ((H10.out.2.2.2.1).rl.keep (fun q hq1 hq2 => hgr.block q hq2 (fun e => by have := hob2 q e.symm; omega))).base (by omega)
                    have hfd : FeedAt wr G1 (G1 + 1) v10' (feedS raw).rest (feedS raw).done fe := by
                      have h5 := H10.out.2.2.2.2.1
                      exact h5.kept hgr (fun e => (hob2 G1 e.symm).2.2.2.1 rfl) (fun Y e e2 => by have := hv10 Y e; have := hob2 Y e2.symm; omega)
                    have hG2r : Blk wr G2 78 [.slice none 0 0, .bool false, .int .i64 0] := by
                      have hb := HB.out.2.1
                      exact (hgr.block G2 (by have := hb.lt; omega) (fun e => (hob2 G2 e.symm).2.2.2.2 rfl)).trans ((H10.out.1.block G2 hb.lt (by have := HG.out.2.1; omega) (fun e => by
                        rcases H9.out.2.2.2.2.2.1 with h9 | h9
                        · rw [h9] at e; cases e
                        · have := h9 G2 e.symm; omega)).trans hb)
                    have hlow10 : Below w.heap.size w w10 := below_fr HB.out.2.2.1 H10.out.1 HB.out.2.2.1.size (by have := HG.out.2.2.2.2.1; omega) (fun Y e => by
                      rcases H9.out.2.2.2.2.2.1 with h9 | h9
                      · rw [h9] at e; cases e
                      · have := h9 Y e; have := HG.out.2.2.2.2.1; omega)
                    have hlowr : Below w.heap.size w wr := hlow10.grown hgr hlow10.size (fun j e => (hob2 j e).2.2.1)
                    obtain ⟨an, han⟩ : ∃ x, x = (feedS raw).l.length := ⟨_, rfl⟩
                    have hsum : an = xn + yn := by rw [han, HB.out.2.2.2.1, List.length_append, ← HG.out.2.2.2.2.2.2, ← HB.out.2.2.2.2.1]
                    have han2 : an ≤ 262144 := by have hl := feed_len raw.length raw (Nat.le_refl _); have := HN.out; have := HA.out.2.1; omega
                    have cput := fun (W : World) (h : Below wr.heap.size wr W) (S : Option Addr) (cS : Nat) (hS : RB W S raw) => put_nextO (w := W) (R := []) (G := G2) (B := G2 + 1) (v := .slice none 0 0) (by rw [feed_nil]; exact ⟨hG2r.grow h, World.ownsRow_nil _ _ _ _, Nat.lt_succ_self _⟩) S n cS raw hS HA.out.2.1 (by have := h.size; have := hK.1; have := hK.2.2.2; omega) (by have := HN.out; have := HA.out.2.1; simp; omega)
                    unfold NextPostO at cput
                    rw [List.nil_append, show gotL [] raw = (feedS raw).l by rw [gotL, feed_nil]; simp, ← HB.out.2.2.2.2.2.1] at cput
                    have CP3 := Lib.hid cput
                    have HY := Lib.hid (And.intro hy (And.intro hfd (And.intro hv10 (And.intro hlowr (And.intro han (And.intro hsum (And.intro han2 (And.intro (show K9 ≤ wr.heap.size by omega) hK))))))))
                    clear hob2 hK h10a h10b h10s zgs hv10 hy hfd hG2r hlow10 hlowr han hsum han2 cput hgr how hlt hi3 b1
                    go_upto_region 49 with (first
                      | ((with_reducible show wpList _ _ _ (⟨some 187, _, _, _, _, _⟩ :: _) _ _); go_must (refine Seal.wpList_zeroG EB (by decide) rfl rfl wr.heap.size rfl ?_); intro w11 ho4 hb4 hz4; have O11 := Lib.hid (OwnB.of_own (l := []) ho4); have H11 := Lib.hid hb4; clear ho4 hb4 hz4)
                      | ((with_reducible show wpList _ _ _ (⟨some 189, _, _, _, _, _⟩ :: _) _ _); go_must (refine wpList_appBB rfl (.tmp 187) (.tmp 188) rfl Tryd.underlying22 (by kernel_rfl) rfl O11.out H11.out.size A n c raw rfl HA.out.2.1 (HA.out.1.below (HY.out.2.2.2.1.trans (H11.out.mono HY.out.2.2.2.1.size))) (by have := HN.out; have := HA.out.2.1; simp; omega) ?_); intro v12 w12 ho hg; have H12 := Lib.hid (OwnB.below O11.out H11.out hg H11.out.size); rw [List.nil_append] at ho; obtain ⟨S12, c12, rfl, hc12⟩ := OwnB.form ho HA.out.2.1; have O12 := Lib.hid (And.intro (OwnB.rd ho) hc12); clear ho hg hc12)
                      | (go_at_call 21; go_must (refine (CP3.out w12 H12.out S12 c12 O12.out.1).mono ?_); rintro e w13 ⟨hfr, u13, v13', K13, rfl, hk1, hk2, hrl, hf, hv⟩; obtain ⟨A13, c13, rfl, hc13⟩ := hrl.slice; rw [← HY.out.2.2.2.2.1] at hrl hc13 ⊢; have H13 := Lib.hid (And.intro hfr (And.intro hk1 (And.intro hk2 (And.intro hrl (And.intro hf (And.intro hv hc13)))))); clear hfr hk1 hk2 hrl hf hv hc13))
                    have hK := HY.out.2.2.2.2.2.2.2.2
                    have hKw := HY.out.2.2.2.2.2.2.2.1
                    have z12 := H12.out.size
                    have z13 := H13.out.1.size
                    have hf13 : FeedAt w13 G1 (G1 + 1) v10' (feedS raw).rest (feedS raw).done fe := by
                      have h1 := HY.out.2.1.below H12.out
                      exact ⟨(H13.out.1.block G1 h1.blk.lt (by have := HG.out.2.1; omega) (fun e => by cases e)).trans h1.blk, own_keep h1.own (fun X e hX => H13.out.1.block X hX (by have := HY.out.2.2.1 X e; omega) (fun e => by cases e)), h1.gb⟩
                    have hy13 : RL w13 K9 (.slice A10 yn c10) YL := (HY.out.1.below H12.out).keep (fun q hq1 hq2 => H13.out.1.block q hq2 (by omega) (fun e => by cases e))
                    have hall := H13.out.2.2.2.1.rl
                    have hlow13 : Below w.heap.size w w13 := below_fr (HY.out.2.2.2.1.trans (H12.out.mono HY.out.2.2.2.1.size)) H13.out.1 (Nat.le_trans HY.out.2.2.2.1.size z12) (by have := HG.out.2.2.2.2.1; have := HG.out.2.1; omega) (fun Y e => by cases e)
                    have hdrop := (RL.reads hall).2.drop (m := xn) (c := c13) (by rw [← HY.out.2.2.2.2.1]; have := HY.out.2.2.2.2.2.1; omega) (by rw [← HY.out.2.2.2.2.1]; exact H13.out.2.2.2.2.2.2)
                    rw [HB.out.2.2.2.1, List.drop_left' HG.out.2.2.2.2.2.2.symm] at hdrop
                    have hsame := fun (D : Option Addr) (hD : D = (if c13 = xn then A13 else A13.map (·.add (xn * 5)))) => same_all A10 yn c10 D (c13 - xn) YL w13 HB.out.2.2.2.2.1 (RL.reads hy13).2 (hD ▸ hdrop) (by have := HY.out.2.2.2.2.2.1; have := HY.out.2.2.2.2.2.2.1; omega) (fun r hr => feed_lens raw.length raw (Nat.le_refl _) r (by rw [HB.out.2.2.2.1]; exact List.mem_append_right _ hr))
                    have hr1 := rest_any hf13
                    have hr2 := rest_any H13.out.2.2.2.2.1
                    obtain ⟨fr, hfr⟩ : ∃ x, x = (feedS raw).rest.length := ⟨_, rfl⟩
                    rw [← hfr] at hr1 hr2
                    have SA := Lib.hid hsame
                    have RS := Lib.hid (And.intro hr1 hr2)
                    have HL13 := Lib.hid (And.intro hlow13 (And.intro (show an - xn = yn by have := HY.out.2.2.2.2.2.1; omega) (show xn ≤ an by have := HY.out.2.2.2.2.2.1; omega)))
                    have hxya : (xn : Int) + (yn : Int) = (an : Int) := by have := HY.out.2.2.2.2.2.1; omega
                    have hani : (an : Int) ≤ 262144 := by have := HY.out.2.2.2.2.2.2.1; omega
                    clear hK hKw z12 z13 hf13 hy13 hall hlow13 hdrop hsame hr1 hr2 hfr CP3
                    go_upto_region 51 with (first
                      | (go_at_call 23; (with_reducible show Calls _ _ #[.pointer (some ⟨G1, _, _⟩)] _ _); go_must (refine (RS.out.1).mono ?_); rintro e w14 ⟨rfl, rfl⟩)
                      | (go_at_call 23; (with_reducible show Calls _ _ #[.pointer (some ⟨G2, _, _⟩)] _ _); go_must (refine (RS.out.2).mono ?_); rintro e w14 ⟨rfl, rfl⟩)
                      | ((with_reducible show wpList _ _ _ (⟨some 218, _, _, _, _, _⟩ :: _) _ _); go_must (refine wpList_behindR (o := ⟨some 218, _, _, _, _, _⟩) (by simp [Region.wanted, yielded]) (.tmp 215) (.tmp 217) rfl rfl rfl HL13.out.2.2 ?_); intro D hD; rw [HL13.out.2.1]; have HD := Lib.hid hD; clear hD)
                      | (go_at_call 25; go_must (refine (SA.out _ HD.out).mono ?_); rintro e w15 ⟨rfl, hb15⟩; have H15 := Lib.hid hb15; clear hb15))
                    have hlow15 : Below w.heap.size w w15 := HL13.out.1.trans (H15.out.mono HL13.out.1.size)
                    have HW15 := Lib.hid hlow15
                    have cr := fun (S : Option Addr) (cS : Nat) (W : World) (hS : RB W S raw) (hc : n ≤ cS) => read_any S n cS raw W hS HA.out.2.1 hc (by have := HN.out; omega)
                    clear hlow15 H15 SA RS HL13 H13 O12 H12 O11 H11 HY hxya hani HO10 H10 HB CP2 HM HZ HLO H9 HS9 HG HAB HR CP
                    cases hr : readAll raw with
                    | error er =>
                      have her := all_err hr
                      simp only [hr] at cr
                      have sm := fun (W : World) => same_req (w := W) ⟨[], [], [], [], false⟩ ⟨[], [], [], [], false⟩ none 0 none 0 none 0 none 0 rfl (RV.nil _ _) (RV.nil _ _) (RB.nil _ _) (RB.nil _ _) (fun ad e => by cases e) (fun ad e => by cases e) (by simp) (by simp)
                      have CR := Lib.hid cr
                      have SM := Lib.hid sm
                      clear cr sm hr her
                      go_upto_region 54 with (first
                        | ((with_reducible show wpList _ _ _ (⟨some 223, _, _, _, _, _⟩ :: _) _ _); go_must (refine Seal.wpList_zeroG EB (by decide) rfl rfl w15.heap.size rfl ?_); intro w16 ho4 hb4 hz4; have O16 := Lib.hid (OwnB.of_own (l := []) ho4); have H16 := Lib.hid hb4; clear ho4 hb4 hz4)
                        | ((with_reducible show wpList _ _ _ (⟨some 225, _, _, _, _, _⟩ :: _) _ _); go_must (refine wpList_appBB rfl (.tmp 223) (.tmp 224) rfl Tryd.underlying22 (by kernel_rfl) rfl O16.out H16.out.size A n c raw rfl HA.out.2.1 (HA.out.1.below (HW15.out.trans (H16.out.mono HW15.out.size))) (by have := HN.out; have := HA.out.2.1; simp; omega) ?_); intro v17 w17 ho hg; have B17 := Lib.hid (HW15.out.trans ((OwnB.below O16.out H16.out hg H16.out.size).mono HW15.out.size)); rw [List.nil_append] at ho; obtain ⟨S17, c17, rfl, hc17⟩ := OwnB.form ho HA.out.2.1; have O17 := Lib.hid (And.intro (OwnB.rd ho) hc17); clear ho hg hc17)
                        | (go_at_call 16; (with_reducible show Calls _ _ #[.slice S17 n c17] _ _); go_must (refine (CR.out _ _ _ O17.out.1 O17.out.2).mono ?_); rintro e w18 hp; obtain ⟨hb, rfl⟩ := hp; have A18 := Lib.hid (gt B17.out hb); have E18 := Lib.hid hb; clear hb)
                        | ((with_reducible show wpList _ _ _ (⟨some 25, .alloc _, _, _, _, _⟩ :: _) _ _); go_must (refine wpList_allocB AR rfl rfl w18.heap.size rfl ?_); intro w18a hBx hbx hzx; have H18 := Lib.hid (And.intro hBx hbx); clear hBx hbx hzx)
                        | ((with_reducible show wpList _ _ _ (⟨none, .store _ (.tmp 25) _, _, _, _, _⟩ :: _) _ _); go_must (refine wpList_storeB AR rfl (.tmp 25) (.tmp 227) rfl w18.heap.size 0 rfl [.string ⟨#[]⟩, .string ⟨#[]⟩, .slice none 0 0, .slice none 0 0, .bool false] rfl rfl _ _ H18.out.1 (by simp) (by simp [Value.oneCell']) ?_); intro w18b hBy hgy hzy
                           simp only [splice, List.take_zero, List.nil_append, List.length_cons, List.length_nil, List.drop_succ_cons, List.drop_zero, List.append_nil, Nat.zero_add, List.drop_nil] at hBy
                           have D18 := Lib.hid (H18.out.2.grown hgy H18.out.2.size (fun j hj => by injection hj with hj; omega))
                           have C18 := Lib.hid hBy
                           have B18 := Lib.hid (gt A18.out D18.out)
                           clear hBy hgy hzy)
                        | ((with_reducible show wpList _ _ _ (⟨some 230, _, _, _, _, _⟩ :: _) _ _); go_must (refine Seal.wpList_zeroG EB (by decide) rfl rfl w18b.heap.size rfl ?_); intro w19 ho4 hb4 hz4; have O19 := Lib.hid ho4; have H19 := Lib.hid hb4; clear ho4 hb4 hz4)
                        | ((with_reducible show wpList _ _ _ (⟨some 232, _, _, _, _, _⟩ :: _) _ _); go_must (refine wpList_app EB rfl (.tmp 230) (.tmp 231) rfl w18b.heap.size (.slice (some ⟨w18b.heap.size, 0, none⟩) 0 0) 0 [] rfl O19.out A n c (raw.map bv) rfl (HA.out.1.below (B18.out.trans (H19.out.mono B18.out.size))).rv (by rw [List.length_map, HA.out.2.1]; simp) (by intro u hu; rw [List.mem_map] at hu; obtain ⟨_, _, rfl⟩ := hu; rfl) (by have := HN.out; unfold maxLen; omega) (by have := HN.out; omega) H19.out.size ?_); intro v20 w20 ho20 hg20 hv20; rw [Nat.zero_add, List.nil_append] at ho20; have H20 := Lib.hid (show Below w18b.heap.size w18b w20 from H19.out.grown hg20 H19.out.size (fun j hj => (O19.out.lt j hj).1)); have B20 := Lib.hid (gt' B18.out H20.out); obtain ⟨S20, c20, rfl, hc20⟩ := own_slice ho20; have O20 := Lib.hid (And.intro ho20 hc20); clear ho20 hg20 hv20 hc20)
                        | (go_at_call 16; (with_reducible show Calls _ _ #[.slice S20 n c20] _ _); go_must (refine (CR.out _ _ _ (own_rv O20.out.1).rb O20.out.2).mono ?_); rintro e w21 hp; obtain ⟨hb, rfl⟩ := hp; have A21 := Lib.hid (gt B20.out hb); have E21 := Lib.hid hb; clear hb)
                        | ((with_reducible show wpList _ _ _ (⟨some 28, .alloc _, _, _, _, _⟩ :: _) _ _); go_must (refine wpList_allocB AR rfl rfl w21.heap.size rfl ?_); intro w21a hBx hbx hzx; have H21 := Lib.hid (And.intro hBx hbx); clear hBx hbx hzx)
                        | ((with_reducible show wpList _ _ _ (⟨none, .store _ (.tmp 28) _, _, _, _, _⟩ :: _) _ _); go_must (refine wpList_storeB AR rfl (.tmp 28) (.tmp 236) rfl w21.heap.size 0 rfl [.string ⟨#[]⟩, .string ⟨#[]⟩, .slice none 0 0, .slice none 0 0, .bool false] rfl rfl _ _ H21.out.1 (by simp) (by simp [Value.oneCell']) ?_); intro w21b hBy hgy hzy
                           simp only [splice, List.take_zero, List.nil_append, List.length_cons, List.length_nil, List.drop_succ_cons, List.drop_zero, List.append_nil, Nat.zero_add, List.drop_nil] at hBy
                           have D21 := Lib.hid (H21.out.2.grown hgy H21.out.2.size (fun j hj => by injection hj with hj; omega))
                           have C21 := Lib.hid hBy
                           have B21 := Lib.hid (gt A21.out D21.out)
                           clear hBy hgy hzy))
                      obtain ⟨h25, hh25⟩ : ∃ x, x = w18.heap.size := ⟨_, rfl⟩
                      obtain ⟨h28, hh28⟩ : ∃ x, x = w21.heap.size := ⟨_, rfl⟩
                      have s18 := H18.out.2.size
                      have hC25 : Blk w21b h25 30 [.string ⟨#[]⟩, .string ⟨#[]⟩, .slice none 0 0, .slice none 0 0, .bool false] := hh25 ▸ ((C18.out.grow H20.out).grow (gt E21.out D21.out))
                      have hC28 : Blk w21b h28 30 [.string ⟨#[]⟩, .string ⟨#[]⟩, .slice none 0 0, .slice none 0 0, .bool false] := hh28 ▸ C21.out
                      have hlt25 : h25 < w18b.heap.size := by rw [hh25]; exact C18.out.lt
                      have hge28 : w20.heap.size ≤ h28 := by rw [hh28]; exact E21.out.size
                      have hown : w21b.ownsRow w18b.heap.size 5 1 (.slice S20 n c20) n (raw.map bv) := own_below' O20.out.1 (gt E21.out D21.out)
                      have hobl : ∀ j, (Value.slice S20 n c20).ownBlock = some j → w18b.heap.size ≤ j ∧ j < w20.heap.size := fun j e => O20.out.1.lt j e
                      have HF := Lib.hid (And.intro hC25 (And.intro hC28 (And.intro hlt25 (And.intro hge28 (And.intro hobl hown)))))
                      rw [← hh25, ← hh28]
                      clear hh25 hh28 s18 hC25 hC28 hlt25 hge28 hown hobl
                      go_wp2
                      go_loopw [31] (fun v31 w2 => ∃ i : Nat, v31 = .int .i64 i ∧ i ≤ n ∧ w21b.grownBy w2 (Value.slice S20 n c20).ownBlock ∧ w2.ownsRow w18b.heap.size 5 1 (.slice S20 n c20) n ((List.replicate i 118 ++ raw.drop i).map bv)) (fun v31 _ => n - (intOf v31).toNat)
                      case atStart => exact ⟨0, rfl, Nat.zero_le _, World.grownBy.refl _ _, by rw [List.replicate_zero, List.nil_append, List.drop_zero]; exact HF.out.2.2.2.2.2⟩
                      case round =>
                        obtain ⟨i4, rfl, hi4, hgr, ho⟩ := hrel
                        by_cases hlt : i4 < n
                        · obtain ⟨gb, hgb, _, _⟩ := Mem.own_addr ho (by omega)
                          subst hgb
                          have hce : ∃ u, wr.cell? ⟨gb, i4, none⟩ = some u := own_has ho (by omega)
                          obtain ⟨u, hce⟩ := hce
                          have hfz := ho.frozenAt i4
                          have hi0 : (0 : Int) ≤ (i4 : Int) := by omega
                          have hlt' : (i4 : Int) < (n : Int) := by omega
                          have HQ := Lib.hid (And.intro ho hgr)
                          clear ho hgr
                          go_wp2
                          have hst := (HQ.out.1.stored i4 (bv 118)).1
                          rw [← List.map_set, set_next 118 raw (by rw [← HA.out.2.1]; exact hlt)] at hst
                          exact ⟨⟨i4 + 1, by rw [Int.natCast_add]; rfl, by omega, HQ.out.2.trans (grownBy_set wr gb i4 _), hst⟩, by simp only [intOf]; omega⟩
                        · have b1 : decide ((i4 : Int) < (n : Int)) = false := by rw [decide_eq_false_iff_not]; omega
                          have hC25 := HF.out.1.grown hgr (fun e => by have := HF.out.2.2.1; have := HF.out.2.2.2.2.1 h25 e.symm; omega)
                          have hC28 := HF.out.2.1.grown hgr (fun e => by have := HF.out.2.2.2.1; have := HF.out.2.2.2.2.1 h28 e.symm; omega)
                          have u0 := hC25.cell 0
                          have u1 := hC25.cell 1
                          have u2 := hC25.cell 2
                          have u3 := hC25.cell 3
                          have u4 := hC25.cell 4
                          have v0 := hC28.cell 0
                          have v1 := hC28.cell 1
                          have v2 := hC28.cell 2
                          have v3 := hC28.cell 3
                          have v4 := hC28.cell 4
                          simp only [List.getElem?_cons_succ, List.getElem?_cons_zero] at u0 u1 u2 u3 u4 v0 v1 v2 v3 v4
                          have hlowf : Below w.heap.size w wr := B21.out.grown hgr B21.out.size (fun j hj => by have := (HF.out.2.2.2.2.1 j hj).1; have := B18.out.size; omega)
                          have HLF := Lib.hid hlowf
                          clear hgr ho hlowf hC25 hC28
                          go_wp2_with (first
                            | (go_at_call 17; go_must (refine (SM.out wr).mono ?_); rintro e w22 ⟨rfl, hb22⟩; have B22 := Lib.hid (gt HLF.out hb22); clear hb22))
                          go_ret
                          exact ⟨rfl, B22.out⟩
                    | ok x =>
                      obtain ⟨rq, N⟩ := x
                      have hlen := all_len hr
                      simp only [hr] at cr
                      have sm := fun (W : World) A5 k5 A7 k7 B5 l5 B7 l7 h1 h2 h3 h4 h5 h6 => same_req (w := W) rq rq A5 k5 A7 k7 B5 l5 B7 l7 rfl h1 h2 h3 h4 h5 h6 (by omega) (by omega)
                      obtain ⟨smm, hsm⟩ : ∃ x, x = (⟨rq.method.toArray⟩ : ByteArray) := ⟨_, rfl⟩
                      obtain ⟨stg, hst⟩ : ∃ x, x = (⟨rq.target.toArray⟩ : ByteArray) := ⟨_, rfl⟩
                      obtain ⟨hm, hhm⟩ : ∃ x, x = rq.headers.length := ⟨_, rfl⟩
                      obtain ⟨bl, hbl⟩ : ∃ x, x = rq.body.length := ⟨_, rfl⟩
                      obtain ⟨cl, hcl⟩ : ∃ x, x = rq.close := ⟨_, rfl⟩
                      unfold ReadPost at cr
                      simp only at cr
                      rw [← hsm, ← hst, ← hhm, ← hbl, ← hcl] at cr sm
                      have CR := Lib.hid cr
                      have SM := Lib.hid sm
                      clear cr sm hr hlen hsm hst hhm hbl hcl
                      go_upto_region 54 with (first
                        | ((with_reducible show wpList _ _ _ (⟨some 223, _, _, _, _, _⟩ :: _) _ _); go_must (refine Seal.wpList_zeroG EB (by decide) rfl rfl w15.heap.size rfl ?_); intro w16 ho4 hb4 hz4; have O16 := Lib.hid (OwnB.of_own (l := []) ho4); have H16 := Lib.hid hb4; clear ho4 hb4 hz4)
                        | ((with_reducible show wpList _ _ _ (⟨some 225, _, _, _, _, _⟩ :: _) _ _); go_must (refine wpList_appBB rfl (.tmp 223) (.tmp 224) rfl Tryd.underlying22 (by kernel_rfl) rfl O16.out H16.out.size A n c raw rfl HA.out.2.1 (HA.out.1.below (HW15.out.trans (H16.out.mono HW15.out.size))) (by have := HN.out; have := HA.out.2.1; simp; omega) ?_); intro v17 w17 ho hg; have B17 := Lib.hid (HW15.out.trans ((OwnB.below O16.out H16.out hg H16.out.size).mono HW15.out.size)); rw [List.nil_append] at ho; obtain ⟨S17, c17, rfl, hc17⟩ := OwnB.form ho HA.out.2.1; have O17 := Lib.hid (And.intro (OwnB.rd ho) hc17); clear ho hg hc17)
                        | (go_at_call 16; (with_reducible show Calls _ _ #[.slice S17 n c17] _ _); go_must (refine (CR.out _ _ _ O17.out.1 O17.out.2).mono ?_); rintro e w18 hp; obtain ⟨hb, A1, k1, P1, q1, K1, rfl, ho1, hK1, hw1, hob1⟩ := hp; have A18 := Lib.hid (gt B17.out hb); have E18 := Lib.hid hb; have R1 := Lib.hid (And.intro ho1 (And.intro hob1 hw1)); clear ho1 hK1 hw1 hob1; clear hb)
                        | ((with_reducible show wpList _ _ _ (⟨some 25, .alloc _, _, _, _, _⟩ :: _) _ _); go_must (refine wpList_allocB AR rfl rfl w18.heap.size rfl ?_); intro w18a hBx hbx hzx; have H18 := Lib.hid (And.intro hBx hbx); clear hBx hbx hzx)
                        | ((with_reducible show wpList _ _ _ (⟨none, .store _ (.tmp 25) _, _, _, _, _⟩ :: _) _ _); go_must (refine wpList_storeB AR rfl (.tmp 25) (.tmp 227) rfl w18.heap.size 0 rfl [.string smm, .string stg, .slice A1 hm k1, .slice P1 bl q1, .bool cl] rfl rfl _ _ H18.out.1 (by simp) (by simp [Value.oneCell']) ?_); intro w18b hBy hgy hzy
                           simp only [splice, List.take_zero, List.nil_append, List.length_cons, List.length_nil, List.drop_succ_cons, List.drop_zero, List.append_nil, Nat.zero_add, List.drop_nil] at hBy
                           have D18 := Lib.hid (H18.out.2.grown hgy H18.out.2.size (fun j hj => by injection hj with hj; omega))
                           have C18 := Lib.hid hBy
                           have B18 := Lib.hid (gt A18.out D18.out)
                           clear hBy hgy hzy)
                        | ((with_reducible show wpList _ _ _ (⟨some 230, _, _, _, _, _⟩ :: _) _ _); go_must (refine Seal.wpList_zeroG EB (by decide) rfl rfl w18b.heap.size rfl ?_); intro w19 ho4 hb4 hz4; have O19 := Lib.hid ho4; have H19 := Lib.hid hb4; clear ho4 hb4 hz4)
                        | ((with_reducible show wpList _ _ _ (⟨some 232, _, _, _, _, _⟩ :: _) _ _); go_must (refine wpList_app EB rfl (.tmp 230) (.tmp 231) rfl w18b.heap.size (.slice (some ⟨w18b.heap.size, 0, none⟩) 0 0) 0 [] rfl O19.out A n c (raw.map bv) rfl (HA.out.1.below (B18.out.trans (H19.out.mono B18.out.size))).rv (by rw [List.length_map, HA.out.2.1]; simp) (by intro u hu; rw [List.mem_map] at hu; obtain ⟨_, _, rfl⟩ := hu; rfl) (by have := HN.out; unfold maxLen; omega) (by have := HN.out; omega) H19.out.size ?_); intro v20 w20 ho20 hg20 hv20; rw [Nat.zero_add, List.nil_append] at ho20; have H20 := Lib.hid (show Below w18b.heap.size w18b w20 from H19.out.grown hg20 H19.out.size (fun j hj => (O19.out.lt j hj).1)); have B20 := Lib.hid (gt' B18.out H20.out); obtain ⟨S20, c20, rfl, hc20⟩ := own_slice ho20; have O20 := Lib.hid (And.intro ho20 hc20); clear ho20 hg20 hv20 hc20)
                        | (go_at_call 16; (with_reducible show Calls _ _ #[.slice S20 n c20] _ _); go_must (refine (CR.out _ _ _ (own_rv O20.out.1).rb O20.out.2).mono ?_); rintro e w21 hp; obtain ⟨hb, A2, k2, P2, q2, K2, rfl, ho2, hK2, hw2, hob2⟩ := hp; have A21 := Lib.hid (gt B20.out hb); have E21 := Lib.hid hb; have R2 := Lib.hid (And.intro ho2 (And.intro hob2 hw2)); clear ho2 hK2 hw2 hob2; clear hb)
                        | ((with_reducible show wpList _ _ _ (⟨some 28, .alloc _, _, _, _, _⟩ :: _) _ _); go_must (refine wpList_allocB AR rfl rfl w21.heap.size rfl ?_); intro w21a hBx hbx hzx; have H21 := Lib.hid (And.intro hBx hbx); clear hBx hbx hzx)
                        | ((with_reducible show wpList _ _ _ (⟨none, .store _ (.tmp 28) _, _, _, _, _⟩ :: _) _ _); go_must (refine wpList_storeB AR rfl (.tmp 28) (.tmp 236) rfl w21.heap.size 0 rfl [.string smm, .string stg, .slice A2 hm k2, .slice P2 bl q2, .bool cl] rfl rfl _ _ H21.out.1 (by simp) (by simp [Value.oneCell']) ?_); intro w21b hBy hgy hzy
                           simp only [splice, List.take_zero, List.nil_append, List.length_cons, List.length_nil, List.drop_succ_cons, List.drop_zero, List.append_nil, Nat.zero_add, List.drop_nil] at hBy
                           have D21 := Lib.hid (H21.out.2.grown hgy H21.out.2.size (fun j hj => by injection hj with hj; omega))
                           have C21 := Lib.hid hBy
                           have B21 := Lib.hid (gt A21.out D21.out)
                           clear hBy hgy hzy))
                      obtain ⟨h25, hh25⟩ : ∃ x, x = w18.heap.size := ⟨_, rfl⟩
                      obtain ⟨h28, hh28⟩ : ∃ x, x = w21.heap.size := ⟨_, rfl⟩
                      have s18 := H18.out.2.size
                      have hC25 : Blk w21b h25 30 [.string smm, .string stg, .slice A1 hm k1, .slice P1 bl q1, .bool cl] := hh25 ▸ ((C18.out.grow H20.out).grow (gt E21.out D21.out))
                      have hC28 : Blk w21b h28 30 [.string smm, .string stg, .slice A2 hm k2, .slice P2 bl q2, .bool cl] := hh28 ▸ C21.out
                      have hlt25 : h25 < w18b.heap.size := by rw [hh25]; exact C18.out.lt
                      have hge28 : w20.heap.size ≤ h28 := by rw [hh28]; exact E21.out.size
                      have hown : w21b.ownsRow w18b.heap.size 5 1 (.slice S20 n c20) n (raw.map bv) := own_below' O20.out.1 (gt E21.out D21.out)
                      have hobl : ∀ j, (Value.slice S20 n c20).ownBlock = some j → w18b.heap.size ≤ j ∧ j < w20.heap.size := fun j e => O20.out.1.lt j e
                      have HF := Lib.hid (And.intro hC25 (And.intro hC28 (And.intro hlt25 (And.intro hge28 (And.intro hobl hown)))))
                      rw [← hh25, ← hh28]
                      clear hh25 hh28 s18 hC25 hC28 hlt25 hge28 hown hobl
                      go_wp2
                      go_loopw [31] (fun v31 w2 => ∃ i : Nat, v31 = .int .i64 i ∧ i ≤ n ∧ w21b.grownBy w2 (Value.slice S20 n c20).ownBlock ∧ w2.ownsRow w18b.heap.size 5 1 (.slice S20 n c20) n ((List.replicate i 118 ++ raw.drop i).map bv)) (fun v31 _ => n - (intOf v31).toNat)
                      case atStart => exact ⟨0, rfl, Nat.zero_le _, World.grownBy.refl _ _, by rw [List.replicate_zero, List.nil_append, List.drop_zero]; exact HF.out.2.2.2.2.2⟩
                      case round =>
                        obtain ⟨i4, rfl, hi4, hgr, ho⟩ := hrel
                        by_cases hlt : i4 < n
                        · obtain ⟨gb, hgb, _, _⟩ := Mem.own_addr ho (by omega)
                          subst hgb
                          have hce : ∃ u, wr.cell? ⟨gb, i4, none⟩ = some u := own_has ho (by omega)
                          obtain ⟨u, hce⟩ := hce
                          have hfz := ho.frozenAt i4
                          have hi0 : (0 : Int) ≤ (i4 : Int) := by omega
                          have hlt' : (i4 : Int) < (n : Int) := by omega
                          have HQ := Lib.hid (And.intro ho hgr)
                          clear ho hgr
                          go_wp2
                          have hst := (HQ.out.1.stored i4 (bv 118)).1
                          rw [← List.map_set, set_next 118 raw (by rw [← HA.out.2.1]; exact hlt)] at hst
                          exact ⟨⟨i4 + 1, by rw [Int.natCast_add]; rfl, by omega, HQ.out.2.trans (grownBy_set wr gb i4 _), hst⟩, by simp only [intOf]; omega⟩
                        · have b1 : decide ((i4 : Int) < (n : Int)) = false := by rw [decide_eq_false_iff_not]; omega
                          have hC25 := HF.out.1.grown hgr (fun e => by have := HF.out.2.2.1; have := HF.out.2.2.2.2.1 h25 e.symm; omega)
                          have hC28 := HF.out.2.1.grown hgr (fun e => by have := HF.out.2.2.2.1; have := HF.out.2.2.2.2.1 h28 e.symm; omega)
                          have u0 := hC25.cell 0
                          have u1 := hC25.cell 1
                          have u2 := hC25.cell 2
                          have u3 := hC25.cell 3
                          have u4 := hC25.cell 4
                          have v0 := hC28.cell 0
                          have v1 := hC28.cell 1
                          have v2 := hC28.cell 2
                          have v3 := hC28.cell 3
                          have v4 := hC28.cell 4
                          simp only [List.getElem?_cons_succ, List.getElem?_cons_zero] at u0 u1 u2 u3 u4 v0 v1 v2 v3 v4
                          have hlowf : Below w.heap.size w wr := B21.out.grown hgr B21.out.size (fun j hj => by have := (HF.out.2.2.2.2.1 j hj).1; have := B18.out.size; omega)
                          have HLF := Lib.hid hlowf
                          have z20 := H20.out.size
                          have keep1 : ∀ {T : TypeId} {sz k B : Nat} {v : Value} {ys : List Value}, w18.ownsRow B T sz v k ys → wr.ownsRow B T sz v k ys := fun h => own_keep (own_below' (own_below' (own_below' h D18.out) H20.out) (gt E21.out D21.out)) (fun X e hX => hgr.block X hX (fun e2 => by have := (h.lt X e).2; have := D18.out.size; have := (HF.out.2.2.2.2.1 X e2.symm).1; omega))
                          have keep2 : ∀ {T : TypeId} {sz k B : Nat} {v : Value} {ys : List Value}, w21.ownsRow B T sz v k ys → w20.heap.size ≤ B → wr.ownsRow B T sz v k ys := fun h hB => own_keep (own_below' h D21.out) (fun X e hX => hgr.block X hX (fun e2 => by have := (h.lt X e).1; have := (HF.out.2.2.2.2.1 X e2.symm).2; omega))
                          have k1x := SM.out wr A1 k1 P1 q1 A2 k2 P2 q2 (own_rv (keep1 R1.out.1)) (own_rv (keep2 R2.out.1 (Nat.le_refl _))) (own_rv (keep1 R1.out.2.1)).rb (own_rv (keep2 R2.out.2.1 R2.out.2.2)).rb (own_spot R1.out.1) (own_spot R2.out.1)
                          have K1X := Lib.hid k1x
                          clear z20 keep1 keep2 k1x
                          clear hgr ho hlowf hC25 hC28
                          go_wp2_with (first
                            | (go_at_call 17; go_must (refine (K1X.out).mono ?_); rintro e w22 ⟨rfl, hb22⟩; have B22 := Lib.hid (gt HLF.out hb22); clear hb22))
                          go_ret
                          exact ⟨rfl, B22.out⟩
end Go.Proofs.YtojemdggbcklkaaDoor.WireR
