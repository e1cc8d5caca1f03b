/- A token opened: the reference's Open. -/
import Derived.Test.YtoemceehmiaigaaDoorOpenTok
namespace Go.Proofs.YtoemceehmiaigaaDoor.Seal
open Go.RowKit Go.Proofs.YtoemceehmiaigaaDoor.Mem Go.Proofs.YtoemceehmiaigaaDoor.Loan Go.Proofs.YtoemceehmiaigaaDoor.Sha Go.Proofs.YtoemceehmiaigaaDoor.Strs
set_option linter.unusedVariables false

def Once (l : List UInt8) (i : Nat) : Prop := ∃ a b : List UInt8, l = a ++ 46 :: b ∧ a.length = i ∧ 46 ∉ a ∧ 46 ∉ b
theorem once_step {l : List UInt8} {i : Nat} {c : UInt8} (h : Once l i) (hc : ¬ c = 46) : Once (l ++ [c]) i := by
  obtain ⟨a, b, rfl, h1, h2, h3⟩ := h
  exact ⟨a, b ++ [c], by simp, h1, h2, by simp [h3]; exact fun e => hc e.symm⟩
theorem once_new {l : List UInt8} (h : l.count 46 = 0) : Once (l ++ [46]) l.length := ⟨l, [], rfl, rfl, List.count_eq_zero.1 h, by simp⟩
theorem count_step (l : List UInt8) (c : UInt8) : (l ++ [c]).count 46 = l.count 46 + if c = 46 then 1 else 0 := by
  rw [List.count_append]
  by_cases h : c = 46
  · subst h; simp
  · rw [if_neg h]; have : [c].count 46 = 0 := List.count_eq_zero.2 (by simp; exact fun e => h e.symm)
    rw [this]
theorem openV_points {k t : List UInt8} (ht : t.length ≤ 4096) (h : t.count 46 ≠ 1) : openV k t = (0, [], 51) := by
  unfold openV
  rw [if_neg (by omega)]
  cases hc : cutL 46 t with
  | none => rfl
  | some p =>
    obtain ⟨h1, h2⟩ := cutL_some (a := p.1) (b := p.2) hc
    cases hd : cutL 46 p.2 with
    | some q => simp only [hd]
    | none =>
      have h3 := cutL_none hd
      refine absurd ?_ h
      rw [h1, List.count_append, List.count_eq_zero.2 h2, List.count_cons, List.count_eq_zero.2 h3]
      simp
theorem openV_once {k a b : List UInt8} (ht : (a ++ 46 :: b).length ≤ 4096) (ha : 46 ∉ a) (hb : 46 ∉ b) : openV k (a ++ 46 :: b) =
    match dec a with
    | none => (0, [], 50)
    | some pb =>
      match dec b with
      | none => (0, [], 50)
      | some g => if g = hmacf k pb then (unZ pb, unP pb, unE pb) else (0, [], 52) := by
  unfold openV
  rw [if_neg (by omega), cutL_of ha]
  simp only [cutL_not hb]
  rfl

set_option maxRecDepth 40000 in
set_option maxHeartbeats 3200000 in
theorem ropen_any (k t : List UInt8) (A : Option Addr) (n c : Nat) (w : World) (hn : n = k.length) (ha : RB w A k) (hl : n ≤ 17592186044416) (ht : t.length ≤ 1073741824) :
    Calls Tryd.prog 39 #[.slice A n c, .string ⟨t.toArray⟩] w fun e w' => e = .returned (.tuple #[claimV (openV k t).1 (openV k t).2.1, .int .i64 (openV k t).2.2]) ∧ Below w.heap.size w w' := by
  obtain ⟨s, hs⟩ : ∃ s, s = (⟨t.toArray⟩ : ByteArray) := ⟨_, rfl⟩
  obtain ⟨m, hm⟩ : ∃ m, m = t.length := ⟨_, rfl⟩
  have hsz : s.size = m := by rw [hs, hm]; simp [ByteArray.size]
  have hmi : (m : Int) ≤ 1073741824 := by omega
  obtain ⟨W1, hW1⟩ : ∃ x, x = w.alloc (.cells #[.int .i64 0, .string ⟨#[]⟩] 72) := ⟨_, rfl⟩
  have hw1 : Below w.heap.size w W1 := hW1 ▸ ga (gr w) _
  have hB1 : Blk W1 w.heap.size 72 [.int .i64 0, .string ⟨#[]⟩] := hW1 ▸ Blk.new w _ _
  have HA := Lib.hid (And.intro hn (And.intro ha (And.intro hl (And.intro hm hs))))
  have HX := Lib.hid (And.intro hw1 hB1)
  rw [← hs]
  by_cases hlong : 4096 < t.length
  · have hr : openV k t = (0, [], 1) := by unfold openV; rw [if_pos hlong]
    have hlo : 4096 < (m : Int) := by omega
    rw [hr]
    clear hn ha hl ht hs hm hw1 hB1 hlong hr
    go_enter Tryd.func39, Tryd.ntmps39
    go_wp2_with fail
    refine bodyPost_ret (v := .tuple #[claimV 0 [], .int .i64 1]) (by simp [results, Tryd.results39, go_sem, claimV]) rfl ⟨rfl, ?_⟩
    rw [← hW1]
    exact HX.out.1
  · have hlo : (m : Int) ≤ 4096 := by omega
    have hlN : m ≤ 4096 := by omega
    clear hn ha hl ht hs hm hw1 hB1 hlong
    go_enter Tryd.func39, Tryd.ntmps39
    go_wp2_with fail
    rw [← hW1]
    clear hW1
    go_loopw [6, 7, 8] (fun v6 v7 v8 wr => ∃ i at_ pt : Nat, i ≤ m ∧ v8 = .int .i64 i ∧ v6 = .int .i64 at_ ∧ at_ ≤ m ∧ v7 = .int .i64 pt ∧ pt ≤ i ∧ pt = (t.take i).count 46 ∧ (pt = 1 → Once (t.take i) at_) ∧ wr = W1) (fun _ _ v _ => m - (intOf v).toNat)
    case atStart => exact ⟨0, 0, 0, by omega, rfl, rfl, by omega, rfl, by omega, by simp, (fun h => by omega), rfl⟩
    case round =>
      obtain ⟨i, at_, pt, hi, rfl, rfl, hat, rfl, hpi, hpt, hon, rfl⟩ := hrel
      have HI := Lib.hid (And.intro hpt hon)
      clear hpt hon
      by_cases hlt : i < m
      · have hil : i < t.length := by have := HA.out.2.2.2.1; omega
        obtain ⟨x, hx⟩ : ∃ x, x = t[i] := ⟨_, rfl⟩
        have his : i < s.size := by omega
        have hsx : s[i] = x := by
          have : ∀ s' : ByteArray, s' = (⟨t.toArray⟩ : ByteArray) → ∀ h, s'[i]'h = t[i] := fun s' e h => by subst e; rfl
          rw [hx]; exact this s HA.out.2.2.2.2 his
        have hii : (i : Int) < (m : Int) := by omega
        have hi0 : (0 : Int) ≤ (i : Int) := by omega
        have htk : t.take (i + 1) = t.take i ++ [x] := by rw [take_succ_ hil, hx]
        have hti : (t.take i).length = i := by rw [List.length_take]; omega
        have hpi2 : (pt : Int) ≤ 4096 := by omega
        have HT := Lib.hid (And.intro htk hti)
        clear hx htk hti
        by_cases h46 : x = 46
        · have hx46 : (x.toNat : Int) = 46 := by rw [h46]; rfl
          have h1 := count_step (t.take i) x
          rw [if_pos h46] at h1
          have HN := Lib.hid (And.intro h46 h1)
          clear h46 h1
          go_wp2_with fail
          refine ⟨⟨i + 1, i, pt + 1, by omega, by go_num, rfl, by omega, by go_num, by omega, ?_, ?_, trivial⟩, by simp [intOf]; omega⟩
          · rw [HT.out.1, HN.out.2, ← HI.out.1]
          · intro h
            have h0 : pt = 0 := by omega
            rw [HT.out.1, HN.out.1]
            have := once_new (l := t.take i) (by rw [← HI.out.1]; exact h0)
            rw [HT.out.2] at this
            exact this
        · have hx46 : ¬ (x.toNat : Int) = 46 := by
            intro h
            exact h46 (UInt8.toNat_inj.1 ((show x.toNat = 46 by omega).trans rfl))
          have h1 := count_step (t.take i) x
          rw [if_neg h46] at h1
          have HN := Lib.hid (And.intro h46 h1)
          clear h46 h1
          go_wp2_with fail
          refine ⟨⟨i + 1, at_, pt, by omega, by go_num, rfl, by omega, rfl, by omega, ?_, ?_, trivial⟩, by simp [intOf]; omega⟩
          · rw [HT.out.1, HN.out.2, ← HI.out.1]; rfl
          · intro h
            rw [HT.out.1]
            exact once_step (HI.out.2 h) HN.out.1
      · obtain rfl : i = m := by omega
        have htk : t.take i = t := List.take_of_length_le (by have := HA.out.2.2.2.1; omega)
        rw [htk] at HI
        by_cases hp1 : pt = 1
        · obtain ⟨a, b, hab, hal, ha46, hb46⟩ := HI.out.2 hp1
          have hpi1 : (pt : Int) = 1 := by omega
          have hml : i = at_ + 1 + b.length := by rw [HA.out.2.2.2.1, hab, ← hal]; simp; omega
          have hov := openV_once (k := k) (a := a) (b := b) (by rw [← hab, ← HA.out.2.2.2.1]; omega) ha46 hb46
          rw [← hab] at hov
          have e1 : s.extract 0 at_ = ⟨a.toArray⟩ := by rw [HA.out.2.2.2.2, hab, ← hal]; exact ext_head a (46 :: b)
          have e2 : s.extract (at_ + 1) i = ⟨b.toArray⟩ := by
            have := ext_tail (a ++ [46]) b
            rw [HA.out.2.2.2.2, HA.out.2.2.2.1, hab, ← hal]
            simpa using this
          have hnm : (at_ : Int) + 1 ≤ (i : Int) := by omega
          have hn0 : (0 : Int) ≤ (at_ : Int) := by omega
          have hal2 : a.length ≤ 4096 := by omega
          have hbl2 : b.length ≤ 4096 := by omega
          have cD1 := Lib.hid (show ∀ W, Calls Tryd.prog 65 #[.string ⟨a.toArray⟩] W (DecPost W (dec a)) from fun W => rdecode_any a W (by omega))
          have cD2 := Lib.hid (show ∀ W, Calls Tryd.prog 65 #[.string ⟨b.toArray⟩] W (DecPost W (dec b)) from fun W => rdecode_any b W (by omega))
          clear hat hpi hlt hab hal ha46 hb46 hml hp1 htk
          cases hd1 : dec a with
          | none =>
            rw [hd1] at hov cD1
            simp only at hov
            have HO := Lib.hid hov
            clear hov hd1 cD2
            go_upto_region 14 with (first
              | (go_at_call 65; go_must (refine (cD1.out _).mono ?_); rintro e w4 ⟨rfl, hb4⟩))
            have HX2 := Lib.hid (And.intro (gt HX.out.1 hb4) (HX.out.2.grow hb4))
            clear hb4
            have c0 := HX2.out.2.cell 0
            have c1 := HX2.out.2.cell 1
            have f0 := HX2.out.2.frozen 0
            have f1 := HX2.out.2.frozen 1
            simp only [List.getElem?_cons_succ, List.getElem?_cons_zero] at c0 c1
            go_wp2_with fail
            refine bodyPost_ret (v := .tuple #[claimV 0 [], .int .i64 50]) (by simp [results, Tryd.results39, go_sem, claimV, c0, c1]) rfl ⟨by rw [HO.out], ?_⟩
            exact (HX2.out.1.setCell (Nat.le_refl _) _).setCell (Nat.le_refl _) _
          | some pb =>
            rw [hd1] at hov cD1
            simp only at hov
            have hpl := dec_len hd1
            have cD1 := Lib.hid (show ∀ W, Calls Tryd.prog 65 #[.string ⟨a.toArray⟩] W (fun e w' => (∃ A c, e = .returned (.tuple #[.slice A pb.length c, .int .i64 0]) ∧ RB w' A pb ∧ pb.length ≤ c ∧ c ≤ maxLen) ∧ Below W.heap.size W w') from fun W => (cD1.out W).mono fun e w' h => by
              obtain ⟨v, rfl, ho, hb⟩ := h
              obtain ⟨A, n, c, rfl, hn⟩ := own_form ho
              subst hn
              exact ⟨⟨A, c, rfl, own_rb' ho, (own_cap ho).1, (own_cap ho).2⟩, hb⟩)
            cases hd2 : dec b with
            | none =>
              rw [hd2] at hov cD2
              simp only at hov
              have HO := Lib.hid hov
              clear hov hd1 hd2 hpl
              go_upto_region 15 with (first
                | (go_at_call 65; go_must (refine (cD1.out _).mono ?_); rintro e w4 ⟨⟨A4, c4, rfl, hr4, hc4⟩, hb4⟩))
              go_upto_region 17 with (first
                | (go_at_call 65; go_must (refine (cD2.out _).mono ?_); rintro e w5 ⟨rfl, hb5⟩))
              have HX2 := Lib.hid (And.intro (gt (gt HX.out.1 hb4) hb5) ((HX.out.2.grow hb4).grow hb5))
              clear hb4 hb5 hr4 hc4
              have c0 := HX2.out.2.cell 0
              have c1 := HX2.out.2.cell 1
              have f0 := HX2.out.2.frozen 0
              have f1 := HX2.out.2.frozen 1
              simp only [List.getElem?_cons_succ, List.getElem?_cons_zero] at c0 c1
              go_wp2_with fail
              refine bodyPost_ret (v := .tuple #[claimV 0 [], .int .i64 50]) (by simp [results, Tryd.results39, go_sem, claimV, c0, c1]) rfl ⟨by rw [HO.out], ?_⟩
              exact (HX2.out.1.setCell (Nat.le_refl _) _).setCell (Nat.le_refl _) _
            | some g =>
              rw [hd2] at hov cD2
              simp only at hov
              have hbg := enc_dec b g hd2
              have cD2 := Lib.hid (show ∀ W, Calls Tryd.prog 65 #[.string ⟨b.toArray⟩] W (fun e w' => (∃ A c, e = .returned (.tuple #[.slice A g.length c, .int .i64 0])) ∧ Below W.heap.size W w') from fun W => (cD2.out W).mono fun e w' h => by
                obtain ⟨v, rfl, ho, hb⟩ := h
                obtain ⟨A, n, c, rfl, hn⟩ := own_form ho
                subst hn
                exact ⟨⟨A, c, rfl⟩, hb⟩)
              obtain ⟨d, hd⟩ : ∃ x, x = hmacf k pb := ⟨_, rfl⟩
              rw [← hd] at hov
              obtain ⟨np, hnp⟩ : ∃ x, x = pb.length := ⟨_, rfl⟩
              rw [← hnp] at cD1
              obtain ⟨ed, hed⟩ : ∃ x, x = enc d := ⟨_, rfl⟩
              have cH := Lib.hid (show ∀ W A2 c2, Below w.heap.size w W → RB W A2 pb → Calls Tryd.prog 64 #[.slice A n c, .slice A2 np c2] W (fun e w' => e = .returned (.string ⟨ed.toArray⟩) ∧ Below W.heap.size W w') from fun W A2 c2 hb hr2 => by
                rw [hed, hd]; exact rtag_any k pb A A2 n np c c2 W HA.out.1 hnp (HA.out.2.1.below hb) hr2 HA.out.2.2.1 (by omega))
              have cU := Lib.hid (show ∀ W A2 c2, RB W A2 pb → np ≤ c2 → c2 ≤ maxLen → Calls Tryd.prog 66 #[.slice A2 np c2] W (fun e w' => e = .returned (.tuple #[claimV (unZ pb) (unP pb), .int .i64 (unE pb)]) ∧ Below W.heap.size W w') from fun W A2 c2 h1 h2 h3 => runpack_any A2 c2 np pb W h1 hnp h2 h3)
              have hgd : g = d ↔ b = ed := by
                rw [hed, ← hbg]
                constructor
                · intro h; rw [h]
                · intro h
                  have := congrArg dec h
                  rw [dec_enc, dec_enc] at this
                  injection this
              obtain ⟨sb, hsb⟩ : ∃ x, x = (⟨b.toArray⟩ : ByteArray) := ⟨_, rfl⟩
              obtain ⟨se, hse⟩ : ∃ x, x = (⟨ed.toArray⟩ : ByteArray) := ⟨_, rfl⟩
              rw [← hsb] at e2
              have cD2 := Lib.hid (show ∀ W, Calls Tryd.prog 65 #[.string sb] W (fun e w' => (∃ A c, e = .returned (.tuple #[.slice A g.length c, .int .i64 0])) ∧ Below W.heap.size W w') from by rw [hsb]; exact cD2.out)
              have cH := Lib.hid (show ∀ W A2 c2, Below w.heap.size w W → RB W A2 pb → Calls Tryd.prog 64 #[.slice A n c, .slice A2 np c2] W (fun e w' => e = .returned (.string se) ∧ Below W.heap.size W w') from by rw [hse]; exact cH.out)
              have hwr : IntKind.i64.wrap ((at_ : Int) + 1) = (at_ : Int) + 1 := by simp [IntKind.wrap, IntKind.bits, IntKind.signed]; omega
              have hn1 : (0 : Int) ≤ (at_ : Int) + 1 := by omega
              have hbl : (!sb.toList == se.toList) = !decide (b = ed) := by rw [hsb, hse, ByteArray.toList_eq, ByteArray.toList_eq, Bool.eq_iff_iff]; simp
              have HO := Lib.hid (And.intro hov hgd)
              clear hov hgd hd1 hd2 hpl hbg hd hnp hed hsb hse
              go_upto_region 15 with (first
                | (go_at_call 65; go_must (refine (cD1.out _).mono ?_); rintro e w4 ⟨⟨A4, c4, rfl, hr4, hc4⟩, hb4⟩))
              go_upto_region 18 with (first
                | (go_at_call 65; go_must (refine (cD2.out _).mono ?_); rintro e w5 ⟨⟨A5, c5, rfl⟩, hb5⟩))
              have HX2 := Lib.hid (And.intro (gt (gt HX.out.1 hb4) hb5) ((HX.out.2.grow hb4).grow hb5))
              have HY := Lib.hid (And.intro (hr4.below hb5) hc4)
              clear hb4 hb5 hr4 hc4
              by_cases hbe : b = ed
              · rw [decide_eq_true hbe, Bool.not_true] at hbl
                try simp only [Act.put, List.setIfInBounds_toArray, List.set_cons_succ, List.set_cons_zero]
                refine wp_region_qb (by kernel_rfl) (by kernel_rfl) ?_
                go_big_quiet_step (fail)
                go_big_quiet_step (fail)
                refine wq_val (o := ⟨some 56, _, _, _, _, _⟩) (v := .int .i64 ((at_ : Int) + 1)) rfl (fun w' hC => by go_simp) ?_
                simp only [Act.put, List.setIfInBounds_toArray, List.set_cons_succ, List.set_cons_zero]
                refine wq_val (o := ⟨some 57, _, _, _, _, _⟩) (v := .string sb) rfl (fun w' hC => by go_simp) ?_
                simp only [Act.put, List.setIfInBounds_toArray, List.set_cons_succ, List.set_cons_zero]
                go_big_quiet_step (fail)
                go_big_quiet_step (fail)
                refine wq_call (f := 64) (args := #[.slice A n c, .slice A4 np c4]) (v := .string se) rfl (fun w' _ => by go_simp) (fun w' hC => cH.out _ A4 c4 (gt HX2.out.1 hC) (HY.out.1.below hC)) ?_
                simp only [Act.put, List.setIfInBounds_toArray, List.set_cons_succ, List.set_cons_zero]
                refine wq_val (o := ⟨some 61, _, _, _, _, _⟩) (v := .bool false) rfl (fun w' hC => by go_simp) ?_
                simp only [Act.put, List.setIfInBounds_toArray, List.set_cons_succ, List.set_cons_zero]
                refine wpQuiet_nil ?_
                intro w6 h6
                have hov := HO.out.1
                rw [if_pos (HO.out.2.2 hbe)] at hov
                have HV := Lib.hid hov
                clear hov hbl hbe
                have HX3 := Lib.hid (And.intro (gt HX2.out.1 h6) (HX2.out.2.grow h6))
                have HY3 := Lib.hid (HY.out.1.below h6)
                clear h6
                obtain ⟨uz, huz⟩ : ∃ x, x = unZ pb := ⟨_, rfl⟩
                obtain ⟨us, hus⟩ : ∃ x : ByteArray, x = ⟨(unP pb).toArray⟩ := ⟨_, rfl⟩
                obtain ⟨ue, hue⟩ : ∃ x, x = unE pb := ⟨_, rfl⟩
                have HU := Lib.hid (And.intro huz (And.intro hus hue))
                have cU := Lib.hid (show ∀ W A2 c2, RB W A2 pb → np ≤ c2 → c2 ≤ maxLen → Calls Tryd.prog 66 #[.slice A2 np c2] W (fun e w' => e = .returned (.tuple #[.agg #[.int .i64 uz, .string us], .int .i64 ue]) ∧ Below W.heap.size W w') from by
                  rw [huz, hus, hue]; exact cU.out)
                clear huz hus hue
                have c0 := HX3.out.2.cell 0
                have c1 := HX3.out.2.cell 1
                have f0 := HX3.out.2.frozen 0
                have f1 := HX3.out.2.frozen 1
                simp only [List.getElem?_cons_succ, List.getElem?_cons_zero] at c0 c1
                go_wp2_with (first
                  | (go_at_call 66; go_must (refine (cU.out _ _ _ HY3.out HY.out.2.1 HY.out.2.2).mono ?_); rintro e w10 ⟨rfl, hb10⟩; replace c0 := cell_grow c0 hb10; replace c1 := cell_grow c1 hb10; replace f0 := (HX3.out.2.grow hb10).frozen 0; replace f1 := (HX3.out.2.grow hb10).frozen 1))
                refine bodyPost_ret (v := .tuple #[.agg #[.int .i64 uz, .string us], .int .i64 ue]) (by simp [results, Tryd.results39, go_sem, claimV, c0, c1]) rfl ⟨by rw [HV.out, HU.out.1, HU.out.2.1, HU.out.2.2]; rfl, ?_⟩
                exact ((gt HX3.out.1 hb10).setCell (Nat.le_refl _) _).setCell (Nat.le_refl _) _
              · rw [decide_eq_false hbe, Bool.not_false] at hbl
                try simp only [Act.put, List.setIfInBounds_toArray, List.set_cons_succ, List.set_cons_zero]
                refine wp_region_qb (by kernel_rfl) (by kernel_rfl) ?_
                go_big_quiet_step (fail)
                go_big_quiet_step (fail)
                refine wq_val (o := ⟨some 56, _, _, _, _, _⟩) (v := .int .i64 ((at_ : Int) + 1)) rfl (fun w' hC => by go_simp) ?_
                simp only [Act.put, List.setIfInBounds_toArray, List.set_cons_succ, List.set_cons_zero]
                refine wq_val (o := ⟨some 57, _, _, _, _, _⟩) (v := .string sb) rfl (fun w' hC => by go_simp) ?_
                simp only [Act.put, List.setIfInBounds_toArray, List.set_cons_succ, List.set_cons_zero]
                go_big_quiet_step (fail)
                go_big_quiet_step (fail)
                refine wq_call (f := 64) (args := #[.slice A n c, .slice A4 np c4]) (v := .string se) rfl (fun w' _ => by go_simp) (fun w' hC => cH.out _ A4 c4 (gt HX2.out.1 hC) (HY.out.1.below hC)) ?_
                simp only [Act.put, List.setIfInBounds_toArray, List.set_cons_succ, List.set_cons_zero]
                refine wq_val (o := ⟨some 61, _, _, _, _, _⟩) (v := .bool true) rfl (fun w' hC => by go_simp) ?_
                simp only [Act.put, List.setIfInBounds_toArray, List.set_cons_succ, List.set_cons_zero]
                refine wpQuiet_nil ?_
                intro w6 h6
                have hov := HO.out.1
                rw [if_neg (fun h => hbe (HO.out.2.1 h))] at hov
                have HV := Lib.hid hov
                clear hov hbl hbe
                have HX3 := Lib.hid (And.intro (gt HX2.out.1 h6) (HX2.out.2.grow h6))
                clear h6
                have c0 := HX3.out.2.cell 0
                have c1 := HX3.out.2.cell 1
                have f0 := HX3.out.2.frozen 0
                have f1 := HX3.out.2.frozen 1
                simp only [List.getElem?_cons_succ, List.getElem?_cons_zero] at c0 c1
                go_wp2_with fail
                refine bodyPost_ret (v := .tuple #[claimV 0 [], .int .i64 52]) (by simp [results, Tryd.results39, go_sem, claimV, c0, c1]) rfl ⟨by rw [HV.out], ?_⟩
                exact (HX3.out.1.setCell (Nat.le_refl _) _).setCell (Nat.le_refl _) _
        · have hov := openV_points (k := k) (by rw [← HA.out.2.2.2.1]; omega) (by rw [← HI.out.1]; exact hp1)
          have hpi1 : ¬ (pt : Int) = 1 := by omega
          have HO := Lib.hid hov
          clear hov hp1 htk
          have c0 := HX.out.2.cell 0
          have c1 := HX.out.2.cell 1
          have f0 := HX.out.2.frozen 0
          have f1 := HX.out.2.frozen 1
          simp only [List.getElem?_cons_succ, List.getElem?_cons_zero] at c0 c1
          go_wp2_with fail
          refine bodyPost_ret (v := .tuple #[claimV 0 [], .int .i64 51]) (by simp [results, Tryd.results39, go_sem, claimV, c0, c1]) rfl ⟨by rw [HO.out], ?_⟩
          exact (HX.out.1.setCell (Nat.le_refl _) _).setCell (Nat.le_refl _) _
end Go.Proofs.YtoemceehmiaigaaDoor.Seal
