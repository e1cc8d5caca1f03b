/- A token opened: the program's Open. -/
import Derived.Test.YtoemceehmiaigaaDoorTag
import Derived.Test.YtoemceehmiaigaaDoorContains
import Derived.Test.YtoemceehmiaigaaDoorEqual
namespace Go.Proofs.YtoemceehmiaigaaDoor.Seal
open Go.RowKit Go.Proofs.YtoemceehmiaigaaDoor.Mem Go.Proofs.YtoemceehmiaigaaDoor.Loan Go.Proofs.YtoemceehmiaigaaDoor.Sha Go.Proofs.YtoemceehmiaigaaDoor.Strs
set_option linter.unusedVariables false

/-- What Open answers: the claim's number and text, the error. -/
def openV (k t : List UInt8) : Int × List UInt8 × Int :=
  if 4096 < t.length then (0, [], 1) else
  match cutL 46 t with
  | none => (0, [], 51)
  | some p =>
    match cutL 46 p.2 with
    | some _ => (0, [], 51)
    | none =>
      match dec p.1 with
      | none => (0, [], 50)
      | some pb =>
        match dec p.2 with
        | none => (0, [], 50)
        | some g => if g = hmacf k pb then (unZ pb, unP pb, unE pb) else (0, [], 52)

theorem dec_len {l d : List UInt8} (h : dec l = some d) : d.length ≤ l.length := by
  have h1 := enc_dec l d h
  have h2 := enc_length d
  rw [h1] at h2
  omega

set_option maxRecDepth 40000 in
set_option maxHeartbeats 3200000 in
theorem open_any (k t : List UInt8) (A : Option Addr) (n c : Nat) (w : World) (hn : n = k.length) (ha : RB w A k) (hc : n ≤ c) (hl : n ≤ 17592186044416) (ht : t.length ≤ 1073741824) (hG : GB w) :
    Calls Tryd.prog 36 #[.slice A n c, .string ⟨t.toArray⟩] w fun e w' => e = .returned (.tuple #[claimV (openV k t).1 (openV k t).2.1, .int .i64 (openV k t).2.2]) ∧ Below w.heap.size w w' := by
  obtain ⟨s, hs⟩ : ∃ s, s = (⟨t.toArray⟩ : ByteArray) := ⟨_, rfl⟩
  obtain ⟨m, hm⟩ : ∃ m, m = t.length := ⟨_, rfl⟩
  have hsz : s.size = m := by rw [hs, hm]; simp [ByteArray.size]
  have hmi : (m : Int) ≤ 1073741824 := by omega
  obtain ⟨W1, hW1⟩ : ∃ x, x = w.alloc (.cells #[.int .i64 0, .string ⟨#[]⟩] 72) := ⟨_, rfl⟩
  have hw1 : Below w.heap.size w W1 := hW1 ▸ ga (gr w) _
  have hB1 : Blk W1 w.heap.size 72 [.int .i64 0, .string ⟨#[]⟩] := hW1 ▸ Blk.new w _ _
  have HA := Lib.hid (And.intro hn (And.intro ha (And.intro hc (And.intro hl (And.intro hG hm)))))
  have HX := Lib.hid (And.intro hw1 hB1)
  have HT := Lib.hid hs
  by_cases hlong : 4096 < t.length
  · have hr : openV k t = (0, [], 1) := by unfold openV; rw [if_pos hlong]
    have hlo : 4096 < (m : Int) := by omega
    rw [hr, ← hs]
    clear hn ha hc hl ht hG hs hm hw1 hB1 hlong hr
    go_enter Tryd.func36, Tryd.ntmps36
    go_wp2_with fail
    refine bodyPost_ret (v := .tuple #[claimV 0 [], .int .i64 1]) (by simp [results, Tryd.results36, go_sem, claimV]) rfl ⟨rfl, ?_⟩
    rw [← hW1]
    exact HX.out.1
  · have hlo : (m : Int) ≤ 4096 := by omega
    have cC := Lib.hid (show ∀ W, Calls Tryd.prog 59 #[.string s, .string ⟨#[46]⟩] W (fun e w' => CutPost 46 t e ∧ Below W.heap.size W w') from fun W => by
      rw [hs]; exact cut_one t 46 W (by omega))
    have hov : openV k t = match cutL 46 t with
      | none => (0, [], 51)
      | some p =>
        match cutL 46 p.2 with
        | some _ => (0, [], 51)
        | none =>
          match dec p.1 with
          | none => (0, [], 50)
          | some pb =>
            match dec p.2 with
            | none => (0, [], 50)
            | some g => if g = hmacf k pb then (unZ pb, unP pb, unE pb) else (0, [], 52) := by unfold openV; rw [if_neg hlong]
    rw [← hs]
    clear hs
    cases hcut : cutL 46 t with
    | none =>
      rw [hcut] at hov
      simp only at hov
      rw [hov]
      have cC := Lib.hid (show ∀ W, Calls Tryd.prog 59 #[.string s, .string ⟨#[46]⟩] W (fun e w' => e = .returned (.tuple #[.string ⟨t.toArray⟩, .string ⟨#[]⟩, .bool false]) ∧ Below W.heap.size W w') from fun W => by
        have := cC.out W
        unfold CutPost at this
        rw [hcut] at this
        exact this)
      clear hn ha hc hl ht hG hm hw1 hB1 hlong hov hcut
      go_enter Tryd.func36, Tryd.ntmps36
      go_upto_region 5 with (first
        | (go_at_call 59; go_must (rw [← hW1]; refine (cC.out _).mono ?_); rintro e w2 ⟨rfl, hb2⟩))
      have HX2 := Lib.hid (And.intro (gt HX.out.1 hb2) (HX.out.2.grow hb2))
      clear hb2
      have c0 := HX2.out.2.cell 0
      have c1 := HX2.out.2.cell 1
      have f0 := HX2.out.2.frozen 0
      have f1 := HX2.out.2.frozen 1
      simp only [List.getElem?_cons_succ, List.getElem?_cons_zero] at c0 c1
      go_wp2_with fail
      refine bodyPost_ret (v := .tuple #[claimV 0 [], .int .i64 51]) (by simp [results, Tryd.results36, go_sem, claimV, c0, c1]) rfl ⟨rfl, ?_⟩
      exact (HX2.out.1.setCell (Nat.le_refl _) _).setCell (Nat.le_refl _) _
    | some p =>
      obtain ⟨a, b⟩ := p
      have hab := (cutL_some hcut).1
      have hal : a.length + b.length + 1 = t.length := by rw [hab]; simp; omega
      rw [hcut] at hov
      simp only at hov
      have cC := Lib.hid (show ∀ W, Calls Tryd.prog 59 #[.string s, .string ⟨#[46]⟩] W (fun e w' => e = .returned (.tuple #[.string ⟨a.toArray⟩, .string ⟨b.toArray⟩, .bool true]) ∧ Below W.heap.size W w') from fun W => by
        have := cC.out W
        unfold CutPost at this
        rw [hcut] at this
        exact this)
      have hcb := fun W => contains_one b 46 W
      cases hcut2 : cutL 46 b with
      | some q =>
        rw [hcut2] at hov hcb
        simp only at hov
        rw [hov]
        have cB := Lib.hid (show ∀ W, Calls Tryd.prog 60 #[.string ⟨b.toArray⟩, .string ⟨#[46]⟩] W (fun e w' => e = .returned (.bool true) ∧ w' = W) from hcb)
        clear hn ha hc hl ht hG hm hw1 hB1 hlong hov hcut hab hal hcut2 hcb
        go_enter Tryd.func36, Tryd.ntmps36
        go_upto_region 5 with (first
          | (go_at_call 59; go_must (rw [← hW1]; refine (cC.out _).mono ?_); rintro e w2 ⟨rfl, hb2⟩)
          | (go_at_call 60; go_must (refine (cB.out _).mono ?_); rintro e w3 ⟨rfl, rfl⟩))
        have HX2 := Lib.hid (And.intro (gt HX.out.1 hb2) (HX.out.2.grow hb2))
        clear hb2
        have c0 := HX2.out.2.cell 0
        have c1 := HX2.out.2.cell 1
        have f0 := HX2.out.2.frozen 0
        have f1 := HX2.out.2.frozen 1
        simp only [List.getElem?_cons_succ, List.getElem?_cons_zero] at c0 c1
        go_wp2_with fail
        refine bodyPost_ret (v := .tuple #[claimV 0 [], .int .i64 51]) (by simp [results, Tryd.results36, go_sem, claimV, c0, c1]) rfl ⟨rfl, ?_⟩
        exact (HX2.out.1.setCell (Nat.le_refl _) _).setCell (Nat.le_refl _) _
      | none =>
        rw [hcut2] at hov hcb
        simp only at hov
        have cB := Lib.hid (show ∀ W, Calls Tryd.prog 60 #[.string ⟨b.toArray⟩, .string ⟨#[46]⟩] W (fun e w' => e = .returned (.bool false) ∧ w' = W) from hcb)
        have cD1 := Lib.hid (show ∀ W, Calls Tryd.prog 40 #[.string ⟨a.toArray⟩] W (DecPost W (dec a)) from fun W => decode_any a W (by omega))
        have cD2 := Lib.hid (show ∀ W, Calls Tryd.prog 40 #[.string ⟨b.toArray⟩] W (DecPost W (dec b)) from fun W => decode_any b W (by omega))
        cases hd1 : dec a with
        | none =>
          rw [hd1] at hov cD1
          simp only at hov
          rw [hov]
          clear hn ha hc hl ht hG hm hw1 hB1 hlong hov hcut hab hal hcut2 hcb hd1 cD2
          go_enter Tryd.func36, Tryd.ntmps36
          go_upto_region 8 with (first
            | (go_at_call 59; go_must (rw [← hW1]; refine (cC.out _).mono ?_); rintro e w2 ⟨rfl, hb2⟩)
            | (go_at_call 60; go_must (refine (cB.out _).mono ?_); rintro e w3 ⟨rfl, rfl⟩)
            | (go_at_call 40; go_must (refine (cD1.out _).mono ?_); rintro e w4 ⟨rfl, hb4⟩))
          have HX2 := Lib.hid (And.intro (gt (gt HX.out.1 hb2) hb4) ((HX.out.2.grow hb2).grow hb4))
          clear hb2 hb4
          have c0 := HX2.out.2.cell 0
          have c1 := HX2.out.2.cell 1
          have f0 := HX2.out.2.frozen 0
          have f1 := HX2.out.2.frozen 1
          simp only [List.getElem?_cons_succ, List.getElem?_cons_zero] at c0 c1
          go_wp2_with fail
          refine bodyPost_ret (v := .tuple #[claimV 0 [], .int .i64 50]) (by simp [results, Tryd.results36, go_sem, claimV, c0, c1]) rfl ⟨rfl, ?_⟩
          exact (HX2.out.1.setCell (Nat.le_refl _) _).setCell (Nat.le_refl _) _
        | some pb =>
          rw [hd1] at hov cD1
          simp only at hov
          have hpl := dec_len hd1
          have cD1 := Lib.hid (show ∀ W, Calls Tryd.prog 40 #[.string ⟨a.toArray⟩] W (fun e w' => (∃ A c, e = .returned (.tuple #[.slice A pb.length c, .int .i64 0]) ∧ RB w' A pb ∧ pb.length ≤ c ∧ c ≤ maxLen) ∧ Below W.heap.size W w') from fun W => (cD1.out W).mono fun e w' h => by
            obtain ⟨v, rfl, ho, hb⟩ := h
            obtain ⟨A, n, c, rfl, hn⟩ := own_form ho
            subst hn
            exact ⟨⟨A, c, rfl, own_rb' ho, (own_cap ho).1, (own_cap ho).2⟩, hb⟩)
          cases hd2 : dec b with
          | none =>
            rw [hd2] at hov cD2
            simp only at hov
            rw [hov]
            clear hn ha hc hl ht hG hm hw1 hB1 hlong hov hcut hab hal hcut2 hcb hd1 hd2 hpl
            go_enter Tryd.func36, Tryd.ntmps36
            go_upto_region 6 with (first
              | (go_at_call 59; go_must (rw [← hW1]; refine (cC.out _).mono ?_); rintro e w2 ⟨rfl, hb2⟩)
              | (go_at_call 60; go_must (refine (cB.out _).mono ?_); rintro e w3 ⟨rfl, rfl⟩))
            go_upto_region 9 with (first
              | (go_at_call 40; go_must (refine (cD1.out _).mono ?_); rintro e w4 ⟨⟨A4, c4, rfl, hr4, hc4⟩, hb4⟩))
            go_upto_region 11 with (first
              | (go_at_call 40; go_must (refine (cD2.out _).mono ?_); rintro e w5 ⟨rfl, hb5⟩))
            have HX2 := Lib.hid (And.intro (gt (gt (gt HX.out.1 hb2) hb4) hb5) (((HX.out.2.grow hb2).grow hb4).grow hb5))
            clear hb2 hb4 hb5 hr4 hc4
            have c0 := HX2.out.2.cell 0
            have c1 := HX2.out.2.cell 1
            have f0 := HX2.out.2.frozen 0
            have f1 := HX2.out.2.frozen 1
            simp only [List.getElem?_cons_succ, List.getElem?_cons_zero] at c0 c1
            go_wp2_with fail
            refine bodyPost_ret (v := .tuple #[claimV 0 [], .int .i64 50]) (by simp [results, Tryd.results36, go_sem, claimV, c0, c1]) rfl ⟨rfl, ?_⟩
            exact (HX2.out.1.setCell (Nat.le_refl _) _).setCell (Nat.le_refl _) _
          | some g =>
            rw [hd2] at hov cD2
            simp only at hov
            have hgl := dec_len hd2
            have cD2 := Lib.hid (show ∀ W, Calls Tryd.prog 40 #[.string ⟨b.toArray⟩] W (fun e w' => (∃ A c, e = .returned (.tuple #[.slice A g.length c, .int .i64 0]) ∧ RB w' A g ∧ g.length ≤ c ∧ c ≤ maxLen) ∧ Below W.heap.size W w') from fun W => (cD2.out W).mono fun e w' h => by
              obtain ⟨v, rfl, ho, hb⟩ := h
              obtain ⟨A, n, c, rfl, hn⟩ := own_form ho
              subst hn
              exact ⟨⟨A, c, rfl, own_rb' ho, (own_cap ho).1, (own_cap ho).2⟩, hb⟩)
            obtain ⟨d, hd⟩ : ∃ x, x = hmacf k pb := ⟨_, rfl⟩
            have hdl : d.length = 32 := by rw [hd]; exact hmacf_length _ _
            rw [← hd] at hov
            obtain ⟨np, hnp⟩ : ∃ x, x = pb.length := ⟨_, rfl⟩
            obtain ⟨ng, hng⟩ : ∃ x, x = g.length := ⟨_, rfl⟩
            rw [← hnp] at cD1
            rw [← hng] at cD2
            have cH := Lib.hid (show ∀ W A2 c2, Below w.heap.size w W → RB W A2 pb → np ≤ c2 → Calls Tryd.prog 34 #[.slice A n c, .slice A2 np c2] W (fun e w' => e = .returned (.agg (d.map bv).toArray) ∧ Below W.heap.size W w') from fun W A2 c2 hb hr2 hc2 => by
              rw [hd]; exact phmac_any k pb A A2 n np c c2 W hn hnp (ha.below hb) hr2 hc hc2 hl (by omega) (hG.below hb hG.2))
            have cE := Lib.hid (show ∀ W A1 A2 c1 c2, RB W A1 g → RB W A2 d → Calls Tryd.prog 61 #[.slice A1 ng c1, .slice A2 32 c2] W (fun e w' => e = .returned (.bool (decide (g = d))) ∧ Below W.heap.size W w') from fun W A1 A2 c1 c2 h1 h2 => by
              have h := Equal.any A1 A2 c1 c2 g d W h1 h2 (by unfold maxLen; omega) (by unfold maxLen; omega)
              rw [← hng, hdl] at h
              exact h.mono fun e w' h => ⟨h.1, below_of_drewN h.2 _⟩)
            have cU := Lib.hid (show ∀ W A2 c2, RB W A2 pb → np ≤ c2 → c2 ≤ maxLen → Calls Tryd.prog 43 #[.slice A2 np c2] W (fun e w' => e = .returned (.tuple #[claimV (unZ pb) (unP pb), .int .i64 (unE pb)]) ∧ Below W.heap.size W w') from fun W A2 c2 h1 h2 h3 => unpack_any A2 c2 np pb W h1 hnp h2 h3)
            have k1 : (d.map bv).length = (List.replicate 32 (bv 0)).length := by rw [List.length_map, hdl]; simp
            have p1 : ∀ v ∈ d.map bv, v.oneCell' = true := bytes_oneCell _
            have HD := Lib.hid (And.intro hdl hov)
            clear hn ha hc hl ht hG hm hw1 hB1 hlong hov hcut hab hal hcut2 hcb hd1 hd2 hpl hgl hd hdl hnp hng
            go_enter Tryd.func36, Tryd.ntmps36
            go_upto_region 6 with (first
              | (go_at_call 59; go_must (rw [← hW1]; refine (cC.out _).mono ?_); rintro e w2 ⟨rfl, hb2⟩)
              | (go_at_call 60; go_must (refine (cB.out _).mono ?_); rintro e w3 ⟨rfl, rfl⟩))
            go_upto_region 9 with (first
              | (go_at_call 40; go_must (refine (cD1.out _).mono ?_); rintro e w4 ⟨⟨A4, c4, rfl, hr4, hc4⟩, hb4⟩))
            go_upto_region 12 with (first
              | (go_at_call 40; go_must (refine (cD2.out _).mono ?_); rintro e w5 ⟨⟨A5, c5, rfl, hr5, hc5⟩, hb5⟩))
            have hbb5 := gt (gt (gt HX.out.1 hb2) hb4) hb5
            have hr4' := hr4.below hb5
            go_upto_region 13 with (first
              | (go_at_call 34; go_must (refine (cH.out _ A4 c4 hbb5 hr4' hc4.1).mono ?_); rintro e w6 ⟨rfl, hb6⟩)
              | ((with_reducible show wpList _ _ _ (⟨some 12, _, _, _, _, _⟩ :: _) _ _); go_must (refine wpList_allocB (op := ⟨some 12, _, _, _, _, _⟩) A30 rfl rfl w6.heap.size rfl ?_); intro w7 hB7 hb7 hz7)
              | ((with_reducible show wpList _ _ _ (⟨none, .store 30 (.tmp 12) _, _, _, _, _⟩ :: _) _ _); go_must (refine wpList_storeB (op := ⟨none, _, _, _, _, _⟩) A30 rfl _ _ rfl w6.heap.size 0 rfl (d.map bv) rfl k1 _ _ hB7 (Nat.le_of_eq ((Nat.zero_add _).trans k1)) p1 ?_); intro w8 hB8 hg8 hz8))
            rw [splice_all _ _ k1] at hB8
            have hb58 : Below w5.heap.size w5 w8 := (hb6.trans (hb7.mono hb6.size)).grown hg8 (by have := hb6.size; omega) (fun j hj => by simp at hj; have := hb6.size; omega)
            have hr8 : RB w8 (some ⟨w6.heap.size, 0, none⟩) d := by
              have := hB8.rb 0 32
              rw [List.drop_zero, List.take_of_length_le (by have := HD.out.1; omega)] at this
              exact this
            have HX2 := Lib.hid (And.intro (gt hbb5 hb58) (((HX.out.2.grow hb2).grow hb4).grow hb5 |>.grow hb58))
            have HY := Lib.hid (And.intro hr8 (And.intro (hr5.below hb58) (And.intro (hr4'.below hb58) hc4)))
            generalize w6.heap.size = g12 at *
            clear hb2 hb4 hb5 hr4 hr4' hbb5 hr5 hb6 hb7 hB7 hz7 hB8 hg8 hz8 hb58 hr8 hc4 hc5
            try simp only [Act.put, List.setIfInBounds_toArray, List.set_cons_succ, List.set_cons_zero]
            by_cases hgd : g = d
            · have hov := HD.out.2
              rw [if_pos hgd] at hov
              have HO := Lib.hid hov
              have HG := Lib.hid hgd
              clear hov hgd
              go_upto_region 15 with (first
                | (go_at_call 61; go_must (refine (cE.out _ _ _ _ _ HY.out.2.1 HY.out.1).mono ?_); rintro e w9 ⟨rfl, hb9⟩; rw [decide_eq_true HG.out]))
              have HX3 := Lib.hid (And.intro (gt HX2.out.1 hb9) (HX2.out.2.grow hb9))
              have HY3 := Lib.hid (HY.out.2.2.1.below hb9)
              clear hb9
              obtain ⟨uz, huz⟩ : ∃ x, x = unZ pb := ⟨_, rfl⟩
              obtain ⟨us, hus⟩ : ∃ x : ByteArray, x = ⟨(unP pb).toArray⟩ := ⟨_, rfl⟩
              obtain ⟨ue, hue⟩ : ∃ x, x = unE pb := ⟨_, rfl⟩
              have HU := Lib.hid (And.intro huz (And.intro hus hue))
              have cU := Lib.hid (show ∀ W A2 c2, RB W A2 pb → np ≤ c2 → c2 ≤ maxLen → Calls Tryd.prog 43 #[.slice A2 np c2] W (fun e w' => e = .returned (.tuple #[.agg #[.int .i64 uz, .string us], .int .i64 ue]) ∧ Below W.heap.size W w') from by
                rw [huz, hus, hue]; exact cU.out)
              clear huz hus hue
              have c0 := HX3.out.2.cell 0
              have c1 := HX3.out.2.cell 1
              have f0 := HX3.out.2.frozen 0
              have f1 := HX3.out.2.frozen 1
              simp only [List.getElem?_cons_succ, List.getElem?_cons_zero] at c0 c1
              go_wp2_with (first
                | (go_at_call 43; go_must (refine (cU.out _ _ _ HY3.out HY.out.2.2.2.1 HY.out.2.2.2.2).mono ?_); rintro e w10 ⟨rfl, hb10⟩; replace c0 := cell_grow c0 hb10; replace c1 := cell_grow c1 hb10; replace f0 := (HX3.out.2.grow hb10).frozen 0; replace f1 := (HX3.out.2.grow hb10).frozen 1))
              refine bodyPost_ret (v := .tuple #[.agg #[.int .i64 uz, .string us], .int .i64 ue]) (by simp [results, Tryd.results36, go_sem, claimV, c0, c1]) rfl ⟨by rw [HO.out, HU.out.1, HU.out.2.1, HU.out.2.2]; rfl, ?_⟩
              exact ((gt HX3.out.1 hb10).setCell (Nat.le_refl _) _).setCell (Nat.le_refl _) _
            · have hov := HD.out.2
              rw [if_neg hgd] at hov
              have HO := Lib.hid hov
              have HG := Lib.hid hgd
              clear hov hgd
              go_upto_region 14 with (first
                | (go_at_call 61; go_must (refine (cE.out _ _ _ _ _ HY.out.2.1 HY.out.1).mono ?_); rintro e w9 ⟨rfl, hb9⟩; rw [decide_eq_false HG.out]))
              have HX3 := Lib.hid (And.intro (gt HX2.out.1 hb9) (HX2.out.2.grow hb9))
              clear hb9
              have c0 := HX3.out.2.cell 0
              have c1 := HX3.out.2.cell 1
              have f0 := HX3.out.2.frozen 0
              have f1 := HX3.out.2.frozen 1
              simp only [List.getElem?_cons_succ, List.getElem?_cons_zero] at c0 c1
              go_wp2_with fail
              refine bodyPost_ret (v := .tuple #[claimV 0 [], .int .i64 52]) (by simp [results, Tryd.results36, go_sem, claimV, c0, c1]) rfl ⟨by rw [HO.out], ?_⟩
              exact (HX3.out.1.setCell (Nat.le_refl _) _).setCell (Nat.le_refl _) _
end Go.Proofs.YtoemceehmiaigaaDoor.Seal
