/- Behind Put: what stands under its frame, the rest of a list, a Put whatever the feed's state. -/
import Derived.Test.YtojemdggbcklkaaDoorWRAll
import Derived.Test.YtojemdggbcklkaaDoorWSAll

/- weirref28.Read once more: its rows are new. (Printed by mkwrall2.py.) -/
namespace Go.Proofs.YtojemdggbcklkaaDoor.WireR
open Go.RowKit Go.Proofs.YtojemdggbcklkaaDoor.Mem Go.Proofs.YtojemdggbcklkaaDoor.Wire Go.Proofs.YtojemdggbcklkaaDoor.Strs Go.Proofs.YtojemdggbcklkaaDoor.Heads
set_option linter.unusedVariables false
set_option linter.unusedSimpArgs false
set_option maxRecDepth 4000

def RAllQ (w : World) (r : Except Nat (Req × Nat)) (e : Ending) (w' : World) : Prop :=
  Below w.heap.size w w' ∧ match r with
  | .error er => e = .returned (.tuple #[.agg #[.string ⟨#[]⟩, .string ⟨#[]⟩, .slice none 0 0, .slice none 0 0, .bool false], .int .i64 0, .int .i64 (er : Nat)])
  | .ok (rq, n) => ∃ A k A2 k2, e = .returned (.tuple #[.agg #[.string ⟨rq.method.toArray⟩, .string ⟨rq.target.toArray⟩, .slice A rq.headers.length k, .slice A2 rq.body.length k2, .bool rq.close], .int .i64 (n : Nat), .int .i64 0]) ∧
      RV w' A (hdrV rq.headers) ∧ RB w' A2 rq.body ∧ (∀ ad, A = some ad → ad.spot = none ∧ w.heap.size ≤ ad.block) ∧ (∀ ad, A2 = some ad → w.heap.size ≤ ad.block)
theorem rallq_err {w w' : World} {r : Except Nat (Req × Nat)} {er : Nat} {e : Ending} (h : r = .error er) (hb : Below w.heap.size w w') (he : e = .returned (.tuple #[.agg #[.string ⟨#[]⟩, .string ⟨#[]⟩, .slice none 0 0, .slice none 0 0, .bool false], .int .i64 0, .int .i64 (er : Nat)])) : RAllQ w r e w' := by rw [h]; exact ⟨hb, he⟩
theorem rallq_ok {w w' : World} {r : Except Nat (Req × Nat)} {rq : Req} {n : Nat} {e : Ending} {A A2 : Option Addr} {k k2 : Nat} (h : r = .ok (rq, n)) (hb : Below w.heap.size w w') (he : e = .returned (.tuple #[.agg #[.string ⟨rq.method.toArray⟩, .string ⟨rq.target.toArray⟩, .slice A rq.headers.length k, .slice A2 rq.body.length k2, .bool rq.close], .int .i64 (n : Nat), .int .i64 0])) (hv : RV w' A (hdrV rq.headers)) (hr : RB w' A2 rq.body) (hsp : ∀ ad, A = some ad → ad.spot = none ∧ w.heap.size ≤ ad.block) (hlo : ∀ ad, A2 = some ad → w.heap.size ≤ ad.block) : RAllQ w r e w' := by rw [h]; exact ⟨hb, A, k, A2, k2, he, hv, hr, hsp, hlo⟩
set_option maxHeartbeats 16000000 in
theorem rallq_any (A : Option Addr) (n c : Nat) (raw : List UInt8) (w : World) (hA : RB w A raw) (hn : n = raw.length) (hc : n ≤ c) (hl : n ≤ 1152921504606846976) :
    Calls Tryd.prog 15 #[.slice A n c] w (RAllQ w (readAll raw)) := by
  obtain ⟨s, hs⟩ : ∃ s, s = raw.take 65536 := ⟨_, rfl⟩
  obtain ⟨sn, hsn⟩ : ∃ x, x = s.length := ⟨_, rfl⟩
  have hmin : sn = min n 65536 := by rw [hsn, hs, List.length_take, hn]; omega
  have hR : readAll raw = match readS s with | .err e => .error (if e = 283 ∧ 65536 < n then 284 else e) | .ok r t => .ok (r, s.length - t.length) := by
    rw [hs, hn]; unfold readAll Most; cases readS (raw.take 65536) <;> rfl
  have HR := Lib.hid hR
  have i1 : min (n : Int) 65536 = (sn : Int) := by omega
  have i2 : (0 : Int) ≤ (sn : Int) := by omega
  have i3 : (sn : Int) ≤ (c : Int) := by omega
  obtain ⟨bm, hbm⟩ : ∃ b, b = decide (65536 < n) := ⟨_, rfl⟩
  have i4 : decide ((65536 : Int) < (n : Int)) = bm := by rw [hbm]; congr 1; exact propext (by omega)
  obtain ⟨S, hS⟩ : ∃ S, S = (⟨s.toArray⟩ : ByteArray) := ⟨_, rfl⟩
  have HA := Lib.hid (show RB w A s by rw [hs]; exact hA.take 65536)
  have HS := Lib.hid (And.intro hS (And.intro hsn (And.intro (show s.length ≤ 65536 by omega) hbm)))
  clear hR hA hn hc hl hmin hs hS hsn hbm
  go_enter Tryd.func15, Tryd.ntmps15
  go_upto_region 1 with fail
  obtain ⟨w1, hw1⟩ : ∃ x, x = w.alloc (.cells #[.string ⟨#[]⟩, .string ⟨#[]⟩, .slice none 0 0, .slice none 0 0, .bool false] 30) := ⟨_, rfl⟩
  rw [← hw1]
  have hb1 : Below w.heap.size w w1 := hw1 ▸ ga (gr w) _
  have hB1 : Blk w1 w.heap.size 30 [.string ⟨#[]⟩, .string ⟨#[]⟩, .slice none 0 0, .slice none 0 0, .bool false] := hw1 ▸ Blk.new w _ _
  obtain ⟨H2, hH⟩ : ∃ H, H = w.heap.size := ⟨_, rfl⟩
  rw [← hH] at hB1 ⊢
  have S1 := Lib.hid (QS.mk hb1 hB1 (by omega))
  have v1 : (convert 22 9 (.slice A sn c)).run Tryd.prog w1 = .ok (.string S) w1 := by
    rw [HS.out.2.1, HS.out.1]; exact conv_rb Tryd.underlying22 Tryd.underlying5 Tryd.underlying9 (HA.out.below hb1) c
  clear hb1 hB1 hw1 hH
  have c1 := rread_any s w1 HS.out.2.2.1
  rw [← HS.out.1] at c1
  obtain ⟨r, hr⟩ : ∃ r, r = readS s := ⟨_, rfl⟩
  rw [← hr] at c1
  have HRR := Lib.hid hr
  clear hr
  cases r with
  | err er =>
    have C1 := Lib.hid c1
    clear c1
    by_cases h3 : er = 283
    · have b3 : ((er : Int) == 283) = true := by simp; omega
      have H33 := Lib.hid h3
      clear h3
      cases bm
      · go_wp2_with (first
          | (go_at_call 30; go_must (refine (C1.out).mono ?_); rintro e w2 hp2; obtain ⟨hb2, rfl⟩ := hp2; have S2 := Lib.hid (S1.out.below hb2); clear hb2)
          | ((with_reducible show wpList _ _ _ (⟨some 5, _, _, _, _, _⟩ :: _) _ _); go_must (refine wpList_allocB AR rfl rfl w2.heap.size rfl ?_); intro w3 hB3 hb3 hz3; have H3 := Lib.hid (And.intro hB3 hb3); clear hB3 hb3 hz3)
          | ((with_reducible show wpList _ _ _ (⟨none, .store _ (.tmp 5) _, _, _, _, _⟩ :: _) _ _); go_must (refine wpList_storeB AR rfl (.tmp 5) (.tmp 16) rfl w2.heap.size 0 rfl [.string ⟨#[]⟩, .string ⟨#[]⟩, .slice none 0 0, .slice none 0 0, .bool false] rfl rfl _ _ H3.out.1 (by simp) (by simp [Value.oneCell']) ?_); intro w4 hB4 hg4 hz4
             simp only [splice, List.take_zero, List.nil_append, List.length_cons, List.length_nil, List.drop_succ_cons, List.drop_zero, List.append_nil, Nat.zero_add, List.drop_nil] at hB4
             have S4 := Lib.hid (QS.keep (S2.out.below H3.out.2) hg4 S2.out.h2.lt)
             have B4 := Lib.hid (H3.out.2.grown hg4 H3.out.2.size (fun j hj => by injection hj with hj; omega))
             have H4 := Lib.hid hB4; clear hB4 hg4 hz4)
          | ((with_reducible show wpList _ _ _ (⟨some 26, _, _, _, _, _⟩ :: _) _ _); go_must (refine wpList_loadB AR rfl (.tmp 5) rfl w2.heap.size 0 rfl _ _ H4.out [.string ⟨#[]⟩, .string ⟨#[]⟩, .slice none 0 0, .slice none 0 0, .bool false] (by simp) rfl ?_))
          | ((with_reducible show wpList _ _ _ (⟨none, .store _ (.tmp 2) _, _, _, _, _⟩ :: _) _ _); go_must (refine wpList_storeB AR rfl (.tmp 2) (.tmp 26) rfl H2 0 rfl [.string ⟨#[]⟩, .string ⟨#[]⟩, .slice none 0 0, .slice none 0 0, .bool false] rfl rfl _ _ S4.out.h2 (by simp) (by simp [Value.oneCell']) ?_); intro w9 hB9 hg9 hz9
             have c0 := hB9.cell 0
             have c1 := hB9.cell 1
             have c2 := hB9.cell 2
             have c3 := hB9.cell 3
             have c4 := hB9.cell 4
             simp only [splice, List.take_zero, List.nil_append, List.length_cons, List.length_nil, List.drop_succ_cons, List.drop_zero, List.append_nil, List.getElem?_cons_zero, List.getElem?_cons_succ, Nat.zero_add, List.drop_nil] at c0 c1 c2 c3 c4
             clear hB9 hz9))
        refine bodyPost_ret (v := .tuple #[.agg #[.string ⟨#[]⟩, .string ⟨#[]⟩, .slice none 0 0, .slice none 0 0, .bool false], .int .i64 0, .int .i64 (er : Nat)]) (by simp [results, Tryd.results15, go_sem, c0, c1, c2, c3, c4]) rfl ?_
        exact rallq_err (by rw [HR.out, ← HRR.out]; simp only; rw [if_neg (fun h => absurd h.2 (of_decide_eq_false HS.out.2.2.2.symm))]) (S4.out.low.grown hg9 S4.out.low.size (fun j hj => by injection hj with hj; have := S4.out.h2e; omega)) rfl
      · go_wp2_with (first
          | (go_at_call 30; go_must (refine (C1.out).mono ?_); rintro e w2 hp2; obtain ⟨hb2, rfl⟩ := hp2; have S2 := Lib.hid (S1.out.below hb2); clear hb2)
          | ((with_reducible show wpList _ _ _ (⟨some 5, _, _, _, _, _⟩ :: _) _ _); go_must (refine wpList_allocB AR rfl rfl w2.heap.size rfl ?_); intro w3 hB3 hb3 hz3; have H3 := Lib.hid (And.intro hB3 hb3); clear hB3 hb3 hz3)
          | ((with_reducible show wpList _ _ _ (⟨none, .store _ (.tmp 5) _, _, _, _, _⟩ :: _) _ _); go_must (refine wpList_storeB AR rfl (.tmp 5) (.tmp 16) rfl w2.heap.size 0 rfl [.string ⟨#[]⟩, .string ⟨#[]⟩, .slice none 0 0, .slice none 0 0, .bool false] rfl rfl _ _ H3.out.1 (by simp) (by simp [Value.oneCell']) ?_); intro w4 hB4 hg4 hz4
             simp only [splice, List.take_zero, List.nil_append, List.length_cons, List.length_nil, List.drop_succ_cons, List.drop_zero, List.append_nil, Nat.zero_add, List.drop_nil] at hB4
             have S4 := Lib.hid (QS.keep (S2.out.below H3.out.2) hg4 S2.out.h2.lt)
             have B4 := Lib.hid (H3.out.2.grown hg4 H3.out.2.size (fun j hj => by injection hj with hj; omega))
             have H4 := Lib.hid hB4; clear hB4 hg4 hz4)
          | ((with_reducible show wpList _ _ _ (⟨some 26, _, _, _, _, _⟩ :: _) _ _); go_must (refine wpList_loadB AR rfl (.tmp 5) rfl w2.heap.size 0 rfl _ _ H4.out [.string ⟨#[]⟩, .string ⟨#[]⟩, .slice none 0 0, .slice none 0 0, .bool false] (by simp) rfl ?_))
          | ((with_reducible show wpList _ _ _ (⟨none, .store _ (.tmp 2) _, _, _, _, _⟩ :: _) _ _); go_must (refine wpList_storeB AR rfl (.tmp 2) (.tmp 26) rfl H2 0 rfl [.string ⟨#[]⟩, .string ⟨#[]⟩, .slice none 0 0, .slice none 0 0, .bool false] rfl rfl _ _ S4.out.h2 (by simp) (by simp [Value.oneCell']) ?_); intro w9 hB9 hg9 hz9
             have c0 := hB9.cell 0
             have c1 := hB9.cell 1
             have c2 := hB9.cell 2
             have c3 := hB9.cell 3
             have c4 := hB9.cell 4
             simp only [splice, List.take_zero, List.nil_append, List.length_cons, List.length_nil, List.drop_succ_cons, List.drop_zero, List.append_nil, List.getElem?_cons_zero, List.getElem?_cons_succ, Nat.zero_add, List.drop_nil] at c0 c1 c2 c3 c4
             clear hB9 hz9))
        refine bodyPost_ret (v := .tuple #[.agg #[.string ⟨#[]⟩, .string ⟨#[]⟩, .slice none 0 0, .slice none 0 0, .bool false], .int .i64 0, .int .i64 284]) (by simp [results, Tryd.results15, go_sem, c0, c1, c2, c3, c4]) rfl ?_
        exact rallq_err (by rw [HR.out, ← HRR.out]; simp only; rw [if_pos ⟨H33.out, of_decide_eq_true HS.out.2.2.2.symm⟩]) (S4.out.low.grown hg9 S4.out.low.size (fun j hj => by injection hj with hj; have := S4.out.h2e; omega)) rfl
    · have b3 : ((er : Int) == 283) = false := by rw [beq_eq_false_iff_ne]; omega
      have H33 := Lib.hid h3
      clear h3
      go_wp2_with (first
        | (go_at_call 30; go_must (refine (C1.out).mono ?_); rintro e w2 hp2; obtain ⟨hb2, rfl⟩ := hp2; have S2 := Lib.hid (S1.out.below hb2); clear hb2)
        | ((with_reducible show wpList _ _ _ (⟨some 5, _, _, _, _, _⟩ :: _) _ _); go_must (refine wpList_allocB AR rfl rfl w2.heap.size rfl ?_); intro w3 hB3 hb3 hz3; have H3 := Lib.hid (And.intro hB3 hb3); clear hB3 hb3 hz3)
        | ((with_reducible show wpList _ _ _ (⟨none, .store _ (.tmp 5) _, _, _, _, _⟩ :: _) _ _); go_must (refine wpList_storeB AR rfl (.tmp 5) (.tmp 16) rfl w2.heap.size 0 rfl [.string ⟨#[]⟩, .string ⟨#[]⟩, .slice none 0 0, .slice none 0 0, .bool false] rfl rfl _ _ H3.out.1 (by simp) (by simp [Value.oneCell']) ?_); intro w4 hB4 hg4 hz4
           simp only [splice, List.take_zero, List.nil_append, List.length_cons, List.length_nil, List.drop_succ_cons, List.drop_zero, List.append_nil, Nat.zero_add, List.drop_nil] at hB4
           have S4 := Lib.hid (QS.keep (S2.out.below H3.out.2) hg4 S2.out.h2.lt)
           have B4 := Lib.hid (H3.out.2.grown hg4 H3.out.2.size (fun j hj => by injection hj with hj; omega))
           have H4 := Lib.hid hB4; clear hB4 hg4 hz4)
        | ((with_reducible show wpList _ _ _ (⟨some 26, _, _, _, _, _⟩ :: _) _ _); go_must (refine wpList_loadB AR rfl (.tmp 5) rfl w2.heap.size 0 rfl _ _ H4.out [.string ⟨#[]⟩, .string ⟨#[]⟩, .slice none 0 0, .slice none 0 0, .bool false] (by simp) rfl ?_))
        | ((with_reducible show wpList _ _ _ (⟨none, .store _ (.tmp 2) _, _, _, _, _⟩ :: _) _ _); go_must (refine wpList_storeB AR rfl (.tmp 2) (.tmp 26) rfl H2 0 rfl [.string ⟨#[]⟩, .string ⟨#[]⟩, .slice none 0 0, .slice none 0 0, .bool false] rfl rfl _ _ S4.out.h2 (by simp) (by simp [Value.oneCell']) ?_); intro w9 hB9 hg9 hz9
           have c0 := hB9.cell 0
           have c1 := hB9.cell 1
           have c2 := hB9.cell 2
           have c3 := hB9.cell 3
           have c4 := hB9.cell 4
           simp only [splice, List.take_zero, List.nil_append, List.length_cons, List.length_nil, List.drop_succ_cons, List.drop_zero, List.append_nil, List.getElem?_cons_zero, List.getElem?_cons_succ, Nat.zero_add, List.drop_nil] at c0 c1 c2 c3 c4
           clear hB9 hz9))
      refine bodyPost_ret (v := .tuple #[.agg #[.string ⟨#[]⟩, .string ⟨#[]⟩, .slice none 0 0, .slice none 0 0, .bool false], .int .i64 0, .int .i64 (er : Nat)]) (by simp [results, Tryd.results15, go_sem, c0, c1, c2, c3, c4]) rfl ?_
      exact rallq_err (by rw [HR.out, ← HRR.out]; simp only; rw [if_neg (fun h => H33.out h.1)]) (S4.out.low.grown hg9 S4.out.low.size (fun j hj => by injection hj with hj; have := S4.out.h2e; omega)) rfl
  | ok rq t =>
    obtain ⟨sm, hsm⟩ : ∃ x, x = (⟨rq.method.toArray⟩ : ByteArray) := ⟨_, rfl⟩
    obtain ⟨stg, hst⟩ : ∃ x, x = (⟨rq.target.toArray⟩ : ByteArray) := ⟨_, rfl⟩
    obtain ⟨hm, hhm⟩ : ∃ x, x = rq.headers.length := ⟨_, rfl⟩
    obtain ⟨bl, hbl⟩ : ∃ x, x = rq.body.length := ⟨_, rfl⟩
    obtain ⟨cl, hcl⟩ : ∃ x, x = rq.close := ⟨_, rfl⟩
    obtain ⟨p3, hp3⟩ : ∃ x, x = s.length - t.length := ⟨_, rfl⟩
    unfold RReadPost at c1
    simp only at c1
    rw [← hsm, ← hst, ← hhm, ← hbl, ← hcl, ← hp3] at c1
    have C1 := Lib.hid c1
    have HQ := Lib.hid (And.intro hsm (And.intro hst (And.intro hhm (And.intro hbl (And.intro hcl hp3)))))
    clear c1 hsm hst hhm hbl hcl hp3
    go_wp2_with (first
      | (go_at_call 30; go_must (refine (C1.out).mono ?_); rintro e w2 hp2; obtain ⟨hb2, A5, k5, A7, k7, rfl, hv5, hr7, hsp, hlo⟩ := hp2; have S2 := Lib.hid (S1.out.below hb2); have V2 := Lib.hid (And.intro hv5 (And.intro hr7 (And.intro hsp hlo))); clear hv5 hr7 hsp hlo; clear hb2)
      | ((with_reducible show wpList _ _ _ (⟨some 5, _, _, _, _, _⟩ :: _) _ _); go_must (refine wpList_allocB AR rfl rfl w2.heap.size rfl ?_); intro w3 hB3 hb3 hz3; have H3 := Lib.hid (And.intro hB3 hb3); clear hB3 hb3 hz3)
      | ((with_reducible show wpList _ _ _ (⟨none, .store _ (.tmp 5) _, _, _, _, _⟩ :: _) _ _); go_must (refine wpList_storeB AR rfl (.tmp 5) (.tmp 16) rfl w2.heap.size 0 rfl [.string sm, .string stg, .slice A5 hm k5, .slice A7 bl k7, .bool cl] rfl rfl _ _ H3.out.1 (by simp) (by simp [Value.oneCell']) ?_); intro w4 hB4 hg4 hz4
         simp only [splice, List.take_zero, List.nil_append, List.length_cons, List.length_nil, List.drop_succ_cons, List.drop_zero, List.append_nil, Nat.zero_add, List.drop_nil] at hB4
         have S4 := Lib.hid (QS.keep (S2.out.below H3.out.2) hg4 S2.out.h2.lt)
         have B4 := Lib.hid (H3.out.2.grown hg4 H3.out.2.size (fun j hj => by injection hj with hj; omega))
         have H4 := Lib.hid hB4; clear hB4 hg4 hz4)
      | ((with_reducible show wpList _ _ _ (⟨some 26, _, _, _, _, _⟩ :: _) _ _); go_must (refine wpList_loadB AR rfl (.tmp 5) rfl w2.heap.size 0 rfl _ _ H4.out [.string sm, .string stg, .slice A5 hm k5, .slice A7 bl k7, .bool cl] (by simp) rfl ?_))
      | ((with_reducible show wpList _ _ _ (⟨none, .store _ (.tmp 2) _, _, _, _, _⟩ :: _) _ _); go_must (refine wpList_storeB AR rfl (.tmp 2) (.tmp 26) rfl H2 0 rfl [.string sm, .string stg, .slice A5 hm k5, .slice A7 bl k7, .bool cl] rfl rfl _ _ S4.out.h2 (by simp) (by simp [Value.oneCell']) ?_); intro w9 hB9 hg9 hz9
         have c0 := hB9.cell 0
         have c1 := hB9.cell 1
         have c2 := hB9.cell 2
         have c3 := hB9.cell 3
         have c4 := hB9.cell 4
         simp only [splice, List.take_zero, List.nil_append, List.length_cons, List.length_nil, List.drop_succ_cons, List.drop_zero, List.append_nil, List.getElem?_cons_zero, List.getElem?_cons_succ, Nat.zero_add, List.drop_nil] at c0 c1 c2 c3 c4
         clear hB9 hz9))
    refine bodyPost_ret (v := .tuple #[.agg #[.string sm, .string stg, .slice A5 hm k5, .slice A7 bl k7, .bool cl], .int .i64 (p3 : Int), .int .i64 0]) (by simp [results, Tryd.results15, go_sem, c0, c1, c2, c3, c4]) rfl ?_
    have hlow := (S4.out.low.grown hg9 S4.out.low.size (fun j hj => by injection hj with hj; have := S4.out.h2e; omega))
    refine rallq_ok (rq := rq) (n := p3) (A := A5) (k := k5) (A2 := A7) (k2 := k7) (by rw [HR.out, ← HRR.out, HQ.out.2.2.2.2.2]) hlow (by rw [← HQ.out.1, ← HQ.out.2.1, ← HQ.out.2.2.1, ← HQ.out.2.2.2.1, ← HQ.out.2.2.2.2.1]; try rfl) ?_ ?_ (fun ad e => ⟨(V2.out.2.2.1 ad e).1, by have := (V2.out.2.2.1 ad e).2; have := S1.out.low.size; omega⟩) (fun ad e => by have := V2.out.2.2.2 ad e; have := S1.out.low.size; omega)
    · exact rv_far (V2.out.1.below B4.out) hg9 (fun ad e => by have := (V2.out.2.2.1 ad e).2; have := S1.out.h2.lt; omega)
    · exact RB.grown (V2.out.2.1.below B4.out) (fun _ ad e => by have := V2.out.2.2.2 ad e; have := S1.out.h2.lt; omega) hg9
end Go.Proofs.YtojemdggbcklkaaDoor.WireR

/- weirref28.Feed: what comes of a stream. (Printed by mkwrfeed.py.) -/
namespace Go.Proofs.YtojemdggbcklkaaDoor.WireR
open Go.RowKit Go.Proofs.YtojemdggbcklkaaDoor.Mem Go.Proofs.YtojemdggbcklkaaDoor.Wire Go.Proofs.YtojemdggbcklkaaDoor.Strs Go.Proofs.YtojemdggbcklkaaDoor.Heads
set_option linter.unusedVariables false
set_option linter.unusedSimpArgs false
set_option maxRecDepth 4000

def lenV : Value → Nat
  | .slice _ n _ => n
  | _ => 0
theorem cut_behind {ρ : Operand → Value} {w : World} {o : Oper} {x y : Operand} {A : Option Addr} {n c m : Nat} (ho : o.op = .slice 22 x (some y) none none) (hx : ρ x = .slice A n c) (hy : ρ y = .int .i64 (m : Int)) (hm : m ≤ n) :
    (execOp ρ o).run Tryd.prog w = .ok (.value (.slice (if c = m then A else A.map (·.add m)) (n - m) (c - m))) w := by
  have h := run_slice_l (P := Tryd.prog) (w := w) 22 A n c (by rfl) .i64 (m : Int) (by omega) (by omega)
  have hs : (sizeOf (Tryd.prog.elem 22)).run Tryd.prog w = .ok 1 w := by rfl
  rw [hs] at h
  have e : sliced A (m : Int).toNat n c 1 = .slice (if c = m then A else A.map (·.add m)) (n - m) (c - m) := by
    unfold sliced
    simp
  simp only [Result.andThen, e] at h
  simp [execOp, ho, hx, hy, run_sliceAt_slice, h, Result.andThen, (show Tryd.prog.underlying 22 = some (.slice (Tryd.prog.elem 22)) from rfl)]
theorem wpList_behind {w : World} {ops : Array Oper} {rest : List Oper} {o : Oper} {a : Act} {Q : Exit → Act → World → Prop} (hgd : o.guard = none) (x y : Operand) (ho : o.op = .slice 22 x (some y) none none) {A : Option Addr} {n c m : Nat} (hx : a.eval x = .slice A n c) (hy : a.eval y = .int .i64 (m : Int)) (hm : m ≤ n)
    (h : ∀ D, D = (if c = m then A else A.map (·.add m)) → wpList Tryd.prog ops Q rest (a.put o.dst (.slice D (n - m) (c - m))) w) : wpList Tryd.prog ops Q (o :: rest) a w := by
  refine wpList_plain hgd fun K hK => ?_
  unfold Oper.wp
  rw [cut_behind ho hx hy hm]
  exact hK _ _ (h _ rfl)
theorem rb_behind {w : World} {A : Option Addr} {s : List UInt8} {c l : Nat} (h : RB w A s) (hl : l ≤ s.length) (hc : s.length ≤ c) : RB w (if c = l then A else A.map (·.add l)) (s.drop l) := by
  have := rb_mid (l := l) (m := s.length) h hl (Nat.le_refl _) hc
  rwa [List.take_of_length_le (by rw [List.length_drop]; omega)] at this
structure FdSt (w wr : World) (raw t : Bytes) (v : Value) (l : List Req) (D : Option Addr) (m c : Nat) : Prop where
  rb : RB w D t
  me : m = t.length
  mc : m ≤ c
  low : Below w.heap.size w wr
  rl : RL wr w.heap.size v l
  eq : feedS raw = ⟨l ++ (feedS t).l, (feedS t).rest, (feedS t).e, (feedS t).done⟩
  tl : l.length + t.length ≤ raw.length
theorem RL.lt {w : World} {B : Nat} {v : Value} {rs : List Req} (h : RL w B v rs) : ∀ G, v.ownBlock = some G → G < w.heap.size := fun G e => by
  obtain ⟨rows, h1, _⟩ := h.ex
  exact (h1.lt G e).2
theorem rqc_new {wr w2 w5 : World} {B : Nat} {o : Option Nat} {r : Req} {A1 P1 : Option Addr} {k1 q1 : Nat} (h1 : RV w2 A1 (hdrV r.headers)) (h2 : RB w2 P1 r.body) (h3 : ∀ ad, A1 = some ad → ad.spot = none ∧ wr.heap.size ≤ ad.block) (h4 : ∀ ad, P1 = some ad → wr.heap.size ≤ ad.block)
    (hb : Below w2.heap.size w2 w5) (ho : ∀ G, o = some G → G < wr.heap.size) (hB : B ≤ wr.heap.size) : RqC w5 B o [.string ⟨r.method.toArray⟩, .string ⟨r.target.toArray⟩, .slice A1 r.headers.length k1, .slice P1 r.body.length q1, .bool r.close] r :=
  ⟨A1, k1, P1, q1, rfl, h1.below hb, h2.below hb, fun ad e => (h3 ad e).1, fun _ ad e e2 => by have := (h3 ad e).2; have := ho _ e2.symm; omega, fun _ ad e e2 => by have := h4 ad e; have := ho _ e2.symm; omega, fun ad e => Nat.le_trans hB (h3 ad e).2, fun ad e => Nat.le_trans hB (h4 ad e)⟩
def FeedPost (w : World) (f : Fed) (e : Ending) (w' : World) : Prop :=
  Below w.heap.size w w' ∧ ∃ v, e = .returned (.tuple #[v, .int .i64 (f.rest.length : Nat), .int .i64 (f.e : Nat)]) ∧ RL w' w.heap.size v f.l
set_option maxHeartbeats 16000000 in
theorem rfeed_any (A : Option Addr) (n c : Nat) (raw : List UInt8) (w : World) (hA : RB w A raw) (hn : n = raw.length) (hc : n ≤ c) (hl : n ≤ 16777216) :
    Calls Tryd.prog 24 #[.slice A n c] w (FeedPost w (feedS raw)) := by
  have HA := Lib.hid (And.intro hA (And.intro hn (And.intro hc hl)))
  clear hA hn hc hl
  go_enter Tryd.func24, Tryd.ntmps24
  go_wp2
  go_loopw [0, 5] (fun v0 v5 wr => ∃ (D : Option Addr) (m c : Nat) (t : Bytes) (l : List Req), v0 = .slice D m c ∧ FdSt w wr raw t v5 l D m c) (fun v0 _ _ => lenV v0)
  case atStart => exact ⟨A, n, c, raw, [], rfl, ⟨HA.out.1, HA.out.2.1, HA.out.2.2.1, gr w, RL.nil w _, by simp, by simp⟩⟩
  case round =>
    obtain ⟨D, m, c', t, l, rfl, FS⟩ := hrel
    replace FS := Lib.hid FS
    obtain ⟨A5, k5, hv5, _⟩ := FS.out.rl.slice
    subst hv5
    have cr := rallq_any D m c' t wr (FS.out.rb.below FS.out.low) FS.out.me FS.out.mc (by have := FS.out.tl; have := FS.out.me; have := HA.out; omega)
    have hfe := feedS_eq t
    have heq := FS.out.eq
    cases hr : readAll t with
    | error er =>
      rw [hr] at cr
      have her := all_err hr
      have CR := Lib.hid cr
      rw [hr] at hfe
      simp only at hfe
      by_cases h3 : er = 283
      · rw [if_pos h3] at hfe
        have b3 : ((er : Int) == 283) = true := by simp; omega
        rw [hfe] at heq
        have HE := Lib.hid (And.intro heq FS.out.me)
        clear cr hr her h3 hfe heq
        go_wp2_with (first
          | (go_at_call 15; go_must (refine (CR.out).mono ?_); rintro e w2 hp; obtain ⟨hb, rfl⟩ := hp; have A2 := Lib.hid hb; clear hb)
          | ((with_reducible show wpList _ _ _ (⟨some 6, .alloc _, _, _, _, _⟩ :: _) _ _); go_must (refine wpList_allocB AR rfl rfl w2.heap.size rfl ?_); intro w3 hBx hbx hzx; have H3 := Lib.hid (And.intro hBx hbx); clear hBx hbx hzx)
          | ((with_reducible show wpList _ _ _ (⟨none, .store _ (.tmp 6) _, _, _, _, _⟩ :: _) _ _); go_must (refine wpList_storeB AR rfl (.tmp 6) (.tmp 12) rfl w2.heap.size 0 rfl [.string ⟨#[]⟩, .string ⟨#[]⟩, .slice none 0 0, .slice none 0 0, .bool false] rfl rfl _ _ H3.out.1 (by simp) (by simp [Value.oneCell']) ?_); intro w4 hBy hgy hzy
             simp only [splice, List.take_zero, List.nil_append, List.length_cons, List.length_nil, List.drop_succ_cons, List.drop_zero, List.append_nil, Nat.zero_add, List.drop_nil] at hBy
             have D4 := Lib.hid (H3.out.2.grown hgy H3.out.2.size (fun j hj => by injection hj with hj; omega))
             have C4 := Lib.hid hBy
             have B4 := Lib.hid (gt A2.out D4.out)
             clear hBy hgy hzy))
        go_ret3
        unfold FeedPost
        rw [HE.out.1]
        refine ⟨FS.out.low.trans (B4.out.mono FS.out.low.size), _, by rw [← HE.out.2]; rfl, ?_⟩
        rw [List.append_nil]
        exact FS.out.rl.below B4.out
      · rw [if_neg h3] at hfe
        have b3 : ((er : Int) == 283) = false := by rw [beq_eq_false_iff_ne]; omega
        have b0 : ((er : Int) != 0) = true := by rw [bne_iff_ne]; omega
        have b0' : (er : Int) ≠ 0 := by omega
        rw [hfe] at heq
        have HE := Lib.hid heq
        clear cr hr her h3 hfe heq
        go_wp2_with (first
          | (go_at_call 15; go_must (refine (CR.out).mono ?_); rintro e w2 hp; obtain ⟨hb, rfl⟩ := hp; have A2 := Lib.hid hb; clear hb)
          | ((with_reducible show wpList _ _ _ (⟨some 6, .alloc _, _, _, _, _⟩ :: _) _ _); go_must (refine wpList_allocB AR rfl rfl w2.heap.size rfl ?_); intro w3 hBx hbx hzx; have H3 := Lib.hid (And.intro hBx hbx); clear hBx hbx hzx)
          | ((with_reducible show wpList _ _ _ (⟨none, .store _ (.tmp 6) _, _, _, _, _⟩ :: _) _ _); go_must (refine wpList_storeB AR rfl (.tmp 6) (.tmp 12) rfl w2.heap.size 0 rfl [.string ⟨#[]⟩, .string ⟨#[]⟩, .slice none 0 0, .slice none 0 0, .bool false] rfl rfl _ _ H3.out.1 (by simp) (by simp [Value.oneCell']) ?_); intro w4 hBy hgy hzy
             simp only [splice, List.take_zero, List.nil_append, List.length_cons, List.length_nil, List.drop_succ_cons, List.drop_zero, List.append_nil, Nat.zero_add, List.drop_nil] at hBy
             have D4 := Lib.hid (H3.out.2.grown hgy H3.out.2.size (fun j hj => by injection hj with hj; omega))
             have C4 := Lib.hid hBy
             have B4 := Lib.hid (gt A2.out D4.out)
             clear hBy hgy hzy))
        go_ret3
        unfold FeedPost
        rw [HE.out]
        refine ⟨FS.out.low.trans (B4.out.mono FS.out.low.size), _, rfl, ?_⟩
        rw [List.append_nil]
        exact FS.out.rl.below B4.out
    | ok x =>
      obtain ⟨r, N⟩ := x
      have hok := all_ok hr
      rw [hr] at cr
      obtain ⟨smm, hsm⟩ : ∃ x, x = (⟨r.method.toArray⟩ : ByteArray) := ⟨_, rfl⟩
      obtain ⟨stg, hst⟩ : ∃ x, x = (⟨r.target.toArray⟩ : ByteArray) := ⟨_, rfl⟩
      obtain ⟨hm, hhm⟩ : ∃ x, x = r.headers.length := ⟨_, rfl⟩
      obtain ⟨bl, hbl⟩ : ∃ x, x = r.body.length := ⟨_, rfl⟩
      obtain ⟨cl, hcl⟩ : ∃ x, x = r.close := ⟨_, rfl⟩
      unfold RAllQ at cr
      simp only at cr
      rw [← hsm, ← hst, ← hhm, ← hbl, ← hcl] at cr
      have CR := Lib.hid cr
      rw [hr] at hfe
      simp only at hfe
      rw [← hcl] at hfe
      rw [hfe] at heq
      have HQ := Lib.hid (And.intro hsm (And.intro hst (And.intro hhm (And.intro hbl hcl))))
      have hN := hok.1
      have hNm : N ≤ m := by rw [FS.out.me]; exact hok.2.1
      have hmm : l.length + m ≤ 16777216 := by have := FS.out.tl; have := FS.out.me; have := HA.out; omega
      have HN := Lib.hid (And.intro hN (And.intro hNm hmm))
      clear cr hr hok hfe hsm hst hhm hbl hcl hN hNm hmm
      cases cl
      · rw [if_neg (by simp)] at heq
        have HE := Lib.hid heq
        clear heq
        go_wp2_with (first
          | (go_at_call 15; go_must (refine (CR.out).mono ?_); rintro e w2 hp; obtain ⟨hb, A1, k1, P1, q1, rfl, rv1, rb1, sp1, lo1⟩ := hp; have A2 := Lib.hid hb; have R1 := Lib.hid (And.intro rv1 (And.intro rb1 (And.intro sp1 lo1))); clear rv1 rb1 sp1 lo1; clear hb)
          | ((with_reducible show wpList _ _ _ (⟨some 6, .alloc _, _, _, _, _⟩ :: _) _ _); go_must (refine wpList_allocB AR rfl rfl w2.heap.size rfl ?_); intro w3 hBx hbx hzx; have H3 := Lib.hid (And.intro hBx hbx); clear hBx hbx hzx)
          | ((with_reducible show wpList _ _ _ (⟨none, .store _ (.tmp 6) _, _, _, _, _⟩ :: _) _ _); go_must (refine wpList_storeB AR rfl (.tmp 6) (.tmp 12) rfl w2.heap.size 0 rfl [.string smm, .string stg, .slice A1 hm k1, .slice P1 bl q1, .bool false] rfl rfl _ _ H3.out.1 (by simp) (by simp [Value.oneCell']) ?_); intro w4 hBy hgy hzy
             simp only [splice, List.take_zero, List.nil_append, List.length_cons, List.length_nil, List.drop_succ_cons, List.drop_zero, List.append_nil, Nat.zero_add, List.drop_nil] at hBy
             have D4 := Lib.hid (H3.out.2.grown hgy H3.out.2.size (fun j hj => by injection hj with hj; omega))
             have C4 := Lib.hid hBy
             have B4 := Lib.hid (gt A2.out D4.out)
             clear hBy hgy hzy)
          | ((with_reducible show wpList _ _ _ (⟨some 25, _, _, _, _, _⟩ :: _) _ _); go_must (refine wpList_loadB AR rfl (.tmp 6) rfl w2.heap.size 0 rfl _ _ C4.out [.string smm, .string stg, .slice A1 hm k1, .slice P1 bl q1, .bool false] (by simp) rfl ?_))
          | ((with_reducible show wpList _ _ _ (⟨some 26, _, _, _, _, _⟩ :: _) _ _); go_must (refine wpList_build1 ER rfl (.tmp 25) rfl (by simp) [.string smm, .string stg, .slice A1 hm k1, .slice P1 bl q1, .bool false] rfl rfl w4.heap.size rfl ?_); intro w5 hB5 hb5 hz5; have C5 := Lib.hid hB5; have F5 := Lib.hid hb5; have B5 := Lib.hid (gt B4.out hb5); have E5 := Lib.hid (gt D4.out hb5); clear hB5 hb5 hz5; obtain ⟨rows, hown, hall⟩ := (FS.out.rl.below B5.out).ex; have O5 := Lib.hid (And.intro hown hall); clear hown hall)
          | ((with_reducible show wpList _ _ _ (⟨some 27, _, _, _, _, _⟩ :: _) _ _); go_must (refine wpList_app ER rfl (.tmp 24) (.tmp 26) rfl w.heap.size (.slice A5 l.length k5) l.length rows.flatten rfl O5.out.1 (some ⟨w4.heap.size, 0, none⟩) 1 1 [.string smm, .string stg, .slice A1 hm k1, .slice P1 bl q1, .bool false] rfl C5.out.rv rfl (by intro u hu; simp at hu; rcases hu with rfl | rfl | rfl | rfl | rfl <;> rfl) (by have := HN.out; unfold maxLen; omega) (by have := HN.out; omega) (by have := FS.out.low.size; have := B5.out.size; omega) ?_); intro v6 w6 ho6 hg6 hv6
             have RC := rqc_new (k1 := k1) (q1 := q1) R1.out.1 R1.out.2.1 R1.out.2.2.1 R1.out.2.2.2 E5.out (FS.out.rl.lt) FS.out.low.size
             rw [← HQ.out.1, ← HQ.out.2.1, ← HQ.out.2.2.1, ← HQ.out.2.2.2.1, ← HQ.out.2.2.2.2] at RC
             have R6 := Lib.hid (RL.push (r := r) O5.out.2 RC ho6 hg6 hv6)
             have B6 := Lib.hid (below_own (FS.out.low.trans (B5.out.mono FS.out.low.size)) O5.out.1 hg6 (by have := FS.out.low.size; have := B5.out.size; omega))
             have C6 := (C4.out.grow F5.out).grown hg6 (fun e => by have := FS.out.rl.lt _ e.symm; have := A2.out.size; omega)
             have d4 := C6.cell 4
             simp only [List.getElem?_cons_succ, List.getElem?_cons_zero] at d4
             clear C6
             obtain ⟨A6, k6, rfl, _⟩ := R6.out.slice
             clear ho6 hg6 hv6)
          | ((with_reducible show wpList _ _ _ (⟨some 33, _, _, _, _, _⟩ :: _) _ _); go_must (refine wpList_behind rfl (.tmp 31) (.tmp 32) rfl rfl rfl HN.out.2.1 ?_); intro D9 hD9; have HD9 := Lib.hid hD9; clear hD9))
        have hNl : N ≤ t.length := by have := HN.out; have := FS.out.me; omega
        refine ⟨⟨D9, m - N, c' - N, t.drop N, l ++ [r], rfl, ⟨?_, ?_, ?_, B6.out, by have := R6.out; rw [List.length_append] at this; exact this, ?_, ?_⟩⟩, ?_⟩
        · rw [HD9.out]; exact rb_behind FS.out.rb hNl (by have := FS.out.me; have := FS.out.mc; omega)
        · rw [List.length_drop, FS.out.me]
        · have := FS.out.mc; omega
        · rw [HE.out]; unfold Fed.cons; simp
        · rw [List.length_append, List.length_drop]; have := FS.out.tl; have := HN.out; simp; omega
        · simp only [lenV]; have := HN.out; omega
      · rw [if_pos rfl] at heq
        have HE := Lib.hid heq
        clear heq
        go_wp2_with (first
          | (go_at_call 15; go_must (refine (CR.out).mono ?_); rintro e w2 hp; obtain ⟨hb, A1, k1, P1, q1, rfl, rv1, rb1, sp1, lo1⟩ := hp; have A2 := Lib.hid hb; have R1 := Lib.hid (And.intro rv1 (And.intro rb1 (And.intro sp1 lo1))); clear rv1 rb1 sp1 lo1; clear hb)
          | ((with_reducible show wpList _ _ _ (⟨some 6, .alloc _, _, _, _, _⟩ :: _) _ _); go_must (refine wpList_allocB AR rfl rfl w2.heap.size rfl ?_); intro w3 hBx hbx hzx; have H3 := Lib.hid (And.intro hBx hbx); clear hBx hbx hzx)
          | ((with_reducible show wpList _ _ _ (⟨none, .store _ (.tmp 6) _, _, _, _, _⟩ :: _) _ _); go_must (refine wpList_storeB AR rfl (.tmp 6) (.tmp 12) rfl w2.heap.size 0 rfl [.string smm, .string stg, .slice A1 hm k1, .slice P1 bl q1, .bool true] rfl rfl _ _ H3.out.1 (by simp) (by simp [Value.oneCell']) ?_); intro w4 hBy hgy hzy
             simp only [splice, List.take_zero, List.nil_append, List.length_cons, List.length_nil, List.drop_succ_cons, List.drop_zero, List.append_nil, Nat.zero_add, List.drop_nil] at hBy
             have D4 := Lib.hid (H3.out.2.grown hgy H3.out.2.size (fun j hj => by injection hj with hj; omega))
             have C4 := Lib.hid hBy
             have B4 := Lib.hid (gt A2.out D4.out)
             clear hBy hgy hzy)
          | ((with_reducible show wpList _ _ _ (⟨some 25, _, _, _, _, _⟩ :: _) _ _); go_must (refine wpList_loadB AR rfl (.tmp 6) rfl w2.heap.size 0 rfl _ _ C4.out [.string smm, .string stg, .slice A1 hm k1, .slice P1 bl q1, .bool true] (by simp) rfl ?_))
          | ((with_reducible show wpList _ _ _ (⟨some 26, _, _, _, _, _⟩ :: _) _ _); go_must (refine wpList_build1 ER rfl (.tmp 25) rfl (by simp) [.string smm, .string stg, .slice A1 hm k1, .slice P1 bl q1, .bool true] rfl rfl w4.heap.size rfl ?_); intro w5 hB5 hb5 hz5; have C5 := Lib.hid hB5; have F5 := Lib.hid hb5; have B5 := Lib.hid (gt B4.out hb5); have E5 := Lib.hid (gt D4.out hb5); clear hB5 hb5 hz5; obtain ⟨rows, hown, hall⟩ := (FS.out.rl.below B5.out).ex; have O5 := Lib.hid (And.intro hown hall); clear hown hall)
          | ((with_reducible show wpList _ _ _ (⟨some 27, _, _, _, _, _⟩ :: _) _ _); go_must (refine wpList_app ER rfl (.tmp 24) (.tmp 26) rfl w.heap.size (.slice A5 l.length k5) l.length rows.flatten rfl O5.out.1 (some ⟨w4.heap.size, 0, none⟩) 1 1 [.string smm, .string stg, .slice A1 hm k1, .slice P1 bl q1, .bool true] rfl C5.out.rv rfl (by intro u hu; simp at hu; rcases hu with rfl | rfl | rfl | rfl | rfl <;> rfl) (by have := HN.out; unfold maxLen; omega) (by have := HN.out; omega) (by have := FS.out.low.size; have := B5.out.size; omega) ?_); intro v6 w6 ho6 hg6 hv6
             have RC := rqc_new (k1 := k1) (q1 := q1) R1.out.1 R1.out.2.1 R1.out.2.2.1 R1.out.2.2.2 E5.out (FS.out.rl.lt) FS.out.low.size
             rw [← HQ.out.1, ← HQ.out.2.1, ← HQ.out.2.2.1, ← HQ.out.2.2.2.1, ← HQ.out.2.2.2.2] at RC
             have R6 := Lib.hid (RL.push (r := r) O5.out.2 RC ho6 hg6 hv6)
             have B6 := Lib.hid (below_own (FS.out.low.trans (B5.out.mono FS.out.low.size)) O5.out.1 hg6 (by have := FS.out.low.size; have := B5.out.size; omega))
             have C6 := (C4.out.grow F5.out).grown hg6 (fun e => by have := FS.out.rl.lt _ e.symm; have := A2.out.size; omega)
             have d4 := C6.cell 4
             simp only [List.getElem?_cons_succ, List.getElem?_cons_zero] at d4
             clear C6
             obtain ⟨A6, k6, rfl, _⟩ := R6.out.slice
             clear ho6 hg6 hv6))
        go_ret3
        unfold FeedPost
        rw [HE.out]
        exact ⟨B6.out, .slice A6 (l.length + 1) k6, rfl, by have := R6.out; rw [List.length_append] at this; exact this⟩
end Go.Proofs.YtojemdggbcklkaaDoor.WireR

/- Feed.Put: what comes of a piece. (Printed by mkwput.py.) -/
namespace Go.Proofs.YtojemdggbcklkaaDoor.WireR
open Go.RowKit Go.Proofs.YtojemdggbcklkaaDoor.Mem Go.Proofs.YtojemdggbcklkaaDoor.Wire Go.Proofs.YtojemdggbcklkaaDoor.Strs Go.Proofs.YtojemdggbcklkaaDoor.Heads
set_option linter.unusedVariables false
set_option linter.unusedSimpArgs false
set_option maxRecDepth 4000

/-- a feed at G: what it holds is a row of its own from B on -/
structure FeedAt (w : World) (G B : Nat) (v : Value) (held : Bytes) (done : Bool) (fault : Nat) : Prop where
  blk : Blk w G 78 [v, .bool done, .int .i64 (fault : Int)]
  own : w.ownsRow B 5 1 v held.length (held.map bv)
  gb : G < B
theorem FeedAt.below {w w' : World} {G B : Nat} {v : Value} {held : Bytes} {done : Bool} {fault : Nat} (h : FeedAt w G B v held done fault) (hb : Below w.heap.size w w') : FeedAt w' G B v held done fault := ⟨h.blk.grow hb, own_below' h.own hb, h.gb⟩
set_option maxHeartbeats 4000000 in
theorem put_done {w : World} {G B : Nat} {v : Value} {held : Bytes} {fault : Nat} (h : FeedAt w G B v held true fault) (P : Value) :
    Calls Tryd.prog 21 #[.pointer (some ⟨G, 0, none⟩), P] w fun e w' => e = .returned (.tuple #[.slice none 0 0, .int .i64 (fault : Int)]) ∧ Below w.heap.size w w' := by
  have d1 := h.blk.cell 1
  have d2 := h.blk.cell 2
  simp only [List.getElem?_cons_succ, List.getElem?_cons_zero] at d1 d2
  clear h
  go_enter Tryd.func21, Tryd.ntmps21
  go_upto_region 4 with fail
  try simp only [Act.put, List.setIfInBounds_toArray, List.set_cons_succ, List.set_cons_zero]
  refine wp_region_qb (by kernel_rfl) (by kernel_rfl) ?_
  refine wq_val (o := ⟨some 17, _, _, _, _, _⟩) (v := .pointer (some ⟨G, 0, none⟩)) rfl (fun w' hC => by go_simp) ?_
  simp only [Act.put, List.setIfInBounds_toArray, List.set_cons_succ, List.set_cons_zero]
  refine wq_val (o := ⟨some 18, _, _, _, _, _⟩) (v := .pointer (some ⟨G, 0, none⟩)) rfl (fun w' hC => by go_simp) ?_
  simp only [Act.put, List.setIfInBounds_toArray, List.set_cons_succ, List.set_cons_zero]
  refine wq_val (o := ⟨some 19, _, _, _, _, _⟩) (v := .pointer (some ⟨G, 2, none⟩)) rfl (fun w' hC => by go_simp) ?_
  simp only [Act.put, List.setIfInBounds_toArray, List.set_cons_succ, List.set_cons_zero]
  refine wq_val (o := ⟨some 20, _, _, _, _, _⟩) (v := .int .i64 (fault : Int)) rfl (fun w' hC => by have := cell_grow d2 hC; go_simp) ?_
  simp only [Act.put, List.setIfInBounds_toArray, List.set_cons_succ, List.set_cons_zero]
  refine wq_val (o := ⟨some 4, _, _, _, _, _⟩) (v := .slice none 0 0) rfl (fun w' hC => by go_simp) ?_
  simp only [Act.put, List.setIfInBounds_toArray, List.set_cons_succ, List.set_cons_zero]
  refine wq_val (o := ⟨some 5, _, _, _, _, _⟩) (v := .int .i64 (fault : Int)) rfl (fun w' hC => by go_simp) ?_
  simp only [Act.put, List.setIfInBounds_toArray, List.set_cons_succ, List.set_cons_zero]
  refine wpQuiet_nil ?_
  intro w5 h5
  clear d1 d2
  go_wp2
  go_ret2
  exact ⟨rfl, h5⟩
set_option maxHeartbeats 1000000 in
theorem put_nil (P : Value) (w : World) : Calls Tryd.prog 21 #[.pointer none, P] w fun e w' => e = .returned (.tuple #[.slice none 0 0, .int .i64 2]) ∧ w = w' := by
  go_enter Tryd.func21, Tryd.ntmps21
  go_wp2
  go_ret2
  exact ⟨rfl, rfl⟩
set_option maxHeartbeats 1000000 in
theorem rest_nil (w : World) : Calls Tryd.prog 23 #[.pointer none] w fun e w' => e = .returned (.int .i64 0) ∧ w = w' := by
  go_enter Tryd.func23, Tryd.ntmps23
  go_wp2
  go_ret
  exact ⟨rfl, rfl⟩
set_option maxHeartbeats 1000000 in
theorem rest_any {w : World} {G B : Nat} {v : Value} {held : Bytes} {done : Bool} {fault : Nat} (h : FeedAt w G B v held done fault) :
    Calls Tryd.prog 23 #[.pointer (some ⟨G, 0, none⟩)] w fun e w' => e = .returned (.int .i64 (held.length : Nat)) ∧ w = w' := by
  obtain ⟨A, c, rfl, _⟩ := own_slice h.own
  have d0 := h.blk.cell 0
  simp only [List.getElem?_cons_zero] at d0
  obtain ⟨n, hn⟩ : ∃ n, n = held.length := ⟨_, rfl⟩
  rw [← hn] at d0 ⊢
  clear h hn
  go_enter Tryd.func23, Tryd.ntmps23
  go_wp2
  go_ret
  exact ⟨rfl, rfl⟩
set_option maxHeartbeats 1000000 in
theorem new_any (w : World) : Calls Tryd.prog 22 #[] w fun e w' => e = .returned (.pointer (some ⟨w.heap.size, 0, none⟩)) ∧ Blk w' w.heap.size 78 [.slice none 0 0, .bool false, .int .i64 0] ∧ Below w.heap.size w w' := by
  go_enter Tryd.func22, Tryd.ntmps22
  go_wp2_with (first
    | ((with_reducible show wpList _ _ _ (⟨some 2, _, _, _, _, _⟩ :: _) _ _); go_must (refine wpList_boxB rfl (.tmp 1) rfl [.slice none 0 0, .bool false, .int .i64 0] rfl w.heap.size rfl ?_); intro w1 hB1 hb1 hz1; have H1 := Lib.hid (And.intro hB1 hb1); clear hB1 hb1 hz1))
  go_ret
  exact ⟨rfl, H1.out.1, H1.out.2⟩
structure Fr (G : Nat) (o : Option Nat) (w w' : World) : Prop where
  os : w'.os = w.os
  tape : w'.tape = w.tape
  output : w'.output = w.output
  size : w.heap.size ≤ w'.heap.size
  block : ∀ k, k < w.heap.size → k ≠ G → some k ≠ o → w'.heap[k]? = w.heap[k]?
theorem Fr.grown {G : Nat} {o : Option Nat} {w w1 w2 : World} (h : Fr G o w w1) (hg : w1.grownBy w2 (some G)) : Fr G o w w2 :=
  ⟨hg.os.trans h.os, hg.tape.trans h.tape, hg.output.trans h.output, Nat.le_trans h.size hg.size, fun k hk hne ho => (hg.block k (Nat.lt_of_lt_of_le hk h.size) (fun e => hne (by injection e))).trans (h.block k hk hne ho)⟩
theorem Fr.below {G B : Nat} {o : Option Nat} {w w1 w2 : World} (h : Fr G o w w1) (hb : Below B w1 w2) (hB : w.heap.size ≤ B) : Fr G o w w2 :=
  ⟨hb.os.trans h.os, hb.tape.trans h.tape, hb.output.trans h.output, Nat.le_trans h.size hb.size, fun k hk hne ho => (hb.block k (by omega)).trans (h.block k hk hne ho)⟩
theorem Fr.of {G : Nat} {o : Option Nat} {w w1 : World} (hg : w.grownBy w1 o) : Fr G o w w1 := ⟨hg.os, hg.tape, hg.output, hg.size, fun k hk _ ho => hg.block k hk ho⟩
theorem RL.base {w : World} {B B' : Nat} {v : Value} {rs : List Req} (h : RL w B' v rs) (hb : B ≤ B') : RL w B v rs := by
  obtain ⟨rows, h1, h2⟩ := h.ex
  refine ⟨rows, own_base h1 hb, h2.imp (fun _ _ x => ?_)⟩
  obtain ⟨A, k, A2, k2, e, x1, x2, x3, x4, x5, x6, x7⟩ := x
  exact ⟨A, k, A2, k2, e, x1, x2, x3, x4, x5, fun ad ea => Nat.le_trans hb (x6 ad ea), fun ad ea => Nat.le_trans hb (x7 ad ea)⟩
def PutPost (w : World) (G : Nat) (o : Option Nat) (f : Fed) (e : Ending) (w' : World) : Prop :=
  Fr G o w w' ∧ ∃ v v0, e = .returned (.tuple #[v, .int .i64 (f.e : Nat)]) ∧ RL w' w.heap.size v f.l ∧ FeedAt w' G w.heap.size v0 f.rest f.done f.e
structure PtSt (W wr : World) (buf : Bytes) (v : Value) (l : List Req) (at_ : Nat) : Prop where
  le : at_ ≤ buf.length
  low : Below W.heap.size W wr
  rl : RL wr W.heap.size v l
  eq : feedS buf = ⟨l ++ (feedS (buf.drop at_)).l, (feedS (buf.drop at_)).rest, (feedS (buf.drop at_)).e, (feedS (buf.drop at_)).done⟩
  tl : l.length ≤ at_
set_option maxHeartbeats 16000000 in
theorem put_any {w : World} {G B : Nat} {v : Value} {held : Bytes} (h : FeedAt w G B v held false 0) (P : Option Addr) (pn pc : Nat) (piece : Bytes) (hP : RB w P piece) (hpn : pn = piece.length) (hB : B ≤ w.heap.size) (hbig : held.length + piece.length ≤ 16777216) :
    Calls Tryd.prog 21 #[.pointer (some ⟨G, 0, none⟩), .slice P pn pc] w (PutPost w G v.ownBlock (feedS (held ++ piece))) := by
  obtain ⟨H0, hc, rfl, hhc⟩ := own_slice h.own
  have d0 := h.blk.cell 0
  have d1 := h.blk.cell 1
  simp only [List.getElem?_cons_succ, List.getElem?_cons_zero] at d0 d1
  obtain ⟨hl, hhl⟩ : ∃ n, n = held.length := ⟨_, rfl⟩
  have hne : ∀ X, (Value.slice H0 held.length hc).ownBlock = some X → G < X := fun X e => Nat.lt_of_lt_of_le h.gb (h.own.lt X e).1
  rw [← hhl] at d0 hne ⊢
  have hown := h.own
  rw [← hhl] at hown
  have HH := Lib.hid (And.intro h (And.intro hown (And.intro hP (And.intro hpn (And.intro hB (And.intro hbig (And.intro hhl hne)))))))
  obtain ⟨buf, hbuf⟩ : ∃ b, b = held ++ piece := ⟨_, rfl⟩
  obtain ⟨nb, hnb⟩ : ∃ b, b = buf.length := ⟨_, rfl⟩
  have hnb2 : hl + pn = nb := by rw [hnb, hbuf, List.length_append, hhl, hpn]
  rw [← hbuf]
  have HN := Lib.hid (And.intro hbuf (And.intro hnb (And.intro hnb2 (show nb ≤ 16777216 by omega))))
  clear h hown hP hpn hB hbig hhl hhc hbuf hnb hnb2 hne
  go_enter Tryd.func21, Tryd.ntmps21
  go_upto_region 6 with (first
    | ((with_reducible show wpList _ _ _ (⟨some 27, _, _, _, _, _⟩ :: _) _ _); go_must (refine wpList_app EB rfl (.tmp 25) (.tmp 26) rfl B (.slice H0 hl hc) hl (held.map bv) rfl HH.out.2.1 P pn pc (piece.map bv) rfl HH.out.2.2.1.rv (by rw [List.length_map, HH.out.2.2.2.1]; simp) (by intro u hu; rw [List.mem_map] at hu; obtain ⟨_, _, rfl⟩ := hu; rfl) (by have := HN.out; unfold maxLen; omega) (by have := HN.out; omega) HH.out.2.2.2.2.1 ?_); intro v1 w1 ho1 hg1 hv1
       have hBk := HH.out.1.blk.grown hg1 (fun e => by have := HH.out.2.2.2.2.2.2.2 G e.symm; omega)
       have e0 := hBk.cell 0
       have g0 := hBk.frozen 0
       simp only [List.getElem?_cons_zero] at e0
       have ho1' : w1.ownsRow B 5 1 v1 nb (buf.map bv) := by rw [HN.out.1, List.map_append, ← HN.out.2.2.1]; exact ho1
       obtain ⟨S1, cb, rfl, hcb⟩ := own_slice ho1'
       have H1 := Lib.hid (And.intro ho1' (And.intro hg1 (And.intro hBk hcb)))
       clear ho1 ho1' hg1 hv1 hBk hcb d0))
  obtain ⟨W, hW⟩ : ∃ x, x = w1.setCell ⟨G, 0, none⟩ (.slice S1 nb cb) := ⟨_, rfl⟩
  rw [← hW]
  have HG : Blk W G 78 [.slice S1 nb cb, .bool false, .int .i64 0] := hW ▸ H1.out.2.2.1.set_ 0 _
  have HO : W.ownsRow B 5 1 (.slice S1 nb cb) nb (buf.map bv) := hW ▸ own_line H1.out.1 (grownBy_set w1 G 0 _) HH.out.1.gb
  have HF : Fr G (Value.slice H0 hl hc).ownBlock w W := hW ▸ (Fr.of H1.out.2.1).grown (grownBy_set w1 G 0 _)
  have SW := Lib.hid (And.intro HG (And.intro HO (And.intro HF H1.out.2.2.2)))
  clear HG HO HF hW d1 e0 g0
  go_wp2
  go_loopw [6, 7] (fun v6 v7 wr => ∃ (a : Nat) (l : List Req), v7 = .int .i64 a ∧ PtSt W wr buf v6 l a) (fun _ v7 _ => nb - (intOf v7).toNat)
  case atStart => exact ⟨0, [], rfl, ⟨Nat.zero_le _, gr W, RL.nil W _, by simp, by simp⟩⟩
  case round =>
    obtain ⟨a, l, rfl, FS⟩ := hrel
    replace FS := Lib.hid FS
    obtain ⟨A5, k5, hv5, _⟩ := FS.out.rl.slice
    subst hv5
    obtain ⟨D9, hD9⟩ : ∃ D, D = (if cb = a then S1 else S1.map (·.add a)) := ⟨_, rfl⟩
    have hanb : a ≤ nb := by have := FS.out.le; have := HN.out.2.1; omega
    have hrb : RB wr D9 (buf.drop a) := by
      rw [hD9]; exact rb_behind (((own_rv SW.out.2.1).rb).below FS.out.low) FS.out.le (by have := HN.out.2.1; have := SW.out.2.2.2; omega)
    obtain ⟨t, ht⟩ : ∃ t, t = buf.drop a := ⟨_, rfl⟩
    obtain ⟨tn, htn⟩ : ∃ x, x = nb - a := ⟨_, rfl⟩
    have htl : tn = t.length := by rw [ht, List.length_drop, htn, HN.out.2.1]
    have heq := FS.out.eq
    rw [← ht] at hrb heq
    have cr := read_any D9 tn (cb - a) t wr hrb htl (by have := SW.out.2.2.2; omega) (by have := HN.out; omega)
    have hfe := feedS_eq t
    have d0 := (SW.out.1.grow FS.out.low).cell 0
    simp only [List.getElem?_cons_zero] at d0
    have HD9 := Lib.hid hD9
    have HA9 := Lib.hid hanb
    have HT := Lib.hid (And.intro ht (And.intro htl (And.intro htn hrb)))
    clear hD9 hanb hrb ht htl htn
    cases hr : readAll t with
    | error er =>
      rw [hr] at cr
      have her := all_err hr
      have CR := Lib.hid cr
      rw [hr] at hfe
      simp only at hfe
      by_cases h3 : er = 283
      · rw [if_pos h3] at hfe
        have b3 : ((er : Int) == 283) = true := by simp; omega
        rw [hfe] at heq
        have HE := Lib.hid heq
        clear cr hr her h3 hfe heq
        go_upto_region 9 with (first
          | ((with_reducible show wpList _ _ _ (⟨some 36, _, _, _, _, _⟩ :: _) _ _); go_must (refine wpList_behind rfl (.tmp 34) (.tmp 35) rfl rfl rfl HA9.out ?_); intro D9' hD9'; obtain rfl : D9 = D9' := HD9.out.trans hD9'.symm; clear hD9'; rw [← HT.out.2.2.1])
          | (go_at_call 16; go_must (refine (CR.out).mono ?_); rintro e w2 hp; obtain ⟨hb, rfl⟩ := hp; have A2 := Lib.hid hb; clear hb)
          | ((with_reducible show wpList _ _ _ (⟨some 8, .alloc _, _, _, _, _⟩ :: _) _ _); go_must (refine wpList_allocB AR rfl rfl w2.heap.size rfl ?_); intro w3 hBx hbx hzx; have H3 := Lib.hid (And.intro hBx hbx); clear hBx hbx hzx)
          | ((with_reducible show wpList _ _ _ (⟨none, .store _ (.tmp 8) _, _, _, _, _⟩ :: _) _ _); go_must (refine wpList_storeB AR rfl (.tmp 8) (.tmp 38) rfl w2.heap.size 0 rfl [.string ⟨#[]⟩, .string ⟨#[]⟩, .slice none 0 0, .slice none 0 0, .bool false] rfl rfl _ _ H3.out.1 (by simp) (by simp [Value.oneCell']) ?_); intro w4 hBy hgy hzy
             simp only [splice, List.take_zero, List.nil_append, List.length_cons, List.length_nil, List.drop_succ_cons, List.drop_zero, List.append_nil, Nat.zero_add, List.drop_nil] at hBy
             have D4 := Lib.hid (H3.out.2.grown hgy H3.out.2.size (fun j hj => by injection hj with hj; omega))
             have C4 := Lib.hid hBy
             have B4 := Lib.hid (gt A2.out D4.out)
             clear hBy hgy hzy))
        have hBg := (SW.out.1.grow FS.out.low).grow B4.out
        have x0 := hBg.cell 0
        have x1 := hBg.cell 1
        have x2 := hBg.cell 2
        have y0 := hBg.frozen 0
        have y1 := hBg.frozen 1
        have y2 := hBg.frozen 2
        simp only [List.getElem?_cons_succ, List.getElem?_cons_zero] at x0 x1 x2
        have HBG := Lib.hid hBg
        clear hBg d0
        go_wp2_with (first
          | ((with_reducible show wpList _ _ _ (⟨some 49, _, _, _, _, _⟩ :: _) _ _); go_must (refine wpList_behind rfl (.tmp 47) (.tmp 48) rfl rfl rfl HA9.out ?_); intro D9' hD9'; obtain rfl : D9 = D9' := HD9.out.trans hD9'.symm; clear hD9'; rw [← HT.out.2.2.1])
          | ((with_reducible show wpList _ _ _ (⟨some 50, _, _, _, _, _⟩ :: _) _ _); go_must (refine wpList_app EB rfl (.const (.slice none 0 0)) (.tmp 49) rfl wr.heap.size (.slice none 0 0) 0 [] rfl ⟨rfl, .inl ⟨rfl, rfl⟩⟩ D9 tn (cb - a) (t.map bv) rfl ((HT.out.2.2.2.below B4.out).rv) (by rw [List.length_map, ← HT.out.2.1]; simp) (by intro u hu; rw [List.mem_map] at hu; obtain ⟨_, _, rfl⟩ := hu; rfl) (by have := HN.out; have := HT.out.2.2.1; unfold maxLen; omega) (by have := HN.out; have := HT.out.2.2.1; omega) B4.out.size ?_); intro v5 w5 ho5 hg5 hv5; rw [List.nil_append, Nat.zero_add] at ho5; have hb5 : Below w4.heap.size w4 w5 := (Below.refl _ _).grown hg5 (Nat.le_refl _) (fun k hk => by cases hk); have B5 := Lib.hid (gt B4.out hb5); have O5 := Lib.hid ho5; obtain ⟨S5, c5, rfl, _⟩ := own_slice ho5; have hBg5 := HBG.out.grow hb5; have z0 := hBg5.cell 0; have r0 := hBg5.frozen 0; simp only [List.getElem?_cons_zero] at z0; have HBG5 := Lib.hid hBg5; clear ho5 hg5 hv5 hb5 hBg5 x0 x1 x2 y0 y1 y2))
        go_ret2
        rw [HE.out]
        have hfr := (SW.out.2.2.1.below FS.out.low SW.out.2.2.1.size).below B5.out (by have := SW.out.2.2.1.size; have := FS.out.low.size; omega)
        refine ⟨hfr.grown (grownBy_set w5 G 0 _), .slice A5 l.length k5, .slice S5 tn c5, rfl, ?_, ?_⟩
        · rw [List.append_nil]
          exact ((FS.out.rl.below B5.out).far (grownBy_set w5 G 0 _) SW.out.1.lt).base SW.out.2.2.1.size
        · refine ⟨HBG5.out.set_ 0 _, ?_, HH.out.1.blk.lt⟩
          have ho := own_line O5.out (grownBy_set w5 G 0 (.slice S5 tn c5)) (by have := SW.out.1.lt; have := FS.out.low.size; omega)
          have ho2 : (w5.setCell ⟨G, 0, none⟩ (.slice S5 tn c5)).ownsRow wr.heap.size 5 1 (.slice S5 tn c5) t.length (t.map bv) := by rw [← HT.out.2.1]; exact ho
          exact own_base ho2 (by have := SW.out.2.2.1.size; have := FS.out.low.size; omega)
      · rw [if_neg h3] at hfe
        have b3 : ((er : Int) == 283) = false := by rw [beq_eq_false_iff_ne]; omega
        have b0 : ((er : Int) == 0) = false := by rw [beq_eq_false_iff_ne]; omega
        rw [hfe] at heq
        have HE := Lib.hid heq
        clear cr hr her h3 hfe heq
        go_upto_region 9 with (first
          | ((with_reducible show wpList _ _ _ (⟨some 36, _, _, _, _, _⟩ :: _) _ _); go_must (refine wpList_behind rfl (.tmp 34) (.tmp 35) rfl rfl rfl HA9.out ?_); intro D9' hD9'; obtain rfl : D9 = D9' := HD9.out.trans hD9'.symm; clear hD9'; rw [← HT.out.2.2.1])
          | (go_at_call 16; go_must (refine (CR.out).mono ?_); rintro e w2 hp; obtain ⟨hb, rfl⟩ := hp; have A2 := Lib.hid hb; clear hb)
          | ((with_reducible show wpList _ _ _ (⟨some 8, .alloc _, _, _, _, _⟩ :: _) _ _); go_must (refine wpList_allocB AR rfl rfl w2.heap.size rfl ?_); intro w3 hBx hbx hzx; have H3 := Lib.hid (And.intro hBx hbx); clear hBx hbx hzx)
          | ((with_reducible show wpList _ _ _ (⟨none, .store _ (.tmp 8) _, _, _, _, _⟩ :: _) _ _); go_must (refine wpList_storeB AR rfl (.tmp 8) (.tmp 38) rfl w2.heap.size 0 rfl [.string ⟨#[]⟩, .string ⟨#[]⟩, .slice none 0 0, .slice none 0 0, .bool false] rfl rfl _ _ H3.out.1 (by simp) (by simp [Value.oneCell']) ?_); intro w4 hBy hgy hzy
             simp only [splice, List.take_zero, List.nil_append, List.length_cons, List.length_nil, List.drop_succ_cons, List.drop_zero, List.append_nil, Nat.zero_add, List.drop_nil] at hBy
             have D4 := Lib.hid (H3.out.2.grown hgy H3.out.2.size (fun j hj => by injection hj with hj; omega))
             have C4 := Lib.hid hBy
             have B4 := Lib.hid (gt A2.out D4.out)
             clear hBy hgy hzy))
        have hBg := (SW.out.1.grow FS.out.low).grow B4.out
        have x0 := hBg.cell 0
        have x1 := hBg.cell 1
        have x2 := hBg.cell 2
        have y0 := hBg.frozen 0
        have y1 := hBg.frozen 1
        have y2 := hBg.frozen 2
        simp only [List.getElem?_cons_succ, List.getElem?_cons_zero] at x0 x1 x2
        have HBG := Lib.hid hBg
        clear hBg d0
        go_wp2_with fail
        go_ret2
        have hg := ((grownBy_set w4 G 1 (.bool true)).trans (grownBy_set _ G 2 (.int .i64 (er : Int)))).trans (grownBy_set _ G 0 (.slice none 0 0))
        have hfr := (SW.out.2.2.1.below FS.out.low SW.out.2.2.1.size).below B4.out (by have := SW.out.2.2.1.size; have := FS.out.low.size; omega)
        rw [HE.out]
        refine ⟨hfr.grown hg, _, .slice none 0 0, rfl, ?_, ?_⟩
        · rw [List.append_nil]
          exact ((FS.out.rl.below B4.out).far hg SW.out.1.lt).base SW.out.2.2.1.size
        · exact ⟨((HBG.out.set_ 1 _).set_ 2 _).set_ 0 _, World.ownsRow_nil _ _ _ _, HH.out.1.blk.lt⟩
    | ok x =>
      obtain ⟨r, N⟩ := x
      have hok := all_ok hr
      rw [hr] at cr
      obtain ⟨smm, hsm⟩ : ∃ x, x = (⟨r.method.toArray⟩ : ByteArray) := ⟨_, rfl⟩
      obtain ⟨stg, hst⟩ : ∃ x, x = (⟨r.target.toArray⟩ : ByteArray) := ⟨_, rfl⟩
      obtain ⟨hm, hhm⟩ : ∃ x, x = r.headers.length := ⟨_, rfl⟩
      obtain ⟨bl, hbl⟩ : ∃ x, x = r.body.length := ⟨_, rfl⟩
      obtain ⟨cl, hcl⟩ : ∃ x, x = r.close := ⟨_, rfl⟩
      unfold ReadPost at cr
      simp only at cr
      rw [← hsm, ← hst, ← hhm, ← hbl, ← hcl] at cr
      have CR := Lib.hid cr
      rw [hr] at hfe
      simp only at hfe
      rw [← hcl] at hfe
      rw [hfe] at heq
      have HQ := Lib.hid (And.intro hsm (And.intro hst (And.intro hhm (And.intro hbl hcl))))
      have hNt : N ≤ tn := by rw [HT.out.2.1]; exact hok.2.1
      have HK := Lib.hid (And.intro hok.1 (And.intro hNt (show l.length ≤ 16777216 by have := FS.out.tl; have := HA9.out; have := HN.out; omega)))
      clear cr hr hok hfe hsm hst hhm hbl hcl hNt
      cases cl
      · rw [if_neg (by simp)] at heq
        have HE := Lib.hid heq
        clear heq
        go_wp2_with (first
          | ((with_reducible show wpList _ _ _ (⟨some 36, _, _, _, _, _⟩ :: _) _ _); go_must (refine wpList_behind rfl (.tmp 34) (.tmp 35) rfl rfl rfl HA9.out ?_); intro D9' hD9'; obtain rfl : D9 = D9' := HD9.out.trans hD9'.symm; clear hD9'; rw [← HT.out.2.2.1])
          | (go_at_call 16; go_must (refine (CR.out).mono ?_); rintro e w2 hp; obtain ⟨hb, A1, k1, P1, q1, K1, rfl, ho1, hK1, hw1, hob1⟩ := hp; have A2 := Lib.hid hb; have R1 := Lib.hid (And.intro (own_rv ho1) (And.intro (own_rv hob1).rb (And.intro (fun ad e => (⟨own_spot ho1 ad e, own_addr ho1 ad e⟩ : ad.spot = none ∧ wr.heap.size ≤ ad.block)) (fun ad e => Nat.le_trans hw1 (own_addr hob1 ad e))))); clear ho1 hK1 hw1 hob1; clear hb)
          | ((with_reducible show wpList _ _ _ (⟨some 8, .alloc _, _, _, _, _⟩ :: _) _ _); go_must (refine wpList_allocB AR rfl rfl w2.heap.size rfl ?_); intro w3 hBx hbx hzx; have H3 := Lib.hid (And.intro hBx hbx); clear hBx hbx hzx)
          | ((with_reducible show wpList _ _ _ (⟨none, .store _ (.tmp 8) _, _, _, _, _⟩ :: _) _ _); go_must (refine wpList_storeB AR rfl (.tmp 8) (.tmp 38) rfl w2.heap.size 0 rfl [.string smm, .string stg, .slice A1 hm k1, .slice P1 bl q1, .bool false] rfl rfl _ _ H3.out.1 (by simp) (by simp [Value.oneCell']) ?_); intro w4 hBy hgy hzy
             simp only [splice, List.take_zero, List.nil_append, List.length_cons, List.length_nil, List.drop_succ_cons, List.drop_zero, List.append_nil, Nat.zero_add, List.drop_nil] at hBy
             have D4 := Lib.hid (H3.out.2.grown hgy H3.out.2.size (fun j hj => by injection hj with hj; omega))
             have C4 := Lib.hid hBy
             have B4 := Lib.hid (gt A2.out D4.out)
             clear hBy hgy hzy)
          | ((with_reducible show wpList _ _ _ (⟨some 57, _, _, _, _, _⟩ :: _) _ _); go_must (refine wpList_loadB AR rfl (.tmp 8) rfl w2.heap.size 0 rfl _ _ C4.out [.string smm, .string stg, .slice A1 hm k1, .slice P1 bl q1, .bool false] (by simp) rfl ?_))
          | ((with_reducible show wpList _ _ _ (⟨some 58, _, _, _, _, _⟩ :: _) _ _); go_must (refine wpList_build1 ER rfl (.tmp 57) rfl (by simp) [.string smm, .string stg, .slice A1 hm k1, .slice P1 bl q1, .bool false] rfl rfl w4.heap.size rfl ?_); intro w5 hB5 hb5 hz5; have C5 := Lib.hid hB5; have F5 := Lib.hid hb5; have B5 := Lib.hid (gt B4.out hb5); have E5 := Lib.hid (gt D4.out hb5); clear hB5 hb5 hz5; obtain ⟨rows, hown, hall⟩ := (FS.out.rl.below B5.out).ex; have O5 := Lib.hid (And.intro hown hall); clear hown hall)
          | ((with_reducible show wpList _ _ _ (⟨some 59, _, _, _, _, _⟩ :: _) _ _); go_must (refine wpList_app ER rfl (.tmp 56) (.tmp 58) rfl W.heap.size (.slice A5 l.length k5) l.length rows.flatten rfl O5.out.1 (some ⟨w4.heap.size, 0, none⟩) 1 1 [.string smm, .string stg, .slice A1 hm k1, .slice P1 bl q1, .bool false] rfl C5.out.rv rfl (by intro u hu; simp at hu; rcases hu with rfl | rfl | rfl | rfl | rfl <;> rfl) (by have := HK.out; unfold maxLen; omega) (by have := HK.out; omega) (by have := FS.out.low.size; have := B5.out.size; omega) ?_); intro v6 w6 ho6 hg6 hv6
             have RC := rqc_new (k1 := k1) (q1 := q1) R1.out.1 R1.out.2.1 R1.out.2.2.1 R1.out.2.2.2 E5.out (FS.out.rl.lt) FS.out.low.size
             rw [← HQ.out.1, ← HQ.out.2.1, ← HQ.out.2.2.1, ← HQ.out.2.2.2.1, ← HQ.out.2.2.2.2] at RC
             have R6 := Lib.hid (RL.push (r := r) O5.out.2 RC ho6 hg6 hv6)
             have B6 := Lib.hid (below_own (FS.out.low.trans (B5.out.mono FS.out.low.size)) O5.out.1 hg6 (by have := FS.out.low.size; have := B5.out.size; omega))
             have C6 := (C4.out.grow F5.out).grown hg6 (fun e => by have := FS.out.rl.lt _ e.symm; have := A2.out.size; omega)
             have d4 := C6.cell 4
             simp only [List.getElem?_cons_succ, List.getElem?_cons_zero] at d4
             clear C6
             have hBg := SW.out.1.below B6.out SW.out.1.lt
             have x0 := hBg.cell 0
             have x1 := hBg.cell 1
             have x2 := hBg.cell 2
             have y0 := hBg.frozen 0
             have y1 := hBg.frozen 1
             have y2 := hBg.frozen 2
             simp only [List.getElem?_cons_succ, List.getElem?_cons_zero] at x0 x1 x2
             have HBG := Lib.hid hBg
             obtain ⟨A6, k6, rfl, _⟩ := R6.out.slice
             clear ho6 hg6 hv6 hBg))
        have hN1 := HK.out.1
        have hNt := HK.out.2.1
        have htn := HT.out.2.2.1
        have ha := HA9.out
        have hnb := HN.out.2.1
        have hnb6 := HN.out.2.2.2
        have han : (a : Int) + (N : Int) = ((a + N : Nat) : Int) := by omega
        have hww : wrap64 ((a : Int) + (N : Int)) = ((a + N : Nat) : Int) := w64b han (by omega) (by omega)
        refine ⟨⟨a + N, l ++ [r], by first | (rw [hww]) | (rw [han]), ⟨by clear hww; omega, B6.out, by have := R6.out; rw [List.length_append] at this; exact this, ?_, ?_⟩⟩, ?_⟩
        · rw [HE.out, HT.out.1, List.drop_drop]; unfold Fed.cons; simp
        · have := FS.out.tl; clear hww; rw [List.length_append]; simp; omega
        · first | (rw [hww]; simp only [intOf]; clear hww; omega) | (simp [intOf]; clear hww; omega)
      · rw [if_pos rfl] at heq
        have HE := Lib.hid heq
        clear heq
        go_wp2_with (first
          | ((with_reducible show wpList _ _ _ (⟨some 36, _, _, _, _, _⟩ :: _) _ _); go_must (refine wpList_behind rfl (.tmp 34) (.tmp 35) rfl rfl rfl HA9.out ?_); intro D9' hD9'; obtain rfl : D9 = D9' := HD9.out.trans hD9'.symm; clear hD9'; rw [← HT.out.2.2.1])
          | (go_at_call 16; go_must (refine (CR.out).mono ?_); rintro e w2 hp; obtain ⟨hb, A1, k1, P1, q1, K1, rfl, ho1, hK1, hw1, hob1⟩ := hp; have A2 := Lib.hid hb; have R1 := Lib.hid (And.intro (own_rv ho1) (And.intro (own_rv hob1).rb (And.intro (fun ad e => (⟨own_spot ho1 ad e, own_addr ho1 ad e⟩ : ad.spot = none ∧ wr.heap.size ≤ ad.block)) (fun ad e => Nat.le_trans hw1 (own_addr hob1 ad e))))); clear ho1 hK1 hw1 hob1; clear hb)
          | ((with_reducible show wpList _ _ _ (⟨some 8, .alloc _, _, _, _, _⟩ :: _) _ _); go_must (refine wpList_allocB AR rfl rfl w2.heap.size rfl ?_); intro w3 hBx hbx hzx; have H3 := Lib.hid (And.intro hBx hbx); clear hBx hbx hzx)
          | ((with_reducible show wpList _ _ _ (⟨none, .store _ (.tmp 8) _, _, _, _, _⟩ :: _) _ _); go_must (refine wpList_storeB AR rfl (.tmp 8) (.tmp 38) rfl w2.heap.size 0 rfl [.string smm, .string stg, .slice A1 hm k1, .slice P1 bl q1, .bool true] rfl rfl _ _ H3.out.1 (by simp) (by simp [Value.oneCell']) ?_); intro w4 hBy hgy hzy
             simp only [splice, List.take_zero, List.nil_append, List.length_cons, List.length_nil, List.drop_succ_cons, List.drop_zero, List.append_nil, Nat.zero_add, List.drop_nil] at hBy
             have D4 := Lib.hid (H3.out.2.grown hgy H3.out.2.size (fun j hj => by injection hj with hj; omega))
             have C4 := Lib.hid hBy
             have B4 := Lib.hid (gt A2.out D4.out)
             clear hBy hgy hzy)
          | ((with_reducible show wpList _ _ _ (⟨some 57, _, _, _, _, _⟩ :: _) _ _); go_must (refine wpList_loadB AR rfl (.tmp 8) rfl w2.heap.size 0 rfl _ _ C4.out [.string smm, .string stg, .slice A1 hm k1, .slice P1 bl q1, .bool true] (by simp) rfl ?_))
          | ((with_reducible show wpList _ _ _ (⟨some 58, _, _, _, _, _⟩ :: _) _ _); go_must (refine wpList_build1 ER rfl (.tmp 57) rfl (by simp) [.string smm, .string stg, .slice A1 hm k1, .slice P1 bl q1, .bool true] rfl rfl w4.heap.size rfl ?_); intro w5 hB5 hb5 hz5; have C5 := Lib.hid hB5; have F5 := Lib.hid hb5; have B5 := Lib.hid (gt B4.out hb5); have E5 := Lib.hid (gt D4.out hb5); clear hB5 hb5 hz5; obtain ⟨rows, hown, hall⟩ := (FS.out.rl.below B5.out).ex; have O5 := Lib.hid (And.intro hown hall); clear hown hall)
          | ((with_reducible show wpList _ _ _ (⟨some 59, _, _, _, _, _⟩ :: _) _ _); go_must (refine wpList_app ER rfl (.tmp 56) (.tmp 58) rfl W.heap.size (.slice A5 l.length k5) l.length rows.flatten rfl O5.out.1 (some ⟨w4.heap.size, 0, none⟩) 1 1 [.string smm, .string stg, .slice A1 hm k1, .slice P1 bl q1, .bool true] rfl C5.out.rv rfl (by intro u hu; simp at hu; rcases hu with rfl | rfl | rfl | rfl | rfl <;> rfl) (by have := HK.out; unfold maxLen; omega) (by have := HK.out; omega) (by have := FS.out.low.size; have := B5.out.size; omega) ?_); intro v6 w6 ho6 hg6 hv6
             have RC := rqc_new (k1 := k1) (q1 := q1) R1.out.1 R1.out.2.1 R1.out.2.2.1 R1.out.2.2.2 E5.out (FS.out.rl.lt) FS.out.low.size
             rw [← HQ.out.1, ← HQ.out.2.1, ← HQ.out.2.2.1, ← HQ.out.2.2.2.1, ← HQ.out.2.2.2.2] at RC
             have R6 := Lib.hid (RL.push (r := r) O5.out.2 RC ho6 hg6 hv6)
             have B6 := Lib.hid (below_own (FS.out.low.trans (B5.out.mono FS.out.low.size)) O5.out.1 hg6 (by have := FS.out.low.size; have := B5.out.size; omega))
             have C6 := (C4.out.grow F5.out).grown hg6 (fun e => by have := FS.out.rl.lt _ e.symm; have := A2.out.size; omega)
             have d4 := C6.cell 4
             simp only [List.getElem?_cons_succ, List.getElem?_cons_zero] at d4
             clear C6
             have hBg := SW.out.1.below B6.out SW.out.1.lt
             have x0 := hBg.cell 0
             have x1 := hBg.cell 1
             have x2 := hBg.cell 2
             have y0 := hBg.frozen 0
             have y1 := hBg.frozen 1
             have y2 := hBg.frozen 2
             simp only [List.getElem?_cons_succ, List.getElem?_cons_zero] at x0 x1 x2
             have HBG := Lib.hid hBg
             obtain ⟨A6, k6, rfl, _⟩ := R6.out.slice
             clear ho6 hg6 hv6 hBg))
        go_ret2
        have hg := ((grownBy_set w6 G 1 (.bool true)).trans (grownBy_set _ G 2 (.int .i64 0))).trans (grownBy_set _ G 0 (.slice none 0 0))
        have hfr := SW.out.2.2.1.below B6.out SW.out.2.2.1.size
        rw [HE.out]
        refine ⟨hfr.grown hg, .slice A6 (l.length + 1) k6, .slice none 0 0, rfl, ?_, ?_⟩
        · have := R6.out
          rw [List.length_append] at this
          exact (RL.far this hg SW.out.1.lt).base SW.out.2.2.1.size
        · exact ⟨((HBG.out.set_ 1 _).set_ 2 _).set_ 0 _, World.ownsRow_nil _ _ _ _, HH.out.1.blk.lt⟩
end Go.Proofs.YtojemdggbcklkaaDoor.WireR
namespace Go.Proofs.YtojemdggbcklkaaDoor.WireR
open Go.RowKit Go.Proofs.YtojemdggbcklkaaDoor.Mem Go.Proofs.YtojemdggbcklkaaDoor.Wire Go.Proofs.YtojemdggbcklkaaDoor.Strs Go.Proofs.YtojemdggbcklkaaDoor.Heads
set_option linter.unusedVariables false
set_option linter.unusedSimpArgs false
set_option maxRecDepth 4000

theorem own_keep {w w' : World} {B n size : Nat} {T : TypeId} {v : Value} {xs : List Value} (h : w.ownsRow B T size v n xs) (hk : ∀ X, v.ownBlock = some X → X < w.heap.size → w'.heap[X]? = w.heap[X]?) : w'.ownsRow B T size v n xs := by
  refine ⟨h.1, h.2.imp id ?_⟩
  rintro ⟨g, cap, cur, e, hg, hh, rest⟩
  exact ⟨g, cap, cur, e, hg, (hk g (by rw [e]; rfl) (Array.getElem?_eq_some_iff.1 hh).1).trans hh, rest⟩
theorem rv_keep {w w' : World} {A : Option Addr} {xs : List Value} {B : Nat} (h : RV w A xs) (hf : ∀ ad, A = some ad → B ≤ ad.block) (hk : ∀ k, B ≤ k → k < w.heap.size → w'.heap[k]? = w.heap[k]?) : RV w' A xs := fun k hk' => by
  obtain ⟨ad, e, hc⟩ := h k hk'
  have hlt := block_lt_of_cell hc
  refine ⟨ad, e, ?_⟩
  have hbl := hk (ad.add k).block (by rw [block_of_add]; exact hf ad e) hlt
  have : w'.cell? (ad.add k) = w.cell? (ad.add k) := by simp [World.cell?, hbl]
  rw [this, hc]
theorem RqC.keep {w w' : World} {B : Nat} {o : Option Nat} {c : List Value} {r : Req} (h : RqC w B o c r) (hk : ∀ k, B ≤ k → k < w.heap.size → w'.heap[k]? = w.heap[k]?) : RqC w' B o c r := by
  obtain ⟨A, k, A2, k2, e, h1, h2, h3, h4, h5, h6, h7⟩ := h
  exact ⟨A, k, A2, k2, e, rv_keep h1 h6 hk, (rv_keep h2.rv h7 hk).rb, h3, h4, h5, h6, h7⟩
theorem RL.keep {w w' : World} {B : Nat} {v : Value} {rs : List Req} (h : RL w B v rs) (hk : ∀ k, B ≤ k → k < w.heap.size → w'.heap[k]? = w.heap[k]?) : RL w' B v rs := by
  obtain ⟨rows, h1, h2⟩ := h.ex
  exact ⟨rows, own_keep h1 (fun X e hX => hk X (h1.lt X e).1 hX), h2.imp (fun _ _ x => x.keep hk)⟩
theorem FeedAt.kept {w w' : World} {G B : Nat} {v : Value} {held : Bytes} {done : Bool} {fault : Nat} {o : Option Nat} (h : FeedAt w G B v held done fault) (hb : w.grownBy w' o) (h1 : some G ≠ o) (h2 : ∀ Y, v.ownBlock = some Y → some Y ≠ o) : FeedAt w' G B v held done fault :=
  ⟨h.blk.grown hb h1, own_keep h.own (fun X e hX => hb.block X hX (h2 X e)), h.gb⟩
theorem FeedAt.base {w : World} {G B B' : Nat} {v : Value} {held : Bytes} {done : Bool} {fault : Nat} (h : FeedAt w G B' v held done fault) (hb : B ≤ B') (hg : G < B) : FeedAt w G B v held done fault :=
  ⟨h.blk, own_base h.own hb, hg⟩
theorem below_fr {G B : Nat} {o : Option Nat} {w w1 w2 : World} (h : Below B w w1) (hf : Fr G o w1 w2) (hB : B ≤ w1.heap.size) (hG : B ≤ G) (ho : ∀ Y, o = some Y → B ≤ Y) : Below B w w2 :=
  ⟨hf.os.trans h.os, hf.tape.trans h.tape, hf.output.trans h.output, Nat.le_trans h.size hf.size, fun k hk => (hf.block k (by omega) (by omega) (fun e => by have := ho k e.symm; omega)).trans (h.block k hk)⟩
theorem rv_drop' {w : World} {A : Option Addr} {xs : List Value} (h : RV w A xs) (h3 : ∀ ad, A = some ad → ad.spot = none) (d : Nat) : RV w (A.map (·.add d)) (xs.drop d) := fun k hk => by
  rw [List.length_drop] at hk
  obtain ⟨ad, e, hc⟩ := h (d + k) (by omega)
  refine ⟨ad.add d, by rw [e]; rfl, ?_⟩
  rw [List.getElem_drop, ← hc]
  congr 1
  obtain ⟨g, o, sp⟩ := ad
  have := h3 _ e
  simp only at this
  subst this
  rw [add_none, add_none, add_none, Nat.add_assoc]
theorem All2.drop {α β : Type} {P : α → β → Prop} : ∀ {l : List α} {m : List β} (k : Nat), All2 P l m → All2 P (l.drop k) (m.drop k)
  | [], [], k, _ => by rw [List.drop_nil, List.drop_nil]; trivial
  | a :: l, b :: m, 0, h => h
  | a :: l, b :: m, k + 1, h => by rw [List.drop_succ_cons, List.drop_succ_cons]; exact All2.drop k h.2
  | [], _ :: _, _, x => x.elim
  | _ :: _, [], _, x => x.elim
theorem flat_drop : ∀ {rows : List (List Value)} (h : ∀ c ∈ rows, c.length = 5) (m : Nat), (rows.drop m).flatten = rows.flatten.drop (m * 5)
  | [], _, m => by simp
  | c :: r, h, 0 => by simp
  | c :: r, h, m + 1 => by
    have h5 := h c List.mem_cons_self
    rw [List.drop_succ_cons, flat_drop (fun c hc => h c (List.mem_cons_of_mem _ hc)) m, List.flatten_cons, List.drop_append, List.drop_of_length_le (show c.length ≤ (m + 1) * 5 by omega), h5, show (m + 1) * 5 - 5 = m * 5 by omega]
    rfl
theorem ReadsR.drop {w : World} {A : Option Addr} {rs : List Req} (h : ReadsR w A rs) {m c : Nat} (hm : m ≤ rs.length) (hc : rs.length ≤ c) : ReadsR w (if c = m then A else A.map (·.add (m * 5))) (rs.drop m) := by
  obtain ⟨rows, h1, h2, h3⟩ := h
  have hl := h2.len
  refine ⟨rows.drop m, ?_, h2.drop m, ?_⟩
  · split
    · rw [List.drop_of_length_le (by omega)]; exact RV.nil _ _
    · rw [flat_drop (fun c hc => by obtain ⟨r, hr⟩ := h2.left c hc; exact hr.len)]
      exact rv_drop' h1 h3 _
  · intro ad e
    split at e
    · exact h3 ad e
    · cases A with
      | none => cases e
      | some a =>
        injection e with e
        have := h3 a rfl
        obtain ⟨g, o, sp⟩ := a
        simp only at this
        subst this
        rw [← e]
        show (Addr.add ⟨g, o, none⟩ (m * 5)).spot = none
        rw [add_none]
theorem cutR_behind {ρ : Operand → Value} {w : World} {o : Oper} {x y : Operand} {A : Option Addr} {n c m : Nat} (ho : o.op = .slice 45 x (some y) none none) (hx : ρ x = .slice A n c) (hy : ρ y = .int .i64 (m : Int)) (hm : m ≤ n) :
    (execOp ρ o).run Tryd.prog w = .ok (.value (.slice (if c = m then A else A.map (·.add (m * 5))) (n - m) (c - m))) w := by
  have h := run_slice_l (P := Tryd.prog) (w := w) 45 A n c (by rfl) .i64 (m : Int) (by omega) (by omega)
  have hs : (sizeOf (Tryd.prog.elem 45)).run Tryd.prog w = .ok 5 w := by rfl
  rw [hs] at h
  have e : sliced A (m : Int).toNat n c 5 = .slice (if c = m then A else A.map (·.add (m * 5))) (n - m) (c - m) := by
    unfold sliced
    simp
  simp only [Result.andThen, e] at h
  simp [execOp, ho, hx, hy, run_sliceAt_slice, h, Result.andThen, (show Tryd.prog.underlying 45 = some (.slice (Tryd.prog.elem 45)) from rfl)]
theorem wpList_behindR {w : World} {ops : Array Oper} {rest : List Oper} {o : Oper} {a : Act} {Q : Exit → Act → World → Prop} (hw : Region.wanted o (yielded ops a.tmps) = true) (x y : Operand) (ho : o.op = .slice 45 x (some y) none none) {A : Option Addr} {n c m : Nat} (hx : a.eval x = .slice A n c) (hy : a.eval y = .int .i64 (m : Int)) (hm : m ≤ n)
    (h : ∀ D, D = (if c = m then A else A.map (·.add (m * 5))) → wpList Tryd.prog ops Q rest (a.put o.dst (.slice D (n - m) (c - m))) w) : wpList Tryd.prog ops Q (o :: rest) a w := by
  refine BigFrame.wpList_want hw fun K hK => ?_
  unfold Oper.wp
  rw [cutR_behind ho hx hy hm]
  exact hK _ _ (h _ rfl)
theorem feed_nil : feedS [] = ⟨[], [], 0, false⟩ := by
  rw [feedS_eq]
  have : readAll [] = .error 283 := rfl
  rw [this]
  rfl
theorem feed_lens : ∀ (k : Nat) (raw : Bytes), raw.length ≤ k → ∀ r ∈ (feedS raw).l, r.headers.length ≤ 65536 ∧ r.body.length ≤ 65536
  | k, raw, hk => by
    cases hr : readAll raw with
    | error e =>
      by_cases h3 : e = 283
      · have h1 : feedS raw = ⟨[], raw, 0, false⟩ := by rw [feedS_eq, hr]; simp only; rw [if_pos h3]
        rw [h1]; intro r hr; cases hr
      · have h1 : feedS raw = ⟨[], [], e, true⟩ := by rw [feedS_eq, hr]; simp only; rw [if_neg h3]
        rw [h1]; intro r hr; cases hr
    | ok x =>
      obtain ⟨r, n⟩ := x
      have h3 := all_ok hr
      have hl := all_len hr
      by_cases hc : r.close = true
      · have h1 : feedS raw = ⟨[r], [], 0, true⟩ := by rw [feedS_eq, hr]; simp only; rw [if_pos hc]
        rw [h1]
        intro q hq
        rw [List.mem_singleton] at hq
        rw [hq]; exact hl
      · have h1 : feedS raw = (feedS (raw.drop n)).cons r := by rw [feedS_eq, hr]; simp only; rw [if_neg hc]
        cases k with
        | zero => omega
        | succ k =>
          have ih := feed_lens k (raw.drop n) (by rw [List.length_drop]; omega)
          rw [h1]
          unfold Fed.cons
          intro q hq
          rcases List.mem_cons.1 hq with rfl | hq
          · exact hl
          · exact ih q hq
/-- what a piece brings behind R -/
def gotL (R p : Bytes) : List Req := if (feedS R).done = true then [] else (feedS ((feedS R).rest ++ p)).l
theorem got_more (R p : Bytes) : (feedS (R ++ p)).l = (feedS R).l ++ gotL R p := by
  rw [feed_more R.length R p (Nat.le_refl _), gotL]
  split
  · rw [List.append_nil]
  · rfl
def NextPost (w : World) (G B : Nat) (v : Value) (R p : Bytes) (e : Ending) (w' : World) : Prop :=
  Fr G v.ownBlock w w' ∧ ∃ u v', e = .returned (.tuple #[u, .int .i64 ((feedS (R ++ p)).e : Nat)]) ∧ RL w' w.heap.size u (gotL R p) ∧ FeedAt w' G B v' (feedS (R ++ p)).rest (feedS (R ++ p)).done (feedS (R ++ p)).e ∧ (v' = v ∨ ∀ Y, v'.ownBlock = some Y → w.heap.size ≤ Y)
theorem put_next {w : World} {G B : Nat} {v : Value} {R : Bytes} (h : FeedAt w G B v (feedS R).rest (feedS R).done (feedS R).e) (P : Option Addr) (pn pc : Nat) (p : Bytes) (hP : RB w P p) (hpn : pn = p.length) (hB : B ≤ w.heap.size) (hbig : R.length + p.length ≤ 16777216) :
    Calls Tryd.prog 21 #[.pointer (some ⟨G, 0, none⟩), .slice P pn pc] w (NextPost w G B v R p) := by
  have hf := feed_rest R.length R (Nat.le_refl _)
  have hm := feed_more R.length R p (Nat.le_refl _)
  by_cases hd : (feedS R).done = true
  · rw [if_pos hd] at hm
    have h' := h
    rw [hd] at h'
    refine (put_done h' (.slice P pn pc)).mono ?_
    rintro e w' ⟨rfl, hb⟩
    refine ⟨Fr.of (grown_of hb), .slice none 0 0, v, by rw [hm], ?_, by rw [hm]; exact h.below hb, .inl rfl⟩
    rw [gotL, if_pos hd]
    exact RL.nil _ _
  · have hd' : (feedS R).done = false := by simpa using hd
    rw [if_neg hd] at hm
    obtain ⟨he, _⟩ := hf.2.2 hd'
    have h' := h
    rw [hd', he] at h'
    refine (put_any h' P pn pc p hP hpn hB (by have := hf.1; omega)).mono ?_
    rintro e w' ⟨hfr, u, v0, rfl, hrl, hfa⟩
    have hgot : gotL R p = (feedS ((feedS R).rest ++ p)).l := by rw [gotL, if_neg hd]
    refine ⟨hfr, u, v0, by rw [hm], by rw [hgot]; exact hrl, by rw [hm]; exact hfa.base hB h.gb, .inr fun Y e => ?_⟩
    exact (hfa.own.lt Y e).1
end Go.Proofs.YtojemdggbcklkaaDoor.WireR
