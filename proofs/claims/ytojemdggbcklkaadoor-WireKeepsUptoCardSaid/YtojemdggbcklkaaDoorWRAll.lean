/- weirref28.Read: a request of what is looked at. (Printed by mkwrall.py.) -/
import Derived.Test.YtojemdggbcklkaaDoorWRRead
namespace Go.Proofs.YtojemdggbcklkaaDoor.WireR
open Go.RowKit Go.Proofs.YtojemdggbcklkaaDoor.Mem Go.Proofs.YtojemdggbcklkaaDoor.Wire Go.Proofs.YtojemdggbcklkaaDoor.Strs Go.Proofs.YtojemdggbcklkaaDoor.Heads
set_option linter.unusedVariables false
set_option linter.unusedSimpArgs false
set_option maxRecDepth 4000

theorem QS.keep {w wr w' : World} {H2 G : Nat} (h : QS w wr H2) (hg : wr.grownBy w' (some G)) (hG : H2 < G) : QS w w' H2 :=
  ⟨h.low.grown hg h.low.size (fun j hj => by injection hj with hj; have := h.h2e; omega), h.h2.grown hg (fun e => by injection e with e; omega), h.h2e⟩
def RAllPost (w : World) (r : Except Nat (Req × Nat)) (e : Ending) (w' : World) : Prop :=
  Below w.heap.size w w' ∧ match r with
  | .error er => e = .returned (.tuple #[.agg #[.string ⟨#[]⟩, .string ⟨#[]⟩, .slice none 0 0, .slice none 0 0, .bool false], .int .i64 0, .int .i64 (er : Nat)])
  | .ok (rq, n) => ∃ A k A2 k2, e = .returned (.tuple #[.agg #[.string ⟨rq.method.toArray⟩, .string ⟨rq.target.toArray⟩, .slice A rq.headers.length k, .slice A2 rq.body.length k2, .bool rq.close], .int .i64 (n : Nat), .int .i64 0]) ∧
      RV w' A (hdrV rq.headers) ∧ RB w' A2 rq.body ∧ (∀ ad, A = some ad → ad.spot = none)
theorem rall_err {w w' : World} {r : Except Nat (Req × Nat)} {er : Nat} {e : Ending} (h : r = .error er) (hb : Below w.heap.size w w') (he : e = .returned (.tuple #[.agg #[.string ⟨#[]⟩, .string ⟨#[]⟩, .slice none 0 0, .slice none 0 0, .bool false], .int .i64 0, .int .i64 (er : Nat)])) : RAllPost w r e w' := by rw [h]; exact ⟨hb, he⟩
theorem rall_ok {w w' : World} {r : Except Nat (Req × Nat)} {rq : Req} {n : Nat} {e : Ending} {A A2 : Option Addr} {k k2 : Nat} (h : r = .ok (rq, n)) (hb : Below w.heap.size w w') (he : e = .returned (.tuple #[.agg #[.string ⟨rq.method.toArray⟩, .string ⟨rq.target.toArray⟩, .slice A rq.headers.length k, .slice A2 rq.body.length k2, .bool rq.close], .int .i64 (n : Nat), .int .i64 0])) (hv : RV w' A (hdrV rq.headers)) (hr : RB w' A2 rq.body) (hsp : ∀ ad, A = some ad → ad.spot = none) : RAllPost w r e w' := by rw [h]; exact ⟨hb, A, k, A2, k2, he, hv, hr, hsp⟩
theorem rv_lt {w : World} {A : Option Addr} {xs : List Value} (h : RV w A xs) (hx : xs ≠ []) : ∀ ad, A = some ad → ad.block < w.heap.size := fun ad e => by
  obtain ⟨ad', e', hc⟩ := h 0 (List.length_pos_iff.2 hx)
  rw [e] at e'
  injection e' with e'
  subst e'
  have := block_lt_of_cell hc
  rwa [block_of_add] at this
set_option maxHeartbeats 16000000 in
theorem rall_any (A : Option Addr) (n c : Nat) (raw : List UInt8) (w : World) (hA : RB w A raw) (hn : n = raw.length) (hc : n ≤ c) (hl : n ≤ 1152921504606846976) :
    Calls Tryd.prog 15 #[.slice A n c] w (RAllPost w (readAll raw)) := by
  obtain ⟨s, hs⟩ : ∃ s, s = raw.take 65536 := ⟨_, rfl⟩
  obtain ⟨sn, hsn⟩ : ∃ x, x = s.length := ⟨_, rfl⟩
  have hmin : sn = min n 65536 := by rw [hsn, hs, List.length_take, hn]; omega
  have hR : readAll raw = match readS s with | .err e => .error (if e = 283 ∧ 65536 < n then 284 else e) | .ok r t => .ok (r, s.length - t.length) := by
    rw [hs, hn]; unfold readAll Most; cases readS (raw.take 65536) <;> rfl
  have HR := Lib.hid hR
  have i1 : min (n : Int) 65536 = (sn : Int) := by omega
  have i2 : (0 : Int) ≤ (sn : Int) := by omega
  have i3 : (sn : Int) ≤ (c : Int) := by omega
  obtain ⟨bm, hbm⟩ : ∃ b, b = decide (65536 < n) := ⟨_, rfl⟩
  have i4 : decide ((65536 : Int) < (n : Int)) = bm := by rw [hbm]; congr 1; exact propext (by omega)
  obtain ⟨S, hS⟩ : ∃ S, S = (⟨s.toArray⟩ : ByteArray) := ⟨_, rfl⟩
  have HA := Lib.hid (show RB w A s by rw [hs]; exact hA.take 65536)
  have HS := Lib.hid (And.intro hS (And.intro hsn (And.intro (show s.length ≤ 65536 by omega) hbm)))
  clear hR hA hn hc hl hmin hs hS hsn hbm
  go_enter Tryd.func15, Tryd.ntmps15
  go_upto_region 1 with fail
  obtain ⟨w1, hw1⟩ : ∃ x, x = w.alloc (.cells #[.string ⟨#[]⟩, .string ⟨#[]⟩, .slice none 0 0, .slice none 0 0, .bool false] 30) := ⟨_, rfl⟩
  rw [← hw1]
  have hb1 : Below w.heap.size w w1 := hw1 ▸ ga (gr w) _
  have hB1 : Blk w1 w.heap.size 30 [.string ⟨#[]⟩, .string ⟨#[]⟩, .slice none 0 0, .slice none 0 0, .bool false] := hw1 ▸ Blk.new w _ _
  obtain ⟨H2, hH⟩ : ∃ H, H = w.heap.size := ⟨_, rfl⟩
  rw [← hH] at hB1 ⊢
  have S1 := Lib.hid (QS.mk hb1 hB1 (by omega))
  have v1 : (convert 22 9 (.slice A sn c)).run Tryd.prog w1 = .ok (.string S) w1 := by
    rw [HS.out.2.1, HS.out.1]; exact conv_rb Tryd.underlying22 Tryd.underlying5 Tryd.underlying9 (HA.out.below hb1) c
  clear hb1 hB1 hw1 hH
  have c1 := rread_any s w1 HS.out.2.2.1
  rw [← HS.out.1] at c1
  obtain ⟨r, hr⟩ : ∃ r, r = readS s := ⟨_, rfl⟩
  rw [← hr] at c1
  have HRR := Lib.hid hr
  clear hr
  cases r with
  | err er =>
    have C1 := Lib.hid c1
    clear c1
    by_cases h3 : er = 283
    · have b3 : ((er : Int) == 283) = true := by simp; omega
      have H33 := Lib.hid h3
      clear h3
      cases bm
      · go_wp2_with (first
          | (go_at_call 30; go_must (refine (C1.out).mono ?_); rintro e w2 hp2; obtain ⟨hb2, rfl⟩ := hp2; have S2 := Lib.hid (S1.out.below hb2); clear hb2)
          | ((with_reducible show wpList _ _ _ (⟨some 5, _, _, _, _, _⟩ :: _) _ _); go_must (refine wpList_allocB AR rfl rfl w2.heap.size rfl ?_); intro w3 hB3 hb3 hz3; have H3 := Lib.hid (And.intro hB3 hb3); clear hB3 hb3 hz3)
          | ((with_reducible show wpList _ _ _ (⟨none, .store _ (.tmp 5) _, _, _, _, _⟩ :: _) _ _); go_must (refine wpList_storeB AR rfl (.tmp 5) (.tmp 16) rfl w2.heap.size 0 rfl [.string ⟨#[]⟩, .string ⟨#[]⟩, .slice none 0 0, .slice none 0 0, .bool false] rfl rfl _ _ H3.out.1 (by simp) (by simp [Value.oneCell']) ?_); intro w4 hB4 hg4 hz4
             simp only [splice, List.take_zero, List.nil_append, List.length_cons, List.length_nil, List.drop_succ_cons, List.drop_zero, List.append_nil, Nat.zero_add, List.drop_nil] at hB4
             have S4 := Lib.hid (QS.keep (S2.out.below H3.out.2) hg4 S2.out.h2.lt)
             have B4 := Lib.hid (H3.out.2.grown hg4 H3.out.2.size (fun j hj => by injection hj with hj; omega))
             have H4 := Lib.hid hB4; clear hB4 hg4 hz4)
          | ((with_reducible show wpList _ _ _ (⟨some 26, _, _, _, _, _⟩ :: _) _ _); go_must (refine wpList_loadB AR rfl (.tmp 5) rfl w2.heap.size 0 rfl _ _ H4.out [.string ⟨#[]⟩, .string ⟨#[]⟩, .slice none 0 0, .slice none 0 0, .bool false] (by simp) rfl ?_))
          | ((with_reducible show wpList _ _ _ (⟨none, .store _ (.tmp 2) _, _, _, _, _⟩ :: _) _ _); go_must (refine wpList_storeB AR rfl (.tmp 2) (.tmp 26) rfl H2 0 rfl [.string ⟨#[]⟩, .string ⟨#[]⟩, .slice none 0 0, .slice none 0 0, .bool false] rfl rfl _ _ S4.out.h2 (by simp) (by simp [Value.oneCell']) ?_); intro w9 hB9 hg9 hz9
             have c0 := hB9.cell 0
             have c1 := hB9.cell 1
             have c2 := hB9.cell 2
             have c3 := hB9.cell 3
             have c4 := hB9.cell 4
             simp only [splice, List.take_zero, List.nil_append, List.length_cons, List.length_nil, List.drop_succ_cons, List.drop_zero, List.append_nil, List.getElem?_cons_zero, List.getElem?_cons_succ, Nat.zero_add, List.drop_nil] at c0 c1 c2 c3 c4
             clear hB9 hz9))
        refine bodyPost_ret (v := .tuple #[.agg #[.string ⟨#[]⟩, .string ⟨#[]⟩, .slice none 0 0, .slice none 0 0, .bool false], .int .i64 0, .int .i64 (er : Nat)]) (by simp [results, Tryd.results15, go_sem, c0, c1, c2, c3, c4]) rfl ?_
        exact rall_err (by rw [HR.out, ← HRR.out]; simp only; rw [if_neg (fun h => absurd h.2 (of_decide_eq_false HS.out.2.2.2.symm))]) (S4.out.low.grown hg9 S4.out.low.size (fun j hj => by injection hj with hj; have := S4.out.h2e; omega)) rfl
      · go_wp2_with (first
          | (go_at_call 30; go_must (refine (C1.out).mono ?_); rintro e w2 hp2; obtain ⟨hb2, rfl⟩ := hp2; have S2 := Lib.hid (S1.out.below hb2); clear hb2)
          | ((with_reducible show wpList _ _ _ (⟨some 5, _, _, _, _, _⟩ :: _) _ _); go_must (refine wpList_allocB AR rfl rfl w2.heap.size rfl ?_); intro w3 hB3 hb3 hz3; have H3 := Lib.hid (And.intro hB3 hb3); clear hB3 hb3 hz3)
          | ((with_reducible show wpList _ _ _ (⟨none, .store _ (.tmp 5) _, _, _, _, _⟩ :: _) _ _); go_must (refine wpList_storeB AR rfl (.tmp 5) (.tmp 16) rfl w2.heap.size 0 rfl [.string ⟨#[]⟩, .string ⟨#[]⟩, .slice none 0 0, .slice none 0 0, .bool false] rfl rfl _ _ H3.out.1 (by simp) (by simp [Value.oneCell']) ?_); intro w4 hB4 hg4 hz4
             simp only [splice, List.take_zero, List.nil_append, List.length_cons, List.length_nil, List.drop_succ_cons, List.drop_zero, List.append_nil, Nat.zero_add, List.drop_nil] at hB4
             have S4 := Lib.hid (QS.keep (S2.out.below H3.out.2) hg4 S2.out.h2.lt)
             have B4 := Lib.hid (H3.out.2.grown hg4 H3.out.2.size (fun j hj => by injection hj with hj; omega))
             have H4 := Lib.hid hB4; clear hB4 hg4 hz4)
          | ((with_reducible show wpList _ _ _ (⟨some 26, _, _, _, _, _⟩ :: _) _ _); go_must (refine wpList_loadB AR rfl (.tmp 5) rfl w2.heap.size 0 rfl _ _ H4.out [.string ⟨#[]⟩, .string ⟨#[]⟩, .slice none 0 0, .slice none 0 0, .bool false] (by simp) rfl ?_))
          | ((with_reducible show wpList _ _ _ (⟨none, .store _ (.tmp 2) _, _, _, _, _⟩ :: _) _ _); go_must (refine wpList_storeB AR rfl (.tmp 2) (.tmp 26) rfl H2 0 rfl [.string ⟨#[]⟩, .string ⟨#[]⟩, .slice none 0 0, .slice none 0 0, .bool false] rfl rfl _ _ S4.out.h2 (by simp) (by simp [Value.oneCell']) ?_); intro w9 hB9 hg9 hz9
             have c0 := hB9.cell 0
             have c1 := hB9.cell 1
             have c2 := hB9.cell 2
             have c3 := hB9.cell 3
             have c4 := hB9.cell 4
             simp only [splice, List.take_zero, List.nil_append, List.length_cons, List.length_nil, List.drop_succ_cons, List.drop_zero, List.append_nil, List.getElem?_cons_zero, List.getElem?_cons_succ, Nat.zero_add, List.drop_nil] at c0 c1 c2 c3 c4
             clear hB9 hz9))
        refine bodyPost_ret (v := .tuple #[.agg #[.string ⟨#[]⟩, .string ⟨#[]⟩, .slice none 0 0, .slice none 0 0, .bool false], .int .i64 0, .int .i64 284]) (by simp [results, Tryd.results15, go_sem, c0, c1, c2, c3, c4]) rfl ?_
        exact rall_err (by rw [HR.out, ← HRR.out]; simp only; rw [if_pos ⟨H33.out, of_decide_eq_true HS.out.2.2.2.symm⟩]) (S4.out.low.grown hg9 S4.out.low.size (fun j hj => by injection hj with hj; have := S4.out.h2e; omega)) rfl
    · have b3 : ((er : Int) == 283) = false := by rw [beq_eq_false_iff_ne]; omega
      have H33 := Lib.hid h3
      clear h3
      go_wp2_with (first
        | (go_at_call 30; go_must (refine (C1.out).mono ?_); rintro e w2 hp2; obtain ⟨hb2, rfl⟩ := hp2; have S2 := Lib.hid (S1.out.below hb2); clear hb2)
        | ((with_reducible show wpList _ _ _ (⟨some 5, _, _, _, _, _⟩ :: _) _ _); go_must (refine wpList_allocB AR rfl rfl w2.heap.size rfl ?_); intro w3 hB3 hb3 hz3; have H3 := Lib.hid (And.intro hB3 hb3); clear hB3 hb3 hz3)
        | ((with_reducible show wpList _ _ _ (⟨none, .store _ (.tmp 5) _, _, _, _, _⟩ :: _) _ _); go_must (refine wpList_storeB AR rfl (.tmp 5) (.tmp 16) rfl w2.heap.size 0 rfl [.string ⟨#[]⟩, .string ⟨#[]⟩, .slice none 0 0, .slice none 0 0, .bool false] rfl rfl _ _ H3.out.1 (by simp) (by simp [Value.oneCell']) ?_); intro w4 hB4 hg4 hz4
           simp only [splice, List.take_zero, List.nil_append, List.length_cons, List.length_nil, List.drop_succ_cons, List.drop_zero, List.append_nil, Nat.zero_add, List.drop_nil] at hB4
           have S4 := Lib.hid (QS.keep (S2.out.below H3.out.2) hg4 S2.out.h2.lt)
           have B4 := Lib.hid (H3.out.2.grown hg4 H3.out.2.size (fun j hj => by injection hj with hj; omega))
           have H4 := Lib.hid hB4; clear hB4 hg4 hz4)
        | ((with_reducible show wpList _ _ _ (⟨some 26, _, _, _, _, _⟩ :: _) _ _); go_must (refine wpList_loadB AR rfl (.tmp 5) rfl w2.heap.size 0 rfl _ _ H4.out [.string ⟨#[]⟩, .string ⟨#[]⟩, .slice none 0 0, .slice none 0 0, .bool false] (by simp) rfl ?_))
        | ((with_reducible show wpList _ _ _ (⟨none, .store _ (.tmp 2) _, _, _, _, _⟩ :: _) _ _); go_must (refine wpList_storeB AR rfl (.tmp 2) (.tmp 26) rfl H2 0 rfl [.string ⟨#[]⟩, .string ⟨#[]⟩, .slice none 0 0, .slice none 0 0, .bool false] rfl rfl _ _ S4.out.h2 (by simp) (by simp [Value.oneCell']) ?_); intro w9 hB9 hg9 hz9
           have c0 := hB9.cell 0
           have c1 := hB9.cell 1
           have c2 := hB9.cell 2
           have c3 := hB9.cell 3
           have c4 := hB9.cell 4
           simp only [splice, List.take_zero, List.nil_append, List.length_cons, List.length_nil, List.drop_succ_cons, List.drop_zero, List.append_nil, List.getElem?_cons_zero, List.getElem?_cons_succ, Nat.zero_add, List.drop_nil] at c0 c1 c2 c3 c4
           clear hB9 hz9))
      refine bodyPost_ret (v := .tuple #[.agg #[.string ⟨#[]⟩, .string ⟨#[]⟩, .slice none 0 0, .slice none 0 0, .bool false], .int .i64 0, .int .i64 (er : Nat)]) (by simp [results, Tryd.results15, go_sem, c0, c1, c2, c3, c4]) rfl ?_
      exact rall_err (by rw [HR.out, ← HRR.out]; simp only; rw [if_neg (fun h => H33.out h.1)]) (S4.out.low.grown hg9 S4.out.low.size (fun j hj => by injection hj with hj; have := S4.out.h2e; omega)) rfl
  | ok rq t =>
    obtain ⟨sm, hsm⟩ : ∃ x, x = (⟨rq.method.toArray⟩ : ByteArray) := ⟨_, rfl⟩
    obtain ⟨stg, hst⟩ : ∃ x, x = (⟨rq.target.toArray⟩ : ByteArray) := ⟨_, rfl⟩
    obtain ⟨hm, hhm⟩ : ∃ x, x = rq.headers.length := ⟨_, rfl⟩
    obtain ⟨bl, hbl⟩ : ∃ x, x = rq.body.length := ⟨_, rfl⟩
    obtain ⟨cl, hcl⟩ : ∃ x, x = rq.close := ⟨_, rfl⟩
    obtain ⟨p3, hp3⟩ : ∃ x, x = s.length - t.length := ⟨_, rfl⟩
    unfold RReadPost at c1
    simp only at c1
    rw [← hsm, ← hst, ← hhm, ← hbl, ← hcl, ← hp3] at c1
    have C1 := Lib.hid c1
    have HQ := Lib.hid (And.intro hsm (And.intro hst (And.intro hhm (And.intro hbl (And.intro hcl hp3)))))
    clear c1 hsm hst hhm hbl hcl hp3
    go_wp2_with (first
      | (go_at_call 30; go_must (refine (C1.out).mono ?_); rintro e w2 hp2; obtain ⟨hb2, A5, k5, A7, k7, rfl, hv5, hr7, hsp, hlo⟩ := hp2; have S2 := Lib.hid (S1.out.below hb2); have V2 := Lib.hid (And.intro hv5 (And.intro hr7 (And.intro hsp hlo))); clear hv5 hr7 hsp hlo; clear hb2)
      | ((with_reducible show wpList _ _ _ (⟨some 5, _, _, _, _, _⟩ :: _) _ _); go_must (refine wpList_allocB AR rfl rfl w2.heap.size rfl ?_); intro w3 hB3 hb3 hz3; have H3 := Lib.hid (And.intro hB3 hb3); clear hB3 hb3 hz3)
      | ((with_reducible show wpList _ _ _ (⟨none, .store _ (.tmp 5) _, _, _, _, _⟩ :: _) _ _); go_must (refine wpList_storeB AR rfl (.tmp 5) (.tmp 16) rfl w2.heap.size 0 rfl [.string sm, .string stg, .slice A5 hm k5, .slice A7 bl k7, .bool cl] rfl rfl _ _ H3.out.1 (by simp) (by simp [Value.oneCell']) ?_); intro w4 hB4 hg4 hz4
         simp only [splice, List.take_zero, List.nil_append, List.length_cons, List.length_nil, List.drop_succ_cons, List.drop_zero, List.append_nil, Nat.zero_add, List.drop_nil] at hB4
         have S4 := Lib.hid (QS.keep (S2.out.below H3.out.2) hg4 S2.out.h2.lt)
         have B4 := Lib.hid (H3.out.2.grown hg4 H3.out.2.size (fun j hj => by injection hj with hj; omega))
         have H4 := Lib.hid hB4; clear hB4 hg4 hz4)
      | ((with_reducible show wpList _ _ _ (⟨some 26, _, _, _, _, _⟩ :: _) _ _); go_must (refine wpList_loadB AR rfl (.tmp 5) rfl w2.heap.size 0 rfl _ _ H4.out [.string sm, .string stg, .slice A5 hm k5, .slice A7 bl k7, .bool cl] (by simp) rfl ?_))
      | ((with_reducible show wpList _ _ _ (⟨none, .store _ (.tmp 2) _, _, _, _, _⟩ :: _) _ _); go_must (refine wpList_storeB AR rfl (.tmp 2) (.tmp 26) rfl H2 0 rfl [.string sm, .string stg, .slice A5 hm k5, .slice A7 bl k7, .bool cl] rfl rfl _ _ S4.out.h2 (by simp) (by simp [Value.oneCell']) ?_); intro w9 hB9 hg9 hz9
         have c0 := hB9.cell 0
         have c1 := hB9.cell 1
         have c2 := hB9.cell 2
         have c3 := hB9.cell 3
         have c4 := hB9.cell 4
         simp only [splice, List.take_zero, List.nil_append, List.length_cons, List.length_nil, List.drop_succ_cons, List.drop_zero, List.append_nil, List.getElem?_cons_zero, List.getElem?_cons_succ, Nat.zero_add, List.drop_nil] at c0 c1 c2 c3 c4
         clear hB9 hz9))
    refine bodyPost_ret (v := .tuple #[.agg #[.string sm, .string stg, .slice A5 hm k5, .slice A7 bl k7, .bool cl], .int .i64 (p3 : Int), .int .i64 0]) (by simp [results, Tryd.results15, go_sem, c0, c1, c2, c3, c4]) rfl ?_
    have hlow := (S4.out.low.grown hg9 S4.out.low.size (fun j hj => by injection hj with hj; have := S4.out.h2e; omega))
    refine rall_ok (rq := rq) (n := p3) (A := A5) (k := k5) (A2 := A7) (k2 := k7) (by rw [HR.out, ← HRR.out, HQ.out.2.2.2.2.2]) hlow (by rw [← HQ.out.1, ← HQ.out.2.1, ← HQ.out.2.2.1, ← HQ.out.2.2.2.1, ← HQ.out.2.2.2.2.1]; try rfl) ?_ ?_ (fun ad e => (V2.out.2.2.1 ad e).1)
    · exact rv_far (V2.out.1.below B4.out) hg9 (fun ad e => by have := (V2.out.2.2.1 ad e).2; have := S1.out.h2.lt; omega)
    · exact RB.grown (V2.out.2.1.below B4.out) (fun _ ad e => by have := V2.out.2.2.2 ad e; have := S1.out.h2.lt; omega) hg9
end Go.Proofs.YtojemdggbcklkaaDoor.WireR
