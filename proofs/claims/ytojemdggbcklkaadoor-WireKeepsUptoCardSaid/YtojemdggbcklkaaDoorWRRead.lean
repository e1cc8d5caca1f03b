/- weirref28.read: a request: the ways joined. (Printed by mkwrread2.py.) -/
import Derived.Test.YtojemdggbcklkaaDoorWRead
import Derived.Test.YtojemdggbcklkaaDoorWRFirst
import Derived.Test.YtojemdggbcklkaaDoorWConn
import Derived.Test.YtojemdggbcklkaaDoorAppB

/- weirref28.read: a request. (Printed by mkwrread.py.) -/
namespace Go.Proofs.YtojemdggbcklkaaDoor.WireR
open Go.RowKit Go.Proofs.YtojemdggbcklkaaDoor.Mem Go.Proofs.YtojemdggbcklkaaDoor.Wire Go.Proofs.YtojemdggbcklkaaDoor.Strs Go.Proofs.YtojemdggbcklkaaDoor.Heads
set_option linter.unusedVariables false
set_option linter.unusedSimpArgs false
set_option maxRecDepth 4000

structure QS (w wr : World) (H2 : Nat) : Prop where
  low : Below w.heap.size w wr
  h2 : Blk wr H2 30 [.string ⟨#[]⟩, .string ⟨#[]⟩, .slice none 0 0, .slice none 0 0, .bool false]
  h2e : w.heap.size ≤ H2
structure QR (w wr : World) (H2 : Nat) (A5 : Option Addr) (hs : List HD) : Prop extends QS w wr H2 where
  rv : RV wr A5 (hdrV hs)
  ne : ∀ ad, A5 = some ad → ad.block ≠ H2
  sp : ∀ ad, A5 = some ad → ad.spot = none ∧ w.heap.size ≤ ad.block
theorem QS.below {w wr w' : World} {H2 : Nat} (h : QS w wr H2) (hb : Below wr.heap.size wr w') : QS w w' H2 := ⟨h.low.trans (hb.mono h.low.size), h.h2.grow hb, h.h2e⟩
theorem QR.below {w wr w' : World} {H2 : Nat} {A5 : Option Addr} {hs : List HD} (h : QR w wr H2 A5 hs) (hb : Below wr.heap.size wr w') : QR w w' H2 A5 hs := ⟨h.toQS.below hb, h.rv.below hb, h.ne, h.sp⟩
theorem own_addr {w : World} {B n c size : Nat} {T : TypeId} {A : Option Addr} {xs : List Value} (h : w.ownsRow B T size (.slice A n c) n xs) : ∀ ad, A = some ad → B ≤ ad.block := fun ad e => by
  rcases h.2 with ⟨h1, _⟩ | ⟨g, cap, cur, h1, h2, _⟩
  · injection h1 with h1; rw [e] at h1; cases h1
  · injection h1 with h1; rw [e] at h1; injection h1 with h1; rw [h1]; exact h2
theorem rv_far {w w' : World} {A : Option Addr} {xs : List Value} {g : Nat} (h : RV w A xs) (hb : w.grownBy w' (some g)) (hf : ∀ ad, A = some ad → ad.block ≠ g) : RV w' A xs := fun k hk => by
  obtain ⟨ad, e, hc⟩ := h k hk
  have hne := hf ad e
  have hlt := block_lt_of_cell hc
  refine ⟨ad, e, ?_⟩
  have hbl := hb.block (ad.add k).block hlt (by rw [block_of_add]; simpa using hne)
  have : w'.cell? (ad.add k) = w.cell? (ad.add k) := by simp [World.cell?, hbl]
  rw [this, hc]
theorem ownB_addr {w : World} {B n c : Nat} {e : TypeId} {A : Option Addr} {l : List UInt8} (h : OwnB w B e (.slice A n c) l) : ∀ ad, A = some ad → B ≤ ad.block := fun ad e => by
  rcases h with ⟨h1, _⟩ | ⟨g, cap, cur, fz, h1, h2, _⟩
  · injection h1 with h1; rw [e] at h1; cases h1
  · injection h1 with h1; rw [e] at h1; injection h1 with h1; rw [h1]; exact h2
theorem chunks_len : ∀ {f : Nat} (p : Nat) {t x b : Bytes}, chunksF f p t = .ok x b → x.length ≤ t.length
  | 0, p, t, x, b, h => by cases h
  | f + 1, p, t, x, b, h => by
    unfold chunksF at h
    cases hl : lineS 282 t with
    | err e => rw [hl] at h; cases h
    | ok c b1 =>
      rw [hl] at h
      simp only at h
      have h1 := lineS_len hl
      cases hz : sizeS c with
      | none => rw [hz] at h; cases h
      | some n =>
        rw [hz] at h
        simp only at h
        split at h
        · cases hf : fieldsS 282 b1 with
          | err e => rw [hf] at h; cases h
          | ok y z => rw [hf] at h; injection h with h2 h3; subst h2; simp
        · split at h
          · cases h
          · split at h
            · cases h
            · split at h
              · cases h
              · cases hf : chunksF f (p + (t.length - b1.length) + n + 2) (b1.drop (n + 2)) with
                | err e => rw [hf] at h; cases h
                | ok y z =>
                  rw [hf] at h
                  injection h with h2 h3
                  have ih := chunks_len _ hf
                  rw [List.length_drop] at ih
                  subst h2
                  rw [List.length_append, List.length_take]
                  omega
/-- the reference's answer -/
def RReadPost (w : World) (s : Bytes) (r : Res Req) (e : Ending) (w' : World) : Prop :=
  Below w.heap.size w w' ∧ match r with
  | .err er => e = .returned (.tuple #[.agg #[.string ⟨#[]⟩, .string ⟨#[]⟩, .slice none 0 0, .slice none 0 0, .bool false], .int .i64 0, .int .i64 (er : Nat)])
  | .ok rq t => ∃ A k A2 k2, e = .returned (.tuple #[.agg #[.string ⟨rq.method.toArray⟩, .string ⟨rq.target.toArray⟩, .slice A rq.headers.length k, .slice A2 rq.body.length k2, .bool rq.close], .int .i64 ((s.length - t.length : Nat) : Int), .int .i64 0]) ∧
      RV w' A (hdrV rq.headers) ∧ RB w' A2 rq.body ∧ (∀ ad, A = some ad → ad.spot = none ∧ w.heap.size ≤ ad.block) ∧ (∀ ad, A2 = some ad → w.heap.size ≤ ad.block)
theorem own_spot {w : World} {B n c size : Nat} {T : TypeId} {A : Option Addr} {xs : List Value} (h : w.ownsRow B T size (.slice A n c) n xs) : ∀ ad, A = some ad → ad.spot = none := fun ad e => by
  rcases h.2 with ⟨h1, _⟩ | ⟨g, cap, cur, h1, h2, _⟩
  · injection h1 with h1; rw [e] at h1; cases h1
  · injection h1 with h1; rw [e] at h1; injection h1 with h1; rw [h1]
theorem rrd_err {w w' : World} {s : Bytes} {r : Res Req} {er : Nat} {e : Ending} (h : r = .err er) (hb : Below w.heap.size w w') (he : e = .returned (.tuple #[.agg #[.string ⟨#[]⟩, .string ⟨#[]⟩, .slice none 0 0, .slice none 0 0, .bool false], .int .i64 0, .int .i64 (er : Nat)])) : RReadPost w s r e w' := by rw [h]; exact ⟨hb, he⟩
theorem rrd_ok {w w' : World} {s t : Bytes} {r : Res Req} {rq : Req} {e : Ending} {A A2 : Option Addr} {k k2 : Nat} (h : r = .ok rq t) (hb : Below w.heap.size w w') (he : e = .returned (.tuple #[.agg #[.string ⟨rq.method.toArray⟩, .string ⟨rq.target.toArray⟩, .slice A rq.headers.length k, .slice A2 rq.body.length k2, .bool rq.close], .int .i64 ((s.length - t.length : Nat) : Int), .int .i64 0])) (hv : RV w' A (hdrV rq.headers)) (hr : RB w' A2 rq.body) (hsp : ∀ ad, A = some ad → ad.spot = none ∧ w.heap.size ≤ ad.block) (hlo : ∀ ad, A2 = some ad → w.heap.size ≤ ad.block) : RReadPost w s r e w' := by rw [h]; exact ⟨hb, A, k, A2, k2, he, hv, hr, hsp, hlo⟩
theorem wpList_convB {P : Program} {src dst e : TypeId} {w : World} {ops : Array Oper} {rest : List Oper} {o : Oper} {a : Act} {Q : Exit → Act → World → Prop} (hgd : o.guard = none) (x : Operand) (ho : o.op = .convert src dst x)
    (hs : P.underlying src = some .string) (hd : P.underlying dst = some (.slice e)) (he : P.underlying e = some (.int .u8)) (l : List UInt8) (hx : a.eval x = .string ⟨l.toArray⟩) (hl : l.length ≤ maxLen)
    (h : ∀ A k w', RB w' A l → (∀ ad, A = some ad → w.heap.size ≤ ad.block) → Below w.heap.size w w' → wpList P ops Q rest (a.put o.dst (.slice A l.length k)) w') : wpList P ops Q (o :: rest) a w := by
  obtain ⟨v, w', hrun, hown, hb⟩ := conv_own (P := P) (w := w) (l := l) (e := e) hs hd he hl
  obtain ⟨A, k, rfl, hrb⟩ := hown.rb
  refine wpList_plain hgd fun K hK => ?_
  unfold Oper.wp
  simp [execOp, ho, hx, hrun, Result.andThen]
  exact hK _ _ (h A k w' hrb (ownB_addr hown) hb)
def okHead (hs : List HD) (old : Bool) : Bool := headOk (vals hs nHost) (vals hs nLong) (vals hs nCode) old
theorem judge_bad {hs : List HD} {old : Bool} (h : okHead hs old = false) : judgeS hs old = none := by
  unfold judgeS
  rw [if_neg (by rw [show headOk (vals hs nHost) (vals hs nLong) (vals hs nCode) old = false from h]; simp)]
theorem judge_good {hs : List HD} {old : Bool} (h : okHead hs old = true) : judgeS hs old = match vals hs nLong with
    | d :: _ => if d ≠ [] ∧ d.all digB = true then some (.long (numS d)) else none
    | [] => if (vals hs nCode).isEmpty = true then some .none else some .chunked := by
  unfold judgeS
  rw [if_pos (show headOk (vals hs nHost) (vals hs nLong) (vals hs nCode) old = true from h)]
  rfl
theorem jg_nil {hs : List HD} {old : Bool} (h : okHead hs old = true) (hL : vals hs nLong = []) : judgeS hs old = if (vals hs nCode).isEmpty = true then some .none else some .chunked := by rw [judge_good h, hL]
theorem jg_one {hs : List HD} {old : Bool} {d : Bytes} (h : okHead hs old = true) (hL : (vals hs nLong).length = 1) (hd : d = headS (vals hs nLong)) : judgeS hs old = if d ≠ [] ∧ d.all digB = true then some (.long (numS d)) else none := by
  rw [judge_good h]
  rcases hv : vals hs nLong with _ | ⟨a, r⟩
  · rw [hv] at hL; cases hL
  · rw [hv] at hd; rw [hd]; rfl
theorem ok_eq {hs : List HD} {old : Bool} {h m q : Nat} {C : List Bytes} (h1 : h = (vals hs nHost).length) (h2 : m = (vals hs nLong).length) (h3 : q = C.length) (hC : C = vals hs nCode) :
    okHead hs old = (decide (h ≤ 1) && (decide (h ≠ 0) || old) && decide (m ≤ 1) && decide (q ≤ 1) && decide (m + q ≤ 1) && (decide (q = 0) || (!old && decide (low (headS C) = nChunked)))) := by
  have e : ∀ l : List Bytes, l.isEmpty = decide (l.length = 0) := fun l => by cases l <;> rfl
  unfold okHead headOk
  rw [← hC, e, e, ← h1, ← h2, ← h3]
  simp
set_option maxHeartbeats 32000000 in
noncomputable def rrA : {G : Prop × Prop × Prop // (Unit → G.1) → (Unit → G.2.1) → (Unit → G.2.2) → ∀ (s : Bytes) (w : World) (hl : s.length ≤ 65536), Calls Tryd.prog 30 #[.string ⟨s.toArray⟩] w (RReadPost w s (readS s))} := ⟨(_, _, _), fun TF TC TL s w hl => by
  obtain ⟨S, hS⟩ : ∃ S, S = (⟨s.toArray⟩ : ByteArray) := ⟨_, rfl⟩
  obtain ⟨sn, hsn⟩ : ∃ n, n = s.length := ⟨_, rfl⟩
  have hsz : S.size = sn := by rw [hS, hsn]; simp [ByteArray.size]
  have hsni : (sn : Int) ≤ 65536 := by omega
  have l0 := fun W => rline_any s 0 W (Nat.zero_le _) (by omega) 280 (by omega)
  have r0 := fun q h W => rlines_any s q W h hl 281 (by omega)
  have k0 := fun q h W => rchunks_any s q W h hl
  rw [List.drop_zero] at l0
  rw [← hS] at l0 r0 k0 ⊢
  have L0 := Lib.hid l0
  have R0 := Lib.hid r0
  have K0 := Lib.hid k0
  have HB := Lib.hid (And.intro hl (And.intro hsn hS))
  clear l0 r0 k0 hl hsn hS
  go_enter Tryd.func30, Tryd.ntmps30
  go_upto_region 1 with fail
  obtain ⟨w1, hw1⟩ : ∃ x, x = w.alloc (.cells #[.string ⟨#[]⟩, .string ⟨#[]⟩, .slice none 0 0, .slice none 0 0, .bool false] 30) := ⟨_, rfl⟩
  rw [← hw1]
  have hb1 : Below w.heap.size w w1 := hw1 ▸ ga (gr w) _
  have hB1 : Blk w1 w.heap.size 30 [.string ⟨#[]⟩, .string ⟨#[]⟩, .slice none 0 0, .slice none 0 0, .bool false] := hw1 ▸ Blk.new w _ _
  obtain ⟨H2, hH⟩ : ∃ H, H = w.heap.size := ⟨_, rfl⟩
  rw [← hH] at hB1 ⊢
  have S1 := Lib.hid (QS.mk hb1 hB1 (by omega))
  clear hb1 hB1 hw1 hH
  have c1 := L0.out w1
  cases hl1 : lineS 280 s with
  | err er =>
    rw [hl1] at c1
    have HE := Lib.hid (show readS s = .err er by unfold readS; rw [hl1])
    unfold RLinePost at c1
    simp only at c1
    by_cases h3 : er = 283
    · simp only [if_pos h3] at c1
      have C1 := Lib.hid c1
      have HF := Lib.hid h3
      clear c1 hl1 h3
      go_wp2_with (first
        | (go_at_call 39; go_must (refine (C1.out).mono ?_); rintro e w2 ⟨rfl, hw2⟩; rw [← hw2]; clear hw2 w2)
        | ((with_reducible show wpList _ _ _ (⟨none, .store _ (.tmp 2) _, _, _, _, _⟩ :: _) _ _); go_must (refine wpList_storeB AR rfl (.tmp 2) (.tmp 30) rfl H2 0 rfl [.string ⟨#[]⟩, .string ⟨#[]⟩, .slice none 0 0, .slice none 0 0, .bool false] rfl rfl _ _ S1.out.h2 (by simp) (by simp [Value.oneCell']) ?_); intro w9 hB9 hg9 hz9
           have c0 := hB9.cell 0
           have c1 := hB9.cell 1
           have c2 := hB9.cell 2
           have c3 := hB9.cell 3
           have c4 := hB9.cell 4
           simp only [splice, List.take_zero, List.nil_append, List.length_cons, List.length_nil, List.drop_succ_cons, List.drop_zero, List.append_nil, List.getElem?_cons_zero, List.getElem?_cons_succ, Nat.zero_add, List.drop_nil] at c0 c1 c2 c3 c4
           clear hB9 hz9))
      refine bodyPost_ret (v := .tuple #[.agg #[.string ⟨#[]⟩, .string ⟨#[]⟩, .slice none 0 0, .slice none 0 0, .bool false], .int .i64 0, .int .i64 283]) (by simp [results, Tryd.results30, go_sem, c0, c1, c2, c3, c4]) rfl ?_
      exact rrd_err (by rw [HE.out, HF.out]) (S1.out.low.grown hg9 S1.out.low.size (fun j hj => by injection hj with hj; have := S1.out.h2e; omega)) rfl
    · simp only [if_neg h3] at c1
      have C1 := Lib.hid c1
      have HF := Lib.hid ((lineS_err2 hl1).resolve_left h3)
      have c2 := rfirst_any [] w1 (by simp)
      rw [show firstS [] = none from rfl] at c2
      have C2 := Lib.hid c2
      clear c1 hl1 h3 c2
      go_wp2_with (first
        | (go_at_call 39; go_must (refine (C1.out).mono ?_); rintro e w2 ⟨⟨j, hj0, rfl⟩, hw2⟩; rw [← hw2]; clear hw2 w2; have b0 : ((j : Int) == 0) = false := by rw [beq_eq_false_iff_ne]; omega)
        | (go_at_call 40; go_must (refine (C2.out).mono ?_); rintro e w4 ⟨⟨fa, fb, fc, rfl⟩, hb4⟩; have S4 := Lib.hid (S1.out.below hb4); clear hb4)
        | ((with_reducible show wpList _ _ _ (⟨none, .store _ (.tmp 2) _, _, _, _, _⟩ :: _) _ _); go_must (refine wpList_storeB AR rfl (.tmp 2) (.tmp 44) rfl H2 0 rfl [.string ⟨#[]⟩, .string ⟨#[]⟩, .slice none 0 0, .slice none 0 0, .bool false] rfl rfl _ _ S4.out.h2 (by simp) (by simp [Value.oneCell']) ?_); intro w9 hB9 hg9 hz9
           have c0 := hB9.cell 0
           have c1 := hB9.cell 1
           have c2 := hB9.cell 2
           have c3 := hB9.cell 3
           have c4 := hB9.cell 4
           simp only [splice, List.take_zero, List.nil_append, List.length_cons, List.length_nil, List.drop_succ_cons, List.drop_zero, List.append_nil, List.getElem?_cons_zero, List.getElem?_cons_succ, Nat.zero_add, List.drop_nil] at c0 c1 c2 c3 c4
           clear hB9 hz9))
      refine bodyPost_ret (v := .tuple #[.agg #[.string ⟨#[]⟩, .string ⟨#[]⟩, .slice none 0 0, .slice none 0 0, .bool false], .int .i64 0, .int .i64 280]) (by simp [results, Tryd.results30, go_sem, c0, c1, c2, c3, c4]) rfl ?_
      exact rrd_err (by rw [HE.out, HF.out]) (S4.out.low.grown hg9 S4.out.low.size (fun j hj => by injection hj with hj; have := S4.out.h2e; omega)) rfl
  | ok l t1 =>
    rw [hl1] at c1
    obtain ⟨u1, hu1⟩ := lineS_suf hl1
    have hbs := drop_suf (s := s) (u := u1) (b := t1) (q := 0) (by rw [List.drop_zero]; exact hu1) (Nat.zero_le _)
    have htl := lineS_len hl1
    have hll := lineS_le hl1
    obtain ⟨p1, hp1⟩ : ∃ p, p = s.length - t1.length := ⟨_, rfl⟩
    unfold RLinePost at c1
    simp only at c1
    rw [← hp1] at hbs c1
    have hp1n : p1 ≤ s.length := by omega
    have b0 : ((p1 : Int) == 0) = false := by rw [beq_eq_false_iff_ne]; omega
    have c2 := rfirst_any l w1 (by have := HB.out.1; omega)
    obtain ⟨sl, hsl⟩ : ∃ x, x = (⟨l.toArray⟩ : ByteArray) := ⟨_, rfl⟩
    rw [← hsl] at c1 c2
    have C1 := Lib.hid c1
    cases hfs : firstS l with
    | none =>
      rw [hfs] at c2
      have C2 := Lib.hid c2
      have HE := Lib.hid (show readS s = .err 280 by unfold readS; rw [hl1]; simp only; rw [hfs])
      clear c1 c2 hl1 hfs hu1 hbs hp1 hp1n hsl htl hll
      go_wp2_with (first
        | (go_at_call 39; go_must (refine (C1.out).mono ?_); rintro e w2 ⟨rfl, hw2⟩; rw [← hw2]; clear hw2 w2)
        | (go_at_call 40; go_must (refine (C2.out).mono ?_); rintro e w4 ⟨⟨fa, fb, fc, rfl⟩, hb4⟩; have S4 := Lib.hid (S1.out.below hb4); clear hb4)
        | ((with_reducible show wpList _ _ _ (⟨none, .store _ (.tmp 2) _, _, _, _, _⟩ :: _) _ _); go_must (refine wpList_storeB AR rfl (.tmp 2) (.tmp 44) rfl H2 0 rfl [.string ⟨#[]⟩, .string ⟨#[]⟩, .slice none 0 0, .slice none 0 0, .bool false] rfl rfl _ _ S4.out.h2 (by simp) (by simp [Value.oneCell']) ?_); intro w9 hB9 hg9 hz9
           have c0 := hB9.cell 0
           have c1 := hB9.cell 1
           have c2 := hB9.cell 2
           have c3 := hB9.cell 3
           have c4 := hB9.cell 4
           simp only [splice, List.take_zero, List.nil_append, List.length_cons, List.length_nil, List.drop_succ_cons, List.drop_zero, List.append_nil, List.getElem?_cons_zero, List.getElem?_cons_succ, Nat.zero_add, List.drop_nil] at c0 c1 c2 c3 c4
           clear hB9 hz9))
      refine bodyPost_ret (v := .tuple #[.agg #[.string ⟨#[]⟩, .string ⟨#[]⟩, .slice none 0 0, .slice none 0 0, .bool false], .int .i64 0, .int .i64 280]) (by simp [results, Tryd.results30, go_sem, c0, c1, c2, c3, c4]) rfl ?_
      exact rrd_err (HE.out) (S4.out.low.grown hg9 S4.out.low.size (fun j hj => by injection hj with hj; have := S4.out.h2e; omega)) rfl
    | some mto =>
      obtain ⟨mm, tg, old⟩ := mto
      rw [hfs] at c2
      obtain ⟨sm, hsm⟩ : ∃ x, x = (⟨mm.toArray⟩ : ByteArray) := ⟨_, rfl⟩
      obtain ⟨stg, hst⟩ : ∃ x, x = (⟨tg.toArray⟩ : ByteArray) := ⟨_, rfl⟩
      obtain ⟨sv, hsv⟩ : ∃ x, x = (⟨(if old = true then v10 else v11).toArray⟩ : ByteArray) := ⟨_, rfl⟩
      have kv : (sv.toList == [72, 84, 84, 80, 47, 49, 46, 48]) = old := by
        rw [hsv]; exact (str_lit _ v10).trans (by cases old <;> decide)
      unfold RFirstPost at c2
      simp only at c2
      rw [← hsm, ← hst, ← hsv] at c2
      have C2 := Lib.hid c2
      have HS := Lib.hid (And.intro hsm (And.intro hst (And.intro hbs hp1n)))
      have HE1 := Lib.hid (show readS s = readT s mm tg old (s.drop p1) by rw [← hbs]; exact read_eq hl1 hfs)
      have c3 := R0.out p1 hp1n
      clear c1 c2 hl1 hfs hu1 hbs hp1 hp1n hsm hst hsv hsl htl hll
      cases hff : fieldsS 281 (s.drop p1) with
      | err er =>
        simp only [hff] at c3
        have C3 := Lib.hid c3
        have hy0 : (er : Int) ≠ 0 := by have := fields_err _ hff; omega
        have HE := Lib.hid (show readS s = .err er by rw [HE1.out, rt_err hff])
        clear c3 hff kv
        go_wp2_with (first
          | (go_at_call 39; go_must (refine (C1.out).mono ?_); rintro e w2 ⟨rfl, hw2⟩; rw [← hw2]; clear hw2 w2)
          | (go_at_call 40; go_must (refine (C2.out).mono ?_); rintro e w4 ⟨rfl, hb4⟩; have S4 := Lib.hid (S1.out.below hb4); clear hb4)
          | (go_at_call 41; go_must (refine (C3.out _).mono ?_); rintro e w5 hp5; obtain ⟨hb5, rfl⟩ := hp5; have S5 := Lib.hid (S4.out.below hb5); clear hb5)
          | ((with_reducible show wpList _ _ _ (⟨none, .store _ (.tmp 2) _, _, _, _, _⟩ :: _) _ _); go_must (refine wpList_storeB AR rfl (.tmp 2) (.tmp 54) rfl H2 0 rfl [.string ⟨#[]⟩, .string ⟨#[]⟩, .slice none 0 0, .slice none 0 0, .bool false] rfl rfl _ _ S5.out.h2 (by simp) (by simp [Value.oneCell']) ?_); intro w9 hB9 hg9 hz9
             have c0 := hB9.cell 0
             have c1 := hB9.cell 1
             have c2 := hB9.cell 2
             have c3 := hB9.cell 3
             have c4 := hB9.cell 4
             simp only [splice, List.take_zero, List.nil_append, List.length_cons, List.length_nil, List.drop_succ_cons, List.drop_zero, List.append_nil, List.getElem?_cons_zero, List.getElem?_cons_succ, Nat.zero_add, List.drop_nil] at c0 c1 c2 c3 c4
             clear hB9 hz9))
        refine bodyPost_ret (v := .tuple #[.agg #[.string ⟨#[]⟩, .string ⟨#[]⟩, .slice none 0 0, .slice none 0 0, .bool false], .int .i64 0, .int .i64 (er : Nat)]) (by simp [results, Tryd.results30, go_sem, c0, c1, c2, c3, c4]) rfl ?_
        exact rrd_err (HE.out) (S5.out.low.grown hg9 S5.out.low.size (fun j hj => by injection hj with hj; have := S5.out.h2e; omega)) rfl
      | ok hs t2 =>
        simp only [hff] at c3
        obtain ⟨u2, hu2⟩ := fields_suf _ hff
        have hbs2 := drop_suf (s := s) (u := u2) (b := t2) (q := p1) hu2 HS.out.2.2.2
        obtain ⟨p2, hp2⟩ : ∃ p, p = s.length - t2.length := ⟨_, rfl⟩
        have hfl := fields_len _ hff
        have hdl : (s.drop p1).length ≤ 65536 := by rw [List.length_drop]; have := HB.out.1; omega
        have hok : ∀ h ∈ hs, HD.ok h := fun h hm => by have := hfl.2 h hm; exact ⟨by omega, by omega⟩
        have hok2 : ∀ h ∈ hs, h.2.length ≤ 65536 := fun h hm => by have := hfl.2 h hm; omega
        have hhl : hs.length ≤ 1048576 := by omega
        unfold RLinesPost at c3
        simp only at c3
        rw [← hp2] at c3 hbs2
        obtain ⟨hm, hhm⟩ : ∃ m, m = hs.length := ⟨_, rfl⟩
        rw [← hhm] at c3
        have C3 := Lib.hid c3
        have HH := Lib.hid (And.intro hhm (And.intro hok (And.intro hhl (And.intro hbs2 (And.intro hp2 (And.intro hff hok2))))))
        clear c3 hff hu2 hbs2 hp2 hfl hdl hok hhl hhm hok2
        go_upto_region 11 with (first
          | (go_at_call 39; go_must (refine (C1.out).mono ?_); rintro e w2 ⟨rfl, hw2⟩; rw [← hw2]; clear hw2 w2)
          | (go_at_call 40; go_must (refine (C2.out).mono ?_); rintro e w4 ⟨rfl, hb4⟩; have S4 := Lib.hid (S1.out.below hb4); clear hb4)
          | (go_at_call 41; go_must (refine (C3.out _).mono ?_); rintro e w5 hp5; obtain ⟨hb5, A5, k5, rfl, ho5⟩ := hp5; have S5 := Lib.hid (S4.out.below hb5); have Q5 := Lib.hid (QR.mk S5.out (own_rv ho5) (fun ad e => by have := own_addr ho5 ad e; have := S4.out.h2.lt; omega) (fun ad e => ⟨own_spot ho5 ad e, by have := own_addr ho5 ad e; have := S4.out.low.size; omega⟩)); clear ho5; clear hb5))
        have na := fun (W : World) (rv : RV W A5 (hdrV hs)) => values_any A5 hm k5 hs nHost W rv HH.out.1 HH.out.2.1 (by have := HH.out.1; have := HH.out.2.2.1; omega) (by decide)
        have nb := fun (W : World) (rv : RV W A5 (hdrV hs)) => values_any A5 hm k5 hs nLong W rv HH.out.1 HH.out.2.1 (by have := HH.out.1; have := HH.out.2.2.1; omega) (by decide)
        have nc := fun (W : World) (rv : RV W A5 (hdrV hs)) => values_any A5 hm k5 hs nCode W rv HH.out.1 HH.out.2.1 (by have := HH.out.1; have := HH.out.2.2.1; omega) (by decide)
        obtain ⟨Cd, hC⟩ : ∃ C, C = vals hs nCode := ⟨_, rfl⟩
        obtain ⟨Ld, hLd⟩ : ∃ C, C = vals hs nLong := ⟨_, rfl⟩
        obtain ⟨h, hh⟩ : ∃ h, h = (vals hs nHost).length := ⟨_, rfl⟩
        obtain ⟨m, hmm⟩ : ∃ h, h = Ld.length := ⟨_, rfl⟩
        obtain ⟨q, hqq⟩ : ∃ h, h = Cd.length := ⟨_, rfl⟩
        rw [← hh] at na
        rw [← hLd, ← hmm] at nb
        rw [← hC, ← hqq] at nc
        have hhi : (h : Int) ≤ 1048576 := by have := vals_len hs nHost; have := HH.out.1; have := HH.out.2.2.1; omega
        have hmi : (m : Int) ≤ 1048576 := by have := vals_len hs nLong; have := HH.out.1; have := HH.out.2.2.1; rw [hmm, hLd]; omega
        have hqi : (q : Int) ≤ 1048576 := by have := vals_len hs nCode; have := HH.out.1; have := HH.out.2.2.1; rw [hqq, hC]; omega
        have HOK := Lib.hid (ok_eq (old := old) hh (by rw [hmm, hLd] : m = (vals hs nLong).length) hqq hC)
        have HC := Lib.hid (And.intro hqq (And.intro hC (And.intro hmm hLd)))
        have Na := Lib.hid na
        have Nb := Lib.hid nb
        have Nc := Lib.hid nc
        clear na nb nc hh hmm hqq hC hLd
        go_upto_region 12 with (first
          | (go_at_call 42; (with_reducible show Calls _ _ #[_, .string ⟨#[104, 111, 115, 116]⟩] _ _); go_must (refine (Na.out _ Q5.out.rv).mono ?_); rintro e wa hpost; obtain ⟨va, rfl, hoa, hba⟩ := hpost; obtain ⟨Aa, ca, rfl, hcc⟩ := own_slice hoa; have Sa := Lib.hid (Q5.out.below hba); have Oa := Lib.hid hoa; clear hcc hoa hba)
          | (go_at_call 42; (with_reducible show Calls _ _ #[_, .string ⟨#[99, 111, 110, 116, 101, 110, 116, 45, 108, 101, 110, 103, 116, 104]⟩] _ _); go_must (refine (Nb.out _ Sa.out.rv).mono ?_); rintro e wb hpost; obtain ⟨vb, rfl, hob, hbb⟩ := hpost; obtain ⟨Ab, cb, rfl, hcc⟩ := own_slice hob; have Sb := Lib.hid (Sa.out.below hbb); have Oa2 := Lib.hid (own_below' Oa.out hbb); have Ob := Lib.hid hob; clear hcc hob hbb)
          | (go_at_call 42; (with_reducible show Calls _ _ #[_, .string ⟨#[116, 114, 97, 110, 115, 102, 101, 114, 45, 101, 110, 99, 111, 100, 105, 110, 103]⟩] _ _); go_must (refine (Nc.out _ Sb.out.rv).mono ?_); rintro e wc hpost; obtain ⟨vc, rfl, hoc, hbc⟩ := hpost; obtain ⟨Ac, cc, rfl, hcc⟩ := own_slice hoc; have Sc := Lib.hid (Sb.out.below hbc); have Ob2 := Lib.hid (own_below' Ob.out hbc); have Oc := Lib.hid hoc; clear hcc hoc hbc))
        go_cut [15, 16, 17, 18, 108] from 22 (fun v15 v16 v17 v18 v wx => v15 = .bool old ∧ v16 = .slice Aa h ca ∧ v17 = .slice Ab m cb ∧ v18 = .slice Ac q cc ∧ v = .bool (!okHead hs old) ∧ Below wc.heap.size wc wx)
        case first =>
          rename_i zz1 zz2 zz3 zz4 zz5 zz6 zz7 zz8
          revert s w S sn hsz hsni L0 R0 K0 HB w1 H2 S1 l t1 u1 p1 b0 sl C1 mm tg old sm stg sv kv C2 HS HE1 hs t2 u2 p2 hm C3 HH w4 S4 w5 A5 k5 S5 Q5 Cd Ld h m q hhi hmi hqi HOK HC Na Nb Nc wa Aa ca Sa Oa wb Ab cb Sb Oa2 Ob wc Ac cc Sc Ob2 Oc zz1 zz2 zz3 zz4 zz5 zz6 zz7 zz8
          exact TF ()
        case rest =>
          obtain ⟨rfl, rfl, rfl, rfl, rfl, hbx⟩ := hcut
          rename World => w9'
          have S9 := Lib.hid (Sc.out.below hbx)
          have O9 := Lib.hid (own_below' Ob2.out hbx)
          obtain ⟨bo, hbo⟩ : ∃ b, b = okHead hs old := ⟨_, rfl⟩
          rw [← hbo]
          have HBO := Lib.hid hbo.symm
          have hok9 := HOK.out
          rw [← hbo] at hok9
          clear hbo hbx
          cases bo
          case false =>
            have HE := Lib.hid (show readS s = .err 281 by rw [HE1.out, rt_none HH.out.2.2.2.2.2.1 (judge_bad HBO.out)])
            clear hok9
            go_wp2_with (first
              | ((with_reducible show wpList _ _ _ (⟨none, .store _ (.tmp 2) _, _, _, _, _⟩ :: _) _ _); go_must (refine wpList_storeB AR rfl (.tmp 2) (.tmp 109) rfl H2 0 rfl [.string ⟨#[]⟩, .string ⟨#[]⟩, .slice none 0 0, .slice none 0 0, .bool false] rfl rfl _ _ S9.out.h2 (by simp) (by simp [Value.oneCell']) ?_); intro w9 hB9 hg9 hz9
                 have c0 := hB9.cell 0
                 have c1 := hB9.cell 1
                 have c2 := hB9.cell 2
                 have c3 := hB9.cell 3
                 have c4 := hB9.cell 4
                 simp only [splice, List.take_zero, List.nil_append, List.length_cons, List.length_nil, List.drop_succ_cons, List.drop_zero, List.append_nil, List.getElem?_cons_zero, List.getElem?_cons_succ, Nat.zero_add, List.drop_nil] at c0 c1 c2 c3 c4
                 clear hB9 hz9))
            refine bodyPost_ret (v := .tuple #[.agg #[.string ⟨#[]⟩, .string ⟨#[]⟩, .slice none 0 0, .slice none 0 0, .bool false], .int .i64 0, .int .i64 281]) (by simp [results, Tryd.results30, go_sem, c0, c1, c2, c3, c4]) rfl ?_
            exact rrd_err (HE.out) (S9.out.low.grown hg9 S9.out.low.size (fun j hj => by injection hj with hj; have := S9.out.h2e; omega)) rfl
          case true =>
            have hm1 : m ≤ 1 := by simp at hok9; omega
            have hq1 : q ≤ 1 := by simp at hok9; omega
            have hmq : m + q ≤ 1 := by simp at hok9; omega
            clear hok9
            by_cases hm0 : m = 0
            · have bm0 : decide ((0 : Int) < (m : Int)) = false := by rw [decide_eq_false_iff_not]; omega
              have bm0n : decide (0 < m) = false := by rw [decide_eq_false_iff_not]; omega
              have hL0 : vals hs nLong = [] := List.eq_nil_of_length_eq_zero (by rw [← HC.out.2.2.2, ← HC.out.2.2.1]; exact hm0)
              have hj := jg_nil HBO.out hL0
              by_cases hq0 : q = 0
              · have bq0 : decide ((0 : Int) < (q : Int)) = false := by rw [decide_eq_false_iff_not]; omega
                have bq0n : decide (0 < q) = false := by rw [decide_eq_false_iff_not]; omega
                have hC0 : vals hs nCode = [] := List.eq_nil_of_length_eq_zero (by rw [← HC.out.2.1, ← HC.out.1]; exact hq0)
                rw [if_pos (by rw [hC0]; rfl)] at hj
                have HE := Lib.hid (show readS s = .ok ⟨mm, tg, hs, [], endS hs old⟩ t2 by rw [HE1.out]; exact rt_ok HH.out.2.2.2.2.2.1 hj rfl)
                have HSB := Lib.hid (And.intro (show (⟨#[]⟩ : ByteArray) = (⟨([] : Bytes).toArray⟩ : ByteArray) from rfl) (show ([] : Bytes).length ≤ 65536 by simp))
                clear hj hL0 hC0 hm0 hq0 hm1 hq1 hmq
                go_upto_region 29 with fail
                obtain ⟨bc, hbc⟩ : ∃ b, b = connS hs nClose := ⟨_, rfl⟩
                obtain ⟨bk, hbk⟩ : ∃ b, b = connS hs nKeep := ⟨_, rfl⟩
                have HBC := Lib.hid hbc
                have HBK := Lib.hid hbk
                have HCL := Lib.hid (show endS hs old = (bc || (old && !bk)) by unfold endS; rw [hbc, hbk])
                clear hbc hbk
                go_cut [15, 21] from 22 (fun v15 v21 wx => v15 = .bool old ∧ v21 = .bool (bc || (old && !bk)) ∧ Below w9'.heap.size w9' wx)
                case first =>
                  cases bc
                  · cases old
                    · go_wp2_with (first
                        | (go_at_call 46; (with_reducible show Calls _ _ #[_, .string ⟨#[99, 108, 111, 115, 101]⟩] _ _); go_must (refine (connection_any A5 hm k5 hs nClose _ S9.out.rv HH.out.1 HH.out.2.1 (by have := HH.out.1; have := HH.out.2.2.1; omega) (by decide) (by decide)).mono ?_); rintro e wk1 ⟨he, hbk1⟩; rw [← HBC.out] at he; subst he; have T1 := Lib.hid (hbk1); clear hbk1))
                      go_meet
                      exact ⟨rfl, rfl, T1.out⟩
                    · cases bk
                      · go_wp2_with (first
                          | (go_at_call 46; (with_reducible show Calls _ _ #[_, .string ⟨#[99, 108, 111, 115, 101]⟩] _ _); go_must (refine (connection_any A5 hm k5 hs nClose _ S9.out.rv HH.out.1 HH.out.2.1 (by have := HH.out.1; have := HH.out.2.2.1; omega) (by decide) (by decide)).mono ?_); rintro e wk1 ⟨he, hbk1⟩; rw [← HBC.out] at he; subst he; have T1 := Lib.hid (hbk1); clear hbk1)
                          | (go_at_call 46; (with_reducible show Calls _ _ #[_, .string ⟨#[107, 101, 101, 112, 45, 97, 108, 105, 118, 101]⟩] _ _); go_must (refine (connection_any A5 hm k5 hs nKeep _ (S9.out.rv.below T1.out) HH.out.1 HH.out.2.1 (by have := HH.out.1; have := HH.out.2.2.1; omega) (by decide) (by decide)).mono ?_); rintro e wk2 ⟨he, hbk2⟩; rw [← HBK.out] at he; subst he; have T2 := Lib.hid (gt T1.out hbk2); clear hbk2))
                        go_meet
                        exact ⟨rfl, rfl, T2.out⟩
                      · go_wp2_with (first
                          | (go_at_call 46; (with_reducible show Calls _ _ #[_, .string ⟨#[99, 108, 111, 115, 101]⟩] _ _); go_must (refine (connection_any A5 hm k5 hs nClose _ S9.out.rv HH.out.1 HH.out.2.1 (by have := HH.out.1; have := HH.out.2.2.1; omega) (by decide) (by decide)).mono ?_); rintro e wk1 ⟨he, hbk1⟩; rw [← HBC.out] at he; subst he; have T1 := Lib.hid (hbk1); clear hbk1)
                          | (go_at_call 46; (with_reducible show Calls _ _ #[_, .string ⟨#[107, 101, 101, 112, 45, 97, 108, 105, 118, 101]⟩] _ _); go_must (refine (connection_any A5 hm k5 hs nKeep _ (S9.out.rv.below T1.out) HH.out.1 HH.out.2.1 (by have := HH.out.1; have := HH.out.2.2.1; omega) (by decide) (by decide)).mono ?_); rintro e wk2 ⟨he, hbk2⟩; rw [← HBK.out] at he; subst he; have T2 := Lib.hid (gt T1.out hbk2); clear hbk2))
                        go_meet
                        exact ⟨rfl, rfl, T2.out⟩
                  · go_wp2_with (first
                      | (go_at_call 46; (with_reducible show Calls _ _ #[_, .string ⟨#[99, 108, 111, 115, 101]⟩] _ _); go_must (refine (connection_any A5 hm k5 hs nClose _ S9.out.rv HH.out.1 HH.out.2.1 (by have := HH.out.1; have := HH.out.2.2.1; omega) (by decide) (by decide)).mono ?_); rintro e wk1 ⟨he, hbk1⟩; rw [← HBC.out] at he; subst he; have T1 := Lib.hid (hbk1); clear hbk1))
                    go_meet
                    exact ⟨rfl, by cases old <;> rfl, T1.out⟩
                case rest =>
                  obtain ⟨rfl, rfl, hbx⟩ := hcut
                  rename World => w20
                  have S20 := Lib.hid (S9.out.below hbx)
                  clear hbx
                  obtain ⟨cl, hcl⟩ : ∃ c, c = (bc || (old && !bk)) := ⟨_, rfl⟩
                  rw [← hcl]
                  rw [← hcl] at HCL
                  clear hcl
                  go_wp2_with (first
                    | ((with_reducible show wpList _ _ _ (⟨some 169, _, _, _, _, _⟩ :: _) _ _); go_must (refine wpList_convB (src := 9) (dst := 22) (e := 5) rfl (.tmp 168) rfl Tryd.underlying9 Tryd.underlying22 Tryd.underlying5 [] rfl (by have := HSB.out.2; unfold maxLen; omega) ?_); intro A7 k7 w21 hr21 ha21 hb21; have S21 := Lib.hid (S20.out.below hb21); have R21 := Lib.hid (And.intro hr21 ha21); clear hr21 ha21 hb21)
                    | ((with_reducible show wpList _ _ _ (⟨none, .store _ (.tmp 2) _, _, _, _, _⟩ :: _) _ _); go_must (refine wpList_storeB AR rfl (.tmp 2) (.tmp 171) rfl H2 0 rfl [.string sm, .string stg, .slice A5 hm k5, .slice A7 0 k7, .bool cl] rfl rfl _ _ S21.out.h2 (by simp) (by simp [Value.oneCell']) ?_); intro w9 hB9 hg9 hz9
                       have c0 := hB9.cell 0
                       have c1 := hB9.cell 1
                       have c2 := hB9.cell 2
                       have c3 := hB9.cell 3
                       have c4 := hB9.cell 4
                       simp only [splice, List.take_zero, List.nil_append, List.length_cons, List.length_nil, List.drop_succ_cons, List.drop_zero, List.append_nil, List.getElem?_cons_zero, List.getElem?_cons_succ, Nat.zero_add, List.drop_nil] at c0 c1 c2 c3 c4
                       clear hB9 hz9))
                  refine bodyPost_ret (v := .tuple #[.agg #[.string sm, .string stg, .slice A5 hm k5, .slice A7 0 k7, .bool cl], .int .i64 (p2 : Int), .int .i64 0]) (by simp [results, Tryd.results30, go_sem, c0, c1, c2, c3, c4]) rfl ?_
                  have hlow := S21.out.low.grown hg9 S21.out.low.size (fun j hj => by injection hj with hj; have := S21.out.h2e; omega)
                  refine rrd_ok (HE.out) hlow (A := A5) (k := k5) (A2 := A7) (k2 := k7) (by rw [HCL.out, ← HS.out.1, ← HS.out.2.1, ← HH.out.1, ← HH.out.2.2.2.2.1]; try rfl) ?_ ?_ S21.out.sp (fun ad e => by have := R21.out.2 ad e; have := S20.out.low.size; omega)
                  · exact rv_far S21.out.rv hg9 S21.out.ne
                  · exact RB.grown R21.out.1 (fun _ ad e => by have := R21.out.2 ad e; have := S20.out.h2.lt; omega) hg9
              · rename_i zz1 zz2 zz3 zz4
                revert s w S sn hsz hsni L0 R0 K0 HB w1 H2 S1 l t1 u1 p1 b0 sl C1 mm tg old sm stg sv kv C2 HS HE1 hs t2 u2 p2 hm C3 HH w4 S4 w5 A5 k5 S5 Q5 Cd Ld h m q hhi hmi hqi HOK HC Na Nb Nc wa Aa ca Sa Oa wb Ab cb Sb Oa2 Ob wc Ac cc Sc Ob2 Oc zz1 zz2 zz3 zz4 w9' u22 u23 u24 u25 u26 u27 u28 u29 u30 u31 u32 u33 u34 u35 u36 u37 u38 u39 u40 u41 u42 u43 u44 u45 u46 u47 u48 u49 u50 u51 u52 u53 u54 u55 u56 u57 u58 u59 u60 u61 u62 u63 u64 u65 u66 u67 u68 u69 u70 u71 u72 u73 u74 u75 u76 u77 u78 u79 u80 u81 u82 u83 u84 u85 u86 u87 u88 u89 u90 u91 u92 u93 u94 u95 u96 u97 u98 u99 u100 u101 u102 u103 u104 u105 u106 u107 u109 u110 u111 u112 u113 u114 u115 u116 u117 u118 u119 u120 u121 u122 u123 u124 u125 u126 u127 u128 u129 u130 u131 u132 u133 u134 u135 u136 u137 u138 u139 u140 u141 u142 u143 u144 u145 u146 u147 u148 u149 u150 u151 u152 u153 u154 u155 u156 u157 u158 u159 u160 u161 u162 u163 u164 u165 u166 u167 u168 u169 u170 u171 u172 S9 O9 HBO hm1 hq1 hmq hm0 bm0 bm0n hL0 hj hq0
                exact TC ()
            · rename_i zz1 zz2 zz3 zz4
              revert s w S sn hsz hsni L0 R0 K0 HB w1 H2 S1 l t1 u1 p1 b0 sl C1 mm tg old sm stg sv kv C2 HS HE1 hs t2 u2 p2 hm C3 HH w4 S4 w5 A5 k5 S5 Q5 Cd Ld h m q hhi hmi hqi HOK HC Na Nb Nc wa Aa ca Sa Oa wb Ab cb Sb Oa2 Ob wc Ac cc Sc Ob2 Oc zz1 zz2 zz3 zz4 w9' u22 u23 u24 u25 u26 u27 u28 u29 u30 u31 u32 u33 u34 u35 u36 u37 u38 u39 u40 u41 u42 u43 u44 u45 u46 u47 u48 u49 u50 u51 u52 u53 u54 u55 u56 u57 u58 u59 u60 u61 u62 u63 u64 u65 u66 u67 u68 u69 u70 u71 u72 u73 u74 u75 u76 u77 u78 u79 u80 u81 u82 u83 u84 u85 u86 u87 u88 u89 u90 u91 u92 u93 u94 u95 u96 u97 u98 u99 u100 u101 u102 u103 u104 u105 u106 u107 u109 u110 u111 u112 u113 u114 u115 u116 u117 u118 u119 u120 u121 u122 u123 u124 u125 u126 u127 u128 u129 u130 u131 u132 u133 u134 u135 u136 u137 u138 u139 u140 u141 u142 u143 u144 u145 u146 u147 u148 u149 u150 u151 u152 u153 u154 u155 u156 u157 u158 u159 u160 u161 u162 u163 u164 u165 u166 u167 u168 u169 u170 u171 u172 S9 O9 HBO hm1 hq1 hmq hm0
              exact TL ()
⟩
end Go.Proofs.YtojemdggbcklkaaDoor.WireR

/- weirref28.read: a body of a told length. (Printed by mkwrread2.py.) -/

/- weirref28.read: the test of the head. (Printed by mkwrread2.py.) -/
namespace Go.Proofs.YtojemdggbcklkaaDoor.WireR
open Go.RowKit Go.Proofs.YtojemdggbcklkaaDoor.Mem Go.Proofs.YtojemdggbcklkaaDoor.Wire Go.Proofs.YtojemdggbcklkaaDoor.Strs Go.Proofs.YtojemdggbcklkaaDoor.Heads
set_option linter.unusedVariables false
set_option linter.unusedSimpArgs false
set_option maxRecDepth 4000
set_option maxHeartbeats 32000000
theorem rrF : rrA.1.1 := by
  intro s w S sn hsz hsni L0 R0 K0 HB w1 H2 S1 l t1 u1 p1 b0 sl C1 mm tg old sm stg sv kv C2 HS HE1 hs t2 u2 p2 hm C3 HH w4 S4 w5 A5 k5 S5 Q5 Cd Ld h m q hhi hmi hqi HOK HC Na Nb Nc wa Aa ca Sa Oa wb Ab cb Sb Oa2 Ob wc Ac cc Sc Ob2 Oc zz1 zz2 zz3 zz4 zz5 zz6 zz7 zz8
  obtain ⟨t, ht⟩ : ∃ t, t = m + q := ⟨_, rfl⟩
  have WW := Lib.hid (w64 (x := (m : Int) + (q : Int)) (y := (t : Int)) (by omega) (by omega) (by omega))
  clear hmi hqi
  by_cases h1 : 1 < h
  · have bh : decide ((1 : Int) < (h : Int)) = true := by rw [decide_eq_true_iff]; omega
    have hr := Lib.hid (show (!okHead hs old) = true by rw [HOK.out]; simp [Nat.not_le.2 h1])
    clear h1 ht
    have ww := WW.out
    go_wp2
    go_meet
    exact ⟨rfl, rfl, rfl, rfl, by rw [hr.out], gr wc⟩
  · have bh : decide ((1 : Int) < (h : Int)) = false := by rw [decide_eq_false_iff_not]; omega
    by_cases h0 : h = 0
    · have bh0 : ((h : Int) == 0) = true := by simp; omega
      have HH0 := Lib.hid h0
      cases old
      · have hr := Lib.hid (show (!okHead hs false) = true by rw [HOK.out]; simp [h0])
        clear h1 h0 ht
        have ww := WW.out
        go_wp2
        go_meet
        exact ⟨rfl, by rw [HH0.out], rfl, rfl, by rw [hr.out], gr wc⟩
      · by_cases m1 : 1 < m
        · have bm : decide ((1 : Int) < (m : Int)) = true := by rw [decide_eq_true_iff]; omega
          have hr := Lib.hid (show (!okHead hs true) = true by rw [HOK.out]; simp [h0, m1, Nat.not_le.2 m1])
          clear h1 h0 m1 ht
          have ww := WW.out
          go_wp2
          go_meet
          exact ⟨rfl, by rw [HH0.out], rfl, rfl, by rw [hr.out], gr wc⟩
        · have bm : decide ((1 : Int) < (m : Int)) = false := by rw [decide_eq_false_iff_not]; omega
          by_cases q1 : 1 < q
          · have bq : decide ((1 : Int) < (q : Int)) = true := by rw [decide_eq_true_iff]; omega
            have hr := Lib.hid (show (!okHead hs true) = true by rw [HOK.out]; simp [h0, Nat.not_le.2 q1])
            clear h1 h0 m1 q1 ht
            have ww := WW.out
            go_wp2
            go_meet
            exact ⟨rfl, by rw [HH0.out], rfl, rfl, by rw [hr.out], gr wc⟩
          · have bq : decide ((1 : Int) < (q : Int)) = false := by rw [decide_eq_false_iff_not]; omega
            by_cases s1 : 1 < m + q
            · have bs : decide ((1 : Int) < (t : Int)) = true := by rw [decide_eq_true_iff]; omega
              have hr := Lib.hid (show (!okHead hs true) = true by rw [HOK.out]; simp [h0, Nat.not_le.2 s1])
              clear h1 h0 m1 q1 s1 ht
              have ww := WW.out
              go_wp2
              go_meet
              exact ⟨rfl, by rw [HH0.out], rfl, rfl, by rw [hr.out], gr wc⟩
            · have bs : decide ((1 : Int) < (t : Int)) = false := by rw [decide_eq_false_iff_not]; omega
              by_cases q0 : q = 0
              · have bz : decide ((0 : Int) < (q : Int)) = false := by rw [decide_eq_false_iff_not]; omega
                have bzn : decide (0 < q) = false := by rw [decide_eq_false_iff_not]; omega
                have hr := Lib.hid (show (!okHead hs true) = false by rw [HOK.out]; simp [h0, Nat.not_lt.1 m1, Nat.not_lt.1 s1, q0, (by omega : m ≤ 1)])
                clear h1 h0 m1 q1 s1 q0 ht
                have ww := WW.out
                go_wp2
                go_meet
                exact ⟨rfl, by rw [HH0.out], rfl, rfl, by rw [hr.out], gr wc⟩
              · have bz : decide ((0 : Int) < (q : Int)) = true := by rw [decide_eq_true_iff]; omega
                have bzn : decide (0 < q) = true := by rw [decide_eq_true_iff]; omega
                have hr := Lib.hid (show (!okHead hs true) = true by rw [HOK.out]; simp [h0, q0])
                clear h1 h0 m1 q1 s1 q0 ht
                have ww := WW.out
                go_wp2
                go_meet
                exact ⟨rfl, by rw [HH0.out], rfl, rfl, by rw [hr.out], gr wc⟩
    · have bh0 : ((h : Int) == 0) = false := by rw [beq_eq_false_iff_ne]; omega
      have h01 : h = 1 := by omega
      cases old
      · by_cases m1 : 1 < m
        · have bm : decide ((1 : Int) < (m : Int)) = true := by rw [decide_eq_true_iff]; omega
          have hr := Lib.hid (show (!okHead hs false) = true by rw [HOK.out]; simp [h01, m1, Nat.not_le.2 m1])
          clear h1 h0 h01 m1 ht
          have ww := WW.out
          go_wp2
          go_meet
          exact ⟨rfl, rfl, rfl, rfl, by rw [hr.out], gr wc⟩
        · have bm : decide ((1 : Int) < (m : Int)) = false := by rw [decide_eq_false_iff_not]; omega
          by_cases q1 : 1 < q
          · have bq : decide ((1 : Int) < (q : Int)) = true := by rw [decide_eq_true_iff]; omega
            have hr := Lib.hid (show (!okHead hs false) = true by rw [HOK.out]; simp [h01, Nat.not_le.2 q1])
            clear h1 h0 h01 m1 q1 ht
            have ww := WW.out
            go_wp2
            go_meet
            exact ⟨rfl, rfl, rfl, rfl, by rw [hr.out], gr wc⟩
          · have bq : decide ((1 : Int) < (q : Int)) = false := by rw [decide_eq_false_iff_not]; omega
            by_cases s1 : 1 < m + q
            · have bs : decide ((1 : Int) < (t : Int)) = true := by rw [decide_eq_true_iff]; omega
              have hr := Lib.hid (show (!okHead hs false) = true by rw [HOK.out]; simp [h01, Nat.not_le.2 s1])
              clear h1 h0 h01 m1 q1 s1 ht
              have ww := WW.out
              go_wp2
              go_meet
              exact ⟨rfl, rfl, rfl, rfl, by rw [hr.out], gr wc⟩
            · have bs : decide ((1 : Int) < (t : Int)) = false := by rw [decide_eq_false_iff_not]; omega
              by_cases q0 : q = 0
              · have bz : decide ((0 : Int) < (q : Int)) = false := by rw [decide_eq_false_iff_not]; omega
                have bzn : decide (0 < q) = false := by rw [decide_eq_false_iff_not]; omega
                have hr := Lib.hid (show (!okHead hs false) = false by rw [HOK.out]; simp [h01, Nat.not_lt.1 m1, Nat.not_lt.1 s1, q0, (by omega : m ≤ 1)])
                clear h1 h0 h01 m1 q1 s1 q0 ht
                have ww := WW.out
                go_wp2
                go_meet
                exact ⟨rfl, rfl, rfl, rfl, by rw [hr.out], gr wc⟩
              · have bz : decide ((0 : Int) < (q : Int)) = true := by rw [decide_eq_true_iff]; omega
                have bzn : decide (0 < q) = true := by rw [decide_eq_true_iff]; omega
                have q01 : q = 1 := by omega
                obtain ⟨ad, rfl, hcell, hq9, hccc⟩ := one_cell (n := q) (L := Cd) (by rw [← HC.out.1]; exact Oc.out) (by rw [← HC.out.1, q01])
                clear hq9
                have hd := vals_mem (hs := hs) (name := nCode) (by rw [← HC.out.2.1]; exact head_mem (L := Cd) (by rw [← HC.out.1, q01])) HH.out.2.1
                have cs := fun W => rsame_any (headS Cd) nChunked W (by omega) (by decide)
                rw [show low nChunked = nChunked by decide] at cs
                obtain ⟨sd, hsd⟩ : ∃ x, x = (⟨(headS Cd).toArray⟩ : ByteArray) := ⟨_, rfl⟩
                rw [← hsd] at hcell cs
                have hq1i : (0 : Int) < (q : Int) := by omega
                have CS := Lib.hid cs
                by_cases ha : low (headS Cd) = nChunked
                · simp only [decide_eq_true ha] at cs
                  replace CS := Lib.hid cs
                  have hr := Lib.hid (show (!okHead hs false) = false by rw [HOK.out]; simp [h01, q01, ha, (by omega : m = 0)])
                  clear h1 h0 h01 m1 q1 s1 q0 q01 cs hd hsd ha ht
                  have ww := WW.out
                  go_wp2_with (first
                    | (go_at_call 43; go_must (refine (CS.out _).mono ?_); rintro e wt ⟨rfl, hbt⟩; have HT := Lib.hid hbt; clear hbt))
                  go_meet
                  exact ⟨rfl, rfl, rfl, rfl, by rw [hr.out], HT.out⟩
                · simp only [decide_eq_false ha] at cs
                  replace CS := Lib.hid cs
                  have hr := Lib.hid (show (!okHead hs false) = true by rw [HOK.out]; simp [h01, q01, ha, (by omega : m = 0)])
                  clear h1 h0 h01 m1 q1 s1 q0 q01 cs hd hsd ha ht
                  have ww := WW.out
                  go_wp2_with (first
                    | (go_at_call 43; go_must (refine (CS.out _).mono ?_); rintro e wt ⟨rfl, hbt⟩; have HT := Lib.hid hbt; clear hbt))
                  go_meet
                  exact ⟨rfl, rfl, rfl, rfl, by rw [hr.out], HT.out⟩
      · by_cases m1 : 1 < m
        · have bm : decide ((1 : Int) < (m : Int)) = true := by rw [decide_eq_true_iff]; omega
          have hr := Lib.hid (show (!okHead hs true) = true by rw [HOK.out]; simp [h01, m1, Nat.not_le.2 m1])
          clear h1 h0 h01 m1 ht
          have ww := WW.out
          go_wp2
          go_meet
          exact ⟨rfl, rfl, rfl, rfl, by rw [hr.out], gr wc⟩
        · have bm : decide ((1 : Int) < (m : Int)) = false := by rw [decide_eq_false_iff_not]; omega
          by_cases q1 : 1 < q
          · have bq : decide ((1 : Int) < (q : Int)) = true := by rw [decide_eq_true_iff]; omega
            have hr := Lib.hid (show (!okHead hs true) = true by rw [HOK.out]; simp [h01, Nat.not_le.2 q1])
            clear h1 h0 h01 m1 q1 ht
            have ww := WW.out
            go_wp2
            go_meet
            exact ⟨rfl, rfl, rfl, rfl, by rw [hr.out], gr wc⟩
          · have bq : decide ((1 : Int) < (q : Int)) = false := by rw [decide_eq_false_iff_not]; omega
            by_cases s1 : 1 < m + q
            · have bs : decide ((1 : Int) < (t : Int)) = true := by rw [decide_eq_true_iff]; omega
              have hr := Lib.hid (show (!okHead hs true) = true by rw [HOK.out]; simp [h01, Nat.not_le.2 s1])
              clear h1 h0 h01 m1 q1 s1 ht
              have ww := WW.out
              go_wp2
              go_meet
              exact ⟨rfl, rfl, rfl, rfl, by rw [hr.out], gr wc⟩
            · have bs : decide ((1 : Int) < (t : Int)) = false := by rw [decide_eq_false_iff_not]; omega
              by_cases q0 : q = 0
              · have bz : decide ((0 : Int) < (q : Int)) = false := by rw [decide_eq_false_iff_not]; omega
                have bzn : decide (0 < q) = false := by rw [decide_eq_false_iff_not]; omega
                have hr := Lib.hid (show (!okHead hs true) = false by rw [HOK.out]; simp [h01, Nat.not_lt.1 m1, Nat.not_lt.1 s1, q0, (by omega : m ≤ 1)])
                clear h1 h0 h01 m1 q1 s1 q0 ht
                have ww := WW.out
                go_wp2
                go_meet
                exact ⟨rfl, rfl, rfl, rfl, by rw [hr.out], gr wc⟩
              · have bz : decide ((0 : Int) < (q : Int)) = true := by rw [decide_eq_true_iff]; omega
                have bzn : decide (0 < q) = true := by rw [decide_eq_true_iff]; omega
                have hr := Lib.hid (show (!okHead hs true) = true by rw [HOK.out]; simp [h01, q0])
                clear h1 h0 h01 m1 q1 s1 q0 ht
                have ww := WW.out
                go_wp2
                go_meet
                exact ⟨rfl, rfl, rfl, rfl, by rw [hr.out], gr wc⟩
end Go.Proofs.YtojemdggbcklkaaDoor.WireR

/- weirref28.read: a body in chunks. (Printed by mkwrread2.py.) -/
namespace Go.Proofs.YtojemdggbcklkaaDoor.WireR
open Go.RowKit Go.Proofs.YtojemdggbcklkaaDoor.Mem Go.Proofs.YtojemdggbcklkaaDoor.Wire Go.Proofs.YtojemdggbcklkaaDoor.Strs Go.Proofs.YtojemdggbcklkaaDoor.Heads
set_option linter.unusedVariables false
set_option linter.unusedSimpArgs false
set_option maxRecDepth 4000
set_option maxHeartbeats 32000000
theorem rrC : rrA.1.2.1 := by
  intro s w S sn hsz hsni L0 R0 K0 HB w1 H2 S1 l t1 u1 p1 b0 sl C1 mm tg old sm stg sv kv C2 HS HE1 hs t2 u2 p2 hm C3 HH w4 S4 w5 A5 k5 S5 Q5 Cd Ld h m q hhi hmi hqi HOK HC Na Nb Nc wa Aa ca Sa Oa wb Ab cb Sb Oa2 Ob wc Ac cc Sc Ob2 Oc zz1 zz2 zz3 zz4 w9' u22 u23 u24 u25 u26 u27 u28 u29 u30 u31 u32 u33 u34 u35 u36 u37 u38 u39 u40 u41 u42 u43 u44 u45 u46 u47 u48 u49 u50 u51 u52 u53 u54 u55 u56 u57 u58 u59 u60 u61 u62 u63 u64 u65 u66 u67 u68 u69 u70 u71 u72 u73 u74 u75 u76 u77 u78 u79 u80 u81 u82 u83 u84 u85 u86 u87 u88 u89 u90 u91 u92 u93 u94 u95 u96 u97 u98 u99 u100 u101 u102 u103 u104 u105 u106 u107 u109 u110 u111 u112 u113 u114 u115 u116 u117 u118 u119 u120 u121 u122 u123 u124 u125 u126 u127 u128 u129 u130 u131 u132 u133 u134 u135 u136 u137 u138 u139 u140 u141 u142 u143 u144 u145 u146 u147 u148 u149 u150 u151 u152 u153 u154 u155 u156 u157 u158 u159 u160 u161 u162 u163 u164 u165 u166 u167 u168 u169 u170 u171 u172 S9 O9 HBO hm1 hq1 hmq hm0 bm0 bm0n hL0 hj hq0
  have bq0 : decide ((0 : Int) < (q : Int)) = true := by rw [decide_eq_true_iff]; omega
  have bq0n : decide (0 < q) = true := by rw [decide_eq_true_iff]; omega
  have hC0 : (vals hs nCode).isEmpty = false := by
    have h1 := HC.out.1
    rw [HC.out.2.1] at h1
    cases hv : vals hs nCode with
    | nil => rw [hv] at h1; exact absurd h1 hq0
    | cons a r => rfl
  rw [if_neg (by rw [hC0]; simp)] at hj
  have hp2s : p2 ≤ s.length := by have := HH.out.2.2.2.2.1; omega
  have c7 := K0.out p2 hp2s
  obtain ⟨r, hr⟩ : ∃ r, r = chunksS p2 (s.drop p2) := ⟨_, rfl⟩
  have hbr : bodyS .chunked (s.length - t2.length) t2 = r := by rw [hr, ← HH.out.2.2.2.2.1, ← HH.out.2.2.2.1]; rfl
  rw [← hr] at c7
  cases r with
  | err er =>
    have HE := Lib.hid (show readS s = .err er by rw [HE1.out]; exact rt_body_err HH.out.2.2.2.2.2.1 hj hbr)
    have hy0 : ((er : Nat) : Int) ≠ 0 := by have := body_err hbr; omega
    have C7 := Lib.hid c7
    clear c7 hr hbr hj hC0 hL0 hm0 hq0 hm1 hq1 hmq hp2s
    go_wp2_with (first
      | (go_at_call 45; go_must (refine (C7.out _).mono ?_); rintro e w10 ⟨⟨xb, rfl⟩, hb10⟩; have S10 := Lib.hid (S9.out.below hb10); clear hb10)
      | ((with_reducible show wpList _ _ _ (⟨none, .store _ (.tmp 2) _, _, _, _, _⟩ :: _) _ _); go_must (refine wpList_storeB AR rfl (.tmp 2) (.tmp 153) rfl H2 0 rfl [.string ⟨#[]⟩, .string ⟨#[]⟩, .slice none 0 0, .slice none 0 0, .bool false] rfl rfl _ _ S10.out.h2 (by simp) (by simp [Value.oneCell']) ?_); intro w9 hB9 hg9 hz9
         have c0 := hB9.cell 0
         have c1 := hB9.cell 1
         have c2 := hB9.cell 2
         have c3 := hB9.cell 3
         have c4 := hB9.cell 4
         simp only [splice, List.take_zero, List.nil_append, List.length_cons, List.length_nil, List.drop_succ_cons, List.drop_zero, List.append_nil, List.getElem?_cons_zero, List.getElem?_cons_succ, Nat.zero_add, List.drop_nil] at c0 c1 c2 c3 c4
         clear hB9 hz9))
    refine bodyPost_ret (v := .tuple #[.agg #[.string ⟨#[]⟩, .string ⟨#[]⟩, .slice none 0 0, .slice none 0 0, .bool false], .int .i64 0, .int .i64 (er : Nat)]) (by simp [results, Tryd.results30, go_sem, c0, c1, c2, c3, c4]) rfl ?_
    exact rrd_err (HE.out) (S10.out.low.grown hg9 S10.out.low.size (fun j hj => by injection hj with hj; have := S10.out.h2e; omega)) rfl
  | ok xb t3 =>
    obtain ⟨p3, hp3⟩ : ∃ p, p = s.length - t3.length := ⟨_, rfl⟩
    have hxl : xb.length ≤ 65536 := by
      have h9 := chunks_len p2 hr.symm
      have := HB.out.1
      rw [List.length_drop] at h9
      omega
    have HE := Lib.hid (show readS s = .ok ⟨mm, tg, hs, xb, endS hs old⟩ t3 by rw [HE1.out]; exact rt_ok HH.out.2.2.2.2.2.1 hj hbr)
    obtain ⟨sb, hsb⟩ : ∃ x, x = (⟨xb.toArray⟩ : ByteArray) := ⟨_, rfl⟩
    unfold RChunksPost at c7
    simp only at c7
    rw [← hp3, ← hsb] at c7
    have C7 := Lib.hid c7
    have HSB := Lib.hid (And.intro hsb hxl)
    have HP3 := Lib.hid hp3
    clear c7 hr hbr hj hC0 hL0 hm0 hq0 hm1 hq1 hmq hp2s hsb hxl hp3
    go_upto_region 29 with (first
      | (go_at_call 45; go_must (refine (C7.out _).mono ?_); rintro e w10 ⟨rfl, hb10⟩; have S10 := Lib.hid (S9.out.below hb10); clear hb10))
    obtain ⟨bc, hbc⟩ : ∃ b, b = connS hs nClose := ⟨_, rfl⟩
    obtain ⟨bk, hbk⟩ : ∃ b, b = connS hs nKeep := ⟨_, rfl⟩
    have HBC := Lib.hid hbc
    have HBK := Lib.hid hbk
    have HCL := Lib.hid (show endS hs old = (bc || (old && !bk)) by unfold endS; rw [hbc, hbk])
    clear hbc hbk
    go_cut [15, 21] from 22 (fun v15 v21 wx => v15 = .bool old ∧ v21 = .bool (bc || (old && !bk)) ∧ Below w10.heap.size w10 wx)
    case first =>
      cases bc
      · cases old
        · go_wp2_with (first
            | (go_at_call 46; (with_reducible show Calls _ _ #[_, .string ⟨#[99, 108, 111, 115, 101]⟩] _ _); go_must (refine (connection_any A5 hm k5 hs nClose _ S10.out.rv HH.out.1 HH.out.2.1 (by have := HH.out.1; have := HH.out.2.2.1; omega) (by decide) (by decide)).mono ?_); rintro e wk1 ⟨he, hbk1⟩; rw [← HBC.out] at he; subst he; have T1 := Lib.hid (hbk1); clear hbk1))
          go_meet
          exact ⟨rfl, rfl, T1.out⟩
        · cases bk
          · go_wp2_with (first
              | (go_at_call 46; (with_reducible show Calls _ _ #[_, .string ⟨#[99, 108, 111, 115, 101]⟩] _ _); go_must (refine (connection_any A5 hm k5 hs nClose _ S10.out.rv HH.out.1 HH.out.2.1 (by have := HH.out.1; have := HH.out.2.2.1; omega) (by decide) (by decide)).mono ?_); rintro e wk1 ⟨he, hbk1⟩; rw [← HBC.out] at he; subst he; have T1 := Lib.hid (hbk1); clear hbk1)
              | (go_at_call 46; (with_reducible show Calls _ _ #[_, .string ⟨#[107, 101, 101, 112, 45, 97, 108, 105, 118, 101]⟩] _ _); go_must (refine (connection_any A5 hm k5 hs nKeep _ (S10.out.rv.below T1.out) HH.out.1 HH.out.2.1 (by have := HH.out.1; have := HH.out.2.2.1; omega) (by decide) (by decide)).mono ?_); rintro e wk2 ⟨he, hbk2⟩; rw [← HBK.out] at he; subst he; have T2 := Lib.hid (gt T1.out hbk2); clear hbk2))
            go_meet
            exact ⟨rfl, rfl, T2.out⟩
          · go_wp2_with (first
              | (go_at_call 46; (with_reducible show Calls _ _ #[_, .string ⟨#[99, 108, 111, 115, 101]⟩] _ _); go_must (refine (connection_any A5 hm k5 hs nClose _ S10.out.rv HH.out.1 HH.out.2.1 (by have := HH.out.1; have := HH.out.2.2.1; omega) (by decide) (by decide)).mono ?_); rintro e wk1 ⟨he, hbk1⟩; rw [← HBC.out] at he; subst he; have T1 := Lib.hid (hbk1); clear hbk1)
              | (go_at_call 46; (with_reducible show Calls _ _ #[_, .string ⟨#[107, 101, 101, 112, 45, 97, 108, 105, 118, 101]⟩] _ _); go_must (refine (connection_any A5 hm k5 hs nKeep _ (S10.out.rv.below T1.out) HH.out.1 HH.out.2.1 (by have := HH.out.1; have := HH.out.2.2.1; omega) (by decide) (by decide)).mono ?_); rintro e wk2 ⟨he, hbk2⟩; rw [← HBK.out] at he; subst he; have T2 := Lib.hid (gt T1.out hbk2); clear hbk2))
            go_meet
            exact ⟨rfl, rfl, T2.out⟩
      · go_wp2_with (first
          | (go_at_call 46; (with_reducible show Calls _ _ #[_, .string ⟨#[99, 108, 111, 115, 101]⟩] _ _); go_must (refine (connection_any A5 hm k5 hs nClose _ S10.out.rv HH.out.1 HH.out.2.1 (by have := HH.out.1; have := HH.out.2.2.1; omega) (by decide) (by decide)).mono ?_); rintro e wk1 ⟨he, hbk1⟩; rw [← HBC.out] at he; subst he; have T1 := Lib.hid (hbk1); clear hbk1))
        go_meet
        exact ⟨rfl, by cases old <;> rfl, T1.out⟩
    case rest =>
      obtain ⟨rfl, rfl, hbx⟩ := hcut
      rename World => w20
      have S20 := Lib.hid (S10.out.below hbx)
      clear hbx
      obtain ⟨cl, hcl⟩ : ∃ c, c = (bc || (old && !bk)) := ⟨_, rfl⟩
      rw [← hcl]
      rw [← hcl] at HCL
      clear hcl
      go_wp2_with (first
        | ((with_reducible show wpList _ _ _ (⟨some 169, _, _, _, _, _⟩ :: _) _ _); go_must (refine wpList_convB (src := 9) (dst := 22) (e := 5) rfl (.tmp 168) rfl Tryd.underlying9 Tryd.underlying22 Tryd.underlying5 xb (by rw [← HSB.out.1]; rfl) (by have := HSB.out.2; unfold maxLen; omega) ?_); intro A7 k7 w21 hr21 ha21 hb21; have S21 := Lib.hid (S20.out.below hb21); have R21 := Lib.hid (And.intro hr21 ha21); clear hr21 ha21 hb21)
        | ((with_reducible show wpList _ _ _ (⟨none, .store _ (.tmp 2) _, _, _, _, _⟩ :: _) _ _); go_must (refine wpList_storeB AR rfl (.tmp 2) (.tmp 171) rfl H2 0 rfl [.string sm, .string stg, .slice A5 hm k5, .slice A7 xb.length k7, .bool cl] rfl rfl _ _ S21.out.h2 (by simp) (by simp [Value.oneCell']) ?_); intro w9 hB9 hg9 hz9
           have c0 := hB9.cell 0
           have c1 := hB9.cell 1
           have c2 := hB9.cell 2
           have c3 := hB9.cell 3
           have c4 := hB9.cell 4
           simp only [splice, List.take_zero, List.nil_append, List.length_cons, List.length_nil, List.drop_succ_cons, List.drop_zero, List.append_nil, List.getElem?_cons_zero, List.getElem?_cons_succ, Nat.zero_add, List.drop_nil] at c0 c1 c2 c3 c4
           clear hB9 hz9))
      refine bodyPost_ret (v := .tuple #[.agg #[.string sm, .string stg, .slice A5 hm k5, .slice A7 xb.length k7, .bool cl], .int .i64 (p3 : Int), .int .i64 0]) (by simp [results, Tryd.results30, go_sem, c0, c1, c2, c3, c4]) rfl ?_
      have hlow := S21.out.low.grown hg9 S21.out.low.size (fun j hj => by injection hj with hj; have := S21.out.h2e; omega)
      refine rrd_ok (HE.out) hlow (A := A5) (k := k5) (A2 := A7) (k2 := k7) (by rw [HCL.out, ← HS.out.1, ← HS.out.2.1, ← HH.out.1, ← HP3.out]; try rfl) ?_ ?_ S21.out.sp (fun ad e => by have := R21.out.2 ad e; have := S20.out.low.size; omega)
      · exact rv_far S21.out.rv hg9 S21.out.ne
      · exact RB.grown R21.out.1 (fun _ ad e => by have := R21.out.2 ad e; have := S20.out.h2.lt; omega) hg9
end Go.Proofs.YtojemdggbcklkaaDoor.WireR
namespace Go.Proofs.YtojemdggbcklkaaDoor.WireR
open Go.RowKit Go.Proofs.YtojemdggbcklkaaDoor.Mem Go.Proofs.YtojemdggbcklkaaDoor.Wire Go.Proofs.YtojemdggbcklkaaDoor.Strs Go.Proofs.YtojemdggbcklkaaDoor.Heads
set_option linter.unusedVariables false
set_option linter.unusedSimpArgs false
set_option maxRecDepth 4000
set_option maxHeartbeats 32000000
theorem rrL : rrA.1.2.2 := by
  intro s w S sn hsz hsni L0 R0 K0 HB w1 H2 S1 l t1 u1 p1 b0 sl C1 mm tg old sm stg sv kv C2 HS HE1 hs t2 u2 p2 hm C3 HH w4 S4 w5 A5 k5 S5 Q5 Cd Ld h m q hhi hmi hqi HOK HC Na Nb Nc wa Aa ca Sa Oa wb Ab cb Sb Oa2 Ob wc Ac cc Sc Ob2 Oc zz1 zz2 zz3 zz4 w9' u22 u23 u24 u25 u26 u27 u28 u29 u30 u31 u32 u33 u34 u35 u36 u37 u38 u39 u40 u41 u42 u43 u44 u45 u46 u47 u48 u49 u50 u51 u52 u53 u54 u55 u56 u57 u58 u59 u60 u61 u62 u63 u64 u65 u66 u67 u68 u69 u70 u71 u72 u73 u74 u75 u76 u77 u78 u79 u80 u81 u82 u83 u84 u85 u86 u87 u88 u89 u90 u91 u92 u93 u94 u95 u96 u97 u98 u99 u100 u101 u102 u103 u104 u105 u106 u107 u109 u110 u111 u112 u113 u114 u115 u116 u117 u118 u119 u120 u121 u122 u123 u124 u125 u126 u127 u128 u129 u130 u131 u132 u133 u134 u135 u136 u137 u138 u139 u140 u141 u142 u143 u144 u145 u146 u147 u148 u149 u150 u151 u152 u153 u154 u155 u156 u157 u158 u159 u160 u161 u162 u163 u164 u165 u166 u167 u168 u169 u170 u171 u172 S9 O9 HBO hm1 hq1 hmq hm0
  have hm01 : m = 1 := by omega
  have hq0 : q = 0 := by omega
  have bm0 : decide ((0 : Int) < (m : Int)) = true := by rw [decide_eq_true_iff]; omega
  have bm0n : decide (0 < m) = true := by rw [decide_eq_true_iff]; omega
  have bq0 : decide ((0 : Int) < (q : Int)) = false := by rw [decide_eq_false_iff_not]; omega
  have bq0n : decide (0 < q) = false := by rw [decide_eq_false_iff_not]; omega
  have hL1 : Ld.length = 1 := by rw [← HC.out.2.2.1]; exact hm01
  obtain ⟨ad, rfl, hcell, hm9, hcb⟩ := one_cell (n := m) (L := Ld) (by have := O9.out; rw [HC.out.2.2.1] at this ⊢; exact this) hL1
  clear hm9
  have hmi1 : (0 : Int) < (m : Int) := by omega
  obtain ⟨d, hd⟩ : ∃ d, d = headS Ld := ⟨_, rfl⟩
  have hdl : d.length ≤ 65536 := by
    have h1 : d ∈ vals hs nLong := by rw [hd, ← HC.out.2.2.2]; exact head_mem hL1
    unfold vals at h1
    rw [List.mem_map] at h1
    obtain ⟨x, hx, rfl⟩ := h1
    exact HH.out.2.2.2.2.2.2 x (List.mem_filter.1 hx).1
  have hj := jg_one HBO.out (d := d) (by rw [← HC.out.2.2.2]; exact hL1) (by rw [hd, HC.out.2.2.2])
  have c8 := fun W => length_any d W hdl
  obtain ⟨sd, hsd⟩ : ∃ x, x = (⟨d.toArray⟩ : ByteArray) := ⟨_, rfl⟩
  rw [← hd, ← hsd] at hcell
  rw [← hsd] at c8
  have hlen : lenS d = if d ≠ [] ∧ d.all digB = true then ((min (numS d) 65537 : Nat) : Int) else -1 := rfl
  by_cases hval : d ≠ [] ∧ d.all digB = true
  · rw [if_pos hval] at hj hlen
    rw [hlen] at c8
    obtain ⟨N, hN⟩ : ∃ N, N = numS d := ⟨_, rfl⟩
    obtain ⟨M, hM⟩ : ∃ M, M = min N 65537 := ⟨_, rfl⟩
    rw [← hN, ← hM] at c8
    rw [← hN] at hj
    have C8 := Lib.hid c8
    have hM7 : M ≤ 65537 := by omega
    have bneg : decide ((M : Int) < 0) = false := by rw [decide_eq_false_iff_not]; omega
    have bneg' : ¬ (M : Int) < 0 := by omega
    have hp2s : p2 ≤ s.length := by have := HH.out.2.2.2.2.1; omega
    have hs65 := HB.out.1
    obtain ⟨T1, hT1⟩ : ∃ t, t = p2 + M := ⟨_, rfl⟩
    have WW := Lib.hid (w64 (x := (p2 : Int) + (M : Int)) (y := (T1 : Int)) (by omega) (by omega) (by omega))
    have hbd : bodyS (.long N) (s.length - t2.length) t2 = if 65536 < p2 + N then .err 284 else if (s.drop p2).length < N then .err 283 else .ok ((s.drop p2).take N) ((s.drop p2).drop N) := by
      rw [← HH.out.2.2.2.2.1, HH.out.2.2.2.1]; unfold bodyS; rfl
    by_cases hbig : 65536 < T1
    · have bb : decide ((65536 : Int) < (T1 : Int)) = true := by rw [decide_eq_true_iff]; omega
      rw [if_pos (by omega)] at hbd
      have HE := Lib.hid (show readS s = .err 284 by rw [HE1.out]; exact rt_body_err HH.out.2.2.2.2.2.1 hj hbd)
      clear hj hlen hval c8 hN hM hM7 hp2s hs65 hT1 hbd hbig hd hdl hsd hm01 hq0 hm1 hq1 hmq hm0 hL1
      have ww := WW.out
      go_wp2_with (first
        | (go_at_call 44; go_must (refine (C8.out _).mono ?_); rintro e w10 ⟨rfl, hw10⟩; rw [← hw10]; clear hw10 w10)
        | ((with_reducible show wpList _ _ _ (⟨none, .store _ (.tmp 2) _, _, _, _, _⟩ :: _) _ _); go_must (refine wpList_storeB AR rfl (.tmp 2) (.tmp 124) rfl H2 0 rfl [.string ⟨#[]⟩, .string ⟨#[]⟩, .slice none 0 0, .slice none 0 0, .bool false] rfl rfl _ _ S9.out.h2 (by simp) (by simp [Value.oneCell']) ?_); intro w9 hB9 hg9 hz9
           have c0 := hB9.cell 0
           have c1 := hB9.cell 1
           have c2 := hB9.cell 2
           have c3 := hB9.cell 3
           have c4 := hB9.cell 4
           simp only [splice, List.take_zero, List.nil_append, List.length_cons, List.length_nil, List.drop_succ_cons, List.drop_zero, List.append_nil, List.getElem?_cons_zero, List.getElem?_cons_succ, Nat.zero_add, List.drop_nil] at c0 c1 c2 c3 c4
           clear hB9 hz9))
      refine bodyPost_ret (v := .tuple #[.agg #[.string ⟨#[]⟩, .string ⟨#[]⟩, .slice none 0 0, .slice none 0 0, .bool false], .int .i64 0, .int .i64 284]) (by simp [results, Tryd.results30, go_sem, c0, c1, c2, c3, c4]) rfl ?_
      exact rrd_err (HE.out) (S9.out.low.grown hg9 S9.out.low.size (fun j hj => by injection hj with hj; have := S9.out.h2e; omega)) rfl
    · have bb : decide ((65536 : Int) < (T1 : Int)) = false := by rw [decide_eq_false_iff_not]; omega
      have hMN : M = N := by omega
      rw [if_neg (by omega)] at hbd
      by_cases hshort : sn < T1
      · have bs : decide ((sn : Int) < (T1 : Int)) = true := by rw [decide_eq_true_iff]; omega
        have bsn : decide (sn < T1) = true := decide_eq_true hshort
        have bsp : sn < T1 := hshort
        rw [if_pos (by rw [List.length_drop]; have := HB.out.2.1; omega)] at hbd
        have HE := Lib.hid (show readS s = .err 283 by rw [HE1.out]; exact rt_body_err HH.out.2.2.2.2.2.1 hj hbd)
        clear hj hlen hval c8 hN hM hM7 hp2s hs65 hT1 hbd hbig hd hdl hsd hm01 hq0 hm1 hq1 hmq hm0 hL1 hMN hshort
        have ww := WW.out
        go_wp2_with (first
          | (go_at_call 44; go_must (refine (C8.out _).mono ?_); rintro e w10 ⟨rfl, hw10⟩; rw [← hw10]; clear hw10 w10)
          | ((with_reducible show wpList _ _ _ (⟨none, .store _ (.tmp 2) _, _, _, _, _⟩ :: _) _ _); go_must (refine wpList_storeB AR rfl (.tmp 2) (.tmp 131) rfl H2 0 rfl [.string ⟨#[]⟩, .string ⟨#[]⟩, .slice none 0 0, .slice none 0 0, .bool false] rfl rfl _ _ S9.out.h2 (by simp) (by simp [Value.oneCell']) ?_); intro w9 hB9 hg9 hz9
             have c0 := hB9.cell 0
             have c1 := hB9.cell 1
             have c2 := hB9.cell 2
             have c3 := hB9.cell 3
             have c4 := hB9.cell 4
             simp only [splice, List.take_zero, List.nil_append, List.length_cons, List.length_nil, List.drop_succ_cons, List.drop_zero, List.append_nil, List.getElem?_cons_zero, List.getElem?_cons_succ, Nat.zero_add, List.drop_nil] at c0 c1 c2 c3 c4
             clear hB9 hz9))
        refine bodyPost_ret (v := .tuple #[.agg #[.string ⟨#[]⟩, .string ⟨#[]⟩, .slice none 0 0, .slice none 0 0, .bool false], .int .i64 0, .int .i64 283]) (by simp [results, Tryd.results30, go_sem, c0, c1, c2, c3, c4]) rfl ?_
        exact rrd_err (HE.out) (S9.out.low.grown hg9 S9.out.low.size (fun j hj => by injection hj with hj; have := S9.out.h2e; omega)) rfl
      · have bs : decide ((sn : Int) < (T1 : Int)) = false := by rw [decide_eq_false_iff_not]; omega
        have bsn : decide (sn < T1) = false := decide_eq_false hshort
        have bsp : ¬ sn < T1 := hshort
        have hsn := HB.out.2.1
        rw [if_neg (by rw [List.length_drop]; omega), List.drop_drop, ← hMN, ← hT1] at hbd
        obtain ⟨xb, hxb⟩ : ∃ x, x = (s.drop p2).take M := ⟨_, rfl⟩
        obtain ⟨sb, hsb⟩ : ∃ x, x = (⟨xb.toArray⟩ : ByteArray) := ⟨_, rfl⟩
        have ex : S.extract p2 T1 = sb := by
          rw [HB.out.2.2, hsb, hxb, Lib.extract_eq]
          show (⟨((s.drop p2).take _).toArray⟩ : ByteArray) = _
          rw [show T1 - p2 = M by omega]
        rw [← hxb] at hbd
        have hp3 : T1 = s.length - (s.drop T1).length := by rw [List.length_drop]; omega
        have HP3 := Lib.hid hp3
        have HSB := Lib.hid (And.intro hsb (show xb.length ≤ 65536 by rw [hxb, List.length_take]; omega))
        rw [hMN] at hbd
        have HE := Lib.hid (show readS s = .ok ⟨mm, tg, hs, xb, endS hs old⟩ (s.drop T1) by rw [HE1.out]; exact rt_ok HH.out.2.2.2.2.2.1 hj hbd)
        have i1 : (p2 : Int) ≤ (T1 : Int) := by omega
        have i2 : ¬ T1 < p2 := by omega
        have i3 : (T1 : Int) ≤ (sn : Int) := by omega
        clear hj hlen hval c8 hN hM hM7 hp2s hs65 hT1 hbd hbig hd hdl hsd hm01 hq0 hm1 hq1 hmq hm0 hL1 hMN hshort hsb hxb hp3 hsn
        have ww := WW.out
        go_upto_region 29 with (first
          | (go_at_call 44; go_must (refine (C8.out _).mono ?_); rintro e w10 ⟨rfl, hw10⟩; rw [← hw10]; clear hw10 w10))
        rw [ww]
        clear ww bs bsn bsp bb bneg bneg' bm0 bm0n bq0 bq0n i1 i2 i3 ex hcell
        obtain ⟨bc, hbc⟩ : ∃ b, b = connS hs nClose := ⟨_, rfl⟩
        obtain ⟨bk, hbk⟩ : ∃ b, b = connS hs nKeep := ⟨_, rfl⟩
        have HBC := Lib.hid hbc
        have HBK := Lib.hid hbk
        have HCL := Lib.hid (show endS hs old = (bc || (old && !bk)) by unfold endS; rw [hbc, hbk])
        clear hbc hbk
        go_cut [15, 21] from 22 (fun v15 v21 wx => v15 = .bool old ∧ v21 = .bool (bc || (old && !bk)) ∧ Below w9'.heap.size w9' wx)
        case first =>
          cases bc
          · cases old
            · go_wp2_with (first
                | (go_at_call 46; (with_reducible show Calls _ _ #[_, .string ⟨#[99, 108, 111, 115, 101]⟩] _ _); go_must (refine (connection_any A5 hm k5 hs nClose _ S9.out.rv HH.out.1 HH.out.2.1 (by have := HH.out.1; have := HH.out.2.2.1; omega) (by decide) (by decide)).mono ?_); rintro e wk1 ⟨he, hbk1⟩; rw [← HBC.out] at he; subst he; have T1 := Lib.hid (hbk1); clear hbk1))
              go_meet
              exact ⟨rfl, rfl, T1.out⟩
            · cases bk
              · go_wp2_with (first
                  | (go_at_call 46; (with_reducible show Calls _ _ #[_, .string ⟨#[99, 108, 111, 115, 101]⟩] _ _); go_must (refine (connection_any A5 hm k5 hs nClose _ S9.out.rv HH.out.1 HH.out.2.1 (by have := HH.out.1; have := HH.out.2.2.1; omega) (by decide) (by decide)).mono ?_); rintro e wk1 ⟨he, hbk1⟩; rw [← HBC.out] at he; subst he; have T1 := Lib.hid (hbk1); clear hbk1)
                  | (go_at_call 46; (with_reducible show Calls _ _ #[_, .string ⟨#[107, 101, 101, 112, 45, 97, 108, 105, 118, 101]⟩] _ _); go_must (refine (connection_any A5 hm k5 hs nKeep _ (S9.out.rv.below T1.out) HH.out.1 HH.out.2.1 (by have := HH.out.1; have := HH.out.2.2.1; omega) (by decide) (by decide)).mono ?_); rintro e wk2 ⟨he, hbk2⟩; rw [← HBK.out] at he; subst he; have T2 := Lib.hid (gt T1.out hbk2); clear hbk2))
                go_meet
                exact ⟨rfl, rfl, T2.out⟩
              · go_wp2_with (first
                  | (go_at_call 46; (with_reducible show Calls _ _ #[_, .string ⟨#[99, 108, 111, 115, 101]⟩] _ _); go_must (refine (connection_any A5 hm k5 hs nClose _ S9.out.rv HH.out.1 HH.out.2.1 (by have := HH.out.1; have := HH.out.2.2.1; omega) (by decide) (by decide)).mono ?_); rintro e wk1 ⟨he, hbk1⟩; rw [← HBC.out] at he; subst he; have T1 := Lib.hid (hbk1); clear hbk1)
                  | (go_at_call 46; (with_reducible show Calls _ _ #[_, .string ⟨#[107, 101, 101, 112, 45, 97, 108, 105, 118, 101]⟩] _ _); go_must (refine (connection_any A5 hm k5 hs nKeep _ (S9.out.rv.below T1.out) HH.out.1 HH.out.2.1 (by have := HH.out.1; have := HH.out.2.2.1; omega) (by decide) (by decide)).mono ?_); rintro e wk2 ⟨he, hbk2⟩; rw [← HBK.out] at he; subst he; have T2 := Lib.hid (gt T1.out hbk2); clear hbk2))
                go_meet
                exact ⟨rfl, rfl, T2.out⟩
          · go_wp2_with (first
              | (go_at_call 46; (with_reducible show Calls _ _ #[_, .string ⟨#[99, 108, 111, 115, 101]⟩] _ _); go_must (refine (connection_any A5 hm k5 hs nClose _ S9.out.rv HH.out.1 HH.out.2.1 (by have := HH.out.1; have := HH.out.2.2.1; omega) (by decide) (by decide)).mono ?_); rintro e wk1 ⟨he, hbk1⟩; rw [← HBC.out] at he; subst he; have T1 := Lib.hid (hbk1); clear hbk1))
            go_meet
            exact ⟨rfl, by cases old <;> rfl, T1.out⟩
        case rest =>
          obtain ⟨rfl, rfl, hbx⟩ := hcut
          rename World => w20
          have S20 := Lib.hid (S9.out.below hbx)
          clear hbx
          obtain ⟨cl, hcl⟩ : ∃ c, c = (bc || (old && !bk)) := ⟨_, rfl⟩
          rw [← hcl]
          rw [← hcl] at HCL
          clear hcl
          go_wp2_with (first
            | ((with_reducible show wpList _ _ _ (⟨some 169, _, _, _, _, _⟩ :: _) _ _); go_must (refine wpList_convB (src := 9) (dst := 22) (e := 5) rfl (.tmp 168) rfl Tryd.underlying9 Tryd.underlying22 Tryd.underlying5 xb (by rw [← HSB.out.1]; rfl) (by have := HSB.out.2; unfold maxLen; omega) ?_); intro A7 k7 w21 hr21 ha21 hb21; have S21 := Lib.hid (S20.out.below hb21); have R21 := Lib.hid (And.intro hr21 ha21); clear hr21 ha21 hb21)
            | ((with_reducible show wpList _ _ _ (⟨none, .store _ (.tmp 2) _, _, _, _, _⟩ :: _) _ _); go_must (refine wpList_storeB AR rfl (.tmp 2) (.tmp 171) rfl H2 0 rfl [.string sm, .string stg, .slice A5 hm k5, .slice A7 xb.length k7, .bool cl] rfl rfl _ _ S21.out.h2 (by simp) (by simp [Value.oneCell']) ?_); intro w9 hB9 hg9 hz9
               have c0 := hB9.cell 0
               have c1 := hB9.cell 1
               have c2 := hB9.cell 2
               have c3 := hB9.cell 3
               have c4 := hB9.cell 4
               simp only [splice, List.take_zero, List.nil_append, List.length_cons, List.length_nil, List.drop_succ_cons, List.drop_zero, List.append_nil, List.getElem?_cons_zero, List.getElem?_cons_succ, Nat.zero_add, List.drop_nil] at c0 c1 c2 c3 c4
               clear hB9 hz9))
          refine bodyPost_ret (v := .tuple #[.agg #[.string sm, .string stg, .slice A5 hm k5, .slice A7 xb.length k7, .bool cl], .int .i64 (T1 : Int), .int .i64 0]) (by simp [results, Tryd.results30, go_sem, c0, c1, c2, c3, c4]) rfl ?_
          have hlow := S21.out.low.grown hg9 S21.out.low.size (fun j hj => by injection hj with hj; have := S21.out.h2e; omega)
          refine rrd_ok (HE.out) hlow (A := A5) (k := k5) (A2 := A7) (k2 := k7) (by rw [HCL.out, ← HS.out.1, ← HS.out.2.1, ← HH.out.1, ← HP3.out]; try rfl) ?_ ?_ S21.out.sp (fun ad e => by have := R21.out.2 ad e; have := S20.out.low.size; omega)
          · exact rv_far S21.out.rv hg9 S21.out.ne
          · exact RB.grown R21.out.1 (fun _ ad e => by have := R21.out.2 ad e; have := S20.out.h2.lt; omega) hg9
  · rw [if_neg hval] at hj hlen
    rw [hlen] at c8
    have C8 := Lib.hid c8
    have HE := Lib.hid (show readS s = .err 281 by rw [HE1.out, rt_none HH.out.2.2.2.2.2.1 hj])
    clear hj hlen hval c8 hd hdl hsd hm01 hq0 hm1 hq1 hmq hm0 hL1
    go_wp2_with (first
      | (go_at_call 44; go_must (refine (C8.out _).mono ?_); rintro e w10 ⟨rfl, hw10⟩; rw [← hw10]; clear hw10 w10)
      | ((with_reducible show wpList _ _ _ (⟨none, .store _ (.tmp 2) _, _, _, _, _⟩ :: _) _ _); go_must (refine wpList_storeB AR rfl (.tmp 2) (.tmp 119) rfl H2 0 rfl [.string ⟨#[]⟩, .string ⟨#[]⟩, .slice none 0 0, .slice none 0 0, .bool false] rfl rfl _ _ S9.out.h2 (by simp) (by simp [Value.oneCell']) ?_); intro w9 hB9 hg9 hz9
         have c0 := hB9.cell 0
         have c1 := hB9.cell 1
         have c2 := hB9.cell 2
         have c3 := hB9.cell 3
         have c4 := hB9.cell 4
         simp only [splice, List.take_zero, List.nil_append, List.length_cons, List.length_nil, List.drop_succ_cons, List.drop_zero, List.append_nil, List.getElem?_cons_zero, List.getElem?_cons_succ, Nat.zero_add, List.drop_nil] at c0 c1 c2 c3 c4
         clear hB9 hz9))
    refine bodyPost_ret (v := .tuple #[.agg #[.string ⟨#[]⟩, .string ⟨#[]⟩, .slice none 0 0, .slice none 0 0, .bool false], .int .i64 0, .int .i64 281]) (by simp [results, Tryd.results30, go_sem, c0, c1, c2, c3, c4]) rfl ?_
    exact rrd_err (HE.out) (S9.out.low.grown hg9 S9.out.low.size (fun j hj => by injection hj with hj; have := S9.out.h2e; omega)) rfl
end Go.Proofs.YtojemdggbcklkaaDoor.WireR
namespace Go.Proofs.YtojemdggbcklkaaDoor.WireR
open Go.RowKit Go.Proofs.YtojemdggbcklkaaDoor.Mem Go.Proofs.YtojemdggbcklkaaDoor.Wire Go.Proofs.YtojemdggbcklkaaDoor.Strs Go.Proofs.YtojemdggbcklkaaDoor.Heads
set_option linter.unusedVariables false
set_option linter.unusedSimpArgs false
set_option maxRecDepth 4000
set_option maxHeartbeats 32000000
theorem rread_any (s : Bytes) (w : World) (hl : s.length ≤ 65536) :
    Calls Tryd.prog 30 #[.string ⟨s.toArray⟩] w (RReadPost w s (readS s)) := rrA.2 (fun _ => rrF) (fun _ => rrC) (fun _ => rrL) s w hl
end Go.Proofs.YtojemdggbcklkaaDoor.WireR
