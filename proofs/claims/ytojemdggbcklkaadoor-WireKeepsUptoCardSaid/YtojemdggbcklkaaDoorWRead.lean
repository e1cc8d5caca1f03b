/- wire.Read: a request. (Printed by mkwread.py.) -/
import Derived.Test.YtojemdggbcklkaaDoorWRFirst
import Derived.Test.YtojemdggbcklkaaDoorWChunks
import Derived.Test.YtojemdggbcklkaaDoorWCloses
namespace Go.Proofs.YtojemdggbcklkaaDoor.WireR
open Go.RowKit Go.Proofs.YtojemdggbcklkaaDoor.Mem Go.Proofs.YtojemdggbcklkaaDoor.Wire Go.Proofs.YtojemdggbcklkaaDoor.Strs Go.Proofs.YtojemdggbcklkaaDoor.Heads
set_option linter.unusedVariables false
set_option linter.unusedSimpArgs false
set_option maxRecDepth 4000

theorem AR : Arr Tryd.prog 30 [.string ⟨#[]⟩, .string ⟨#[]⟩, .slice none 0 0, .slice none 0 0, .bool false] := Arr.mk' Tryd.underlying30 rfl (by kernel_rfl)
/-- where Read stands: the result's cell, the request under way -/
structure ES (w wr : World) (H2 g q : Nat) (cs : List Value) : Prop where
  low : Below w.heap.size w wr
  h2 : Blk wr H2 30 [.string ⟨#[]⟩, .string ⟨#[]⟩, .slice none 0 0, .slice none 0 0, .bool false]
  req : Blk wr q 30 cs
  h2e : w.heap.size ≤ H2
  h2g : H2 < g
  gq : g < q
/-- .. and the cursor -/
structure RS (w wr : World) (H2 g q : Nat) (R : Option Addr) (c : Nat) (s : List UInt8) (more : Bool) (p : Nat) (cs : List Value) : Prop extends ES w wr H2 g q cs where
  cur : Cur wr g R c s p more
  far : s ≠ [] → ∀ ad, R = some ad → ad.block < w.heap.size
structure E4 (w wr : World) (H2 : Nat) : Prop where
  low : Below w.heap.size w wr
  h2 : Blk wr H2 30 [.string ⟨#[]⟩, .string ⟨#[]⟩, .slice none 0 0, .slice none 0 0, .bool false]
  h2e : w.heap.size ≤ H2
section
variable {w wr w' : World} {H2 g q : Nat} {R : Option Addr} {c p : Nat} {s : List UInt8} {more : Bool} {cs : List Value}
theorem ES.szq (h : ES w wr H2 g q cs) : q < wr.heap.size := h.req.lt
theorem ES.below (h : ES w wr H2 g q cs) (hb : Below wr.heap.size wr w') : ES w w' H2 g q cs :=
  ⟨h.low.trans (hb.mono h.low.size), h.h2.grow hb, h.req.grow hb, h.h2e, h.h2g, h.gq⟩
theorem ES.keep {G : Nat} (h : ES w wr H2 g q cs) (hg : wr.grownBy w' (some G)) (hG : q < G) : ES w w' H2 g q cs :=
  ⟨h.low.grown hg h.low.size (fun j hj => by injection hj with hj; have := h.h2e; have := h.h2g; have := h.gq; omega), h.h2.grown hg (fun e => by injection e with e; have := h.h2g; have := h.gq; omega),
   h.req.grown hg (fun e => by injection e with e; omega), h.h2e, h.h2g, h.gq⟩
theorem ES.line (h : ES w wr H2 g q cs) (hg : wr.grownBy w' (some g)) : ES w w' H2 g q cs :=
  ⟨h.low.grown hg h.low.size (fun j hj => by injection hj with hj; have := h.h2e; have := h.h2g; omega), h.h2.grown hg (fun e => by injection e with e; have := h.h2g; omega), h.req.grown hg (fun e => by injection e with e; have := h.gq; omega), h.h2e, h.h2g, h.gq⟩
theorem ES.set_ (h : ES w wr H2 g q cs) (i : Nat) (v : Value) : ES w (wr.setCell ⟨q, i, none⟩ v) H2 g q (cs.set i v) :=
  have hg := grownBy_set wr q i v
  ⟨h.low.grown hg h.low.size (fun j hj => by injection hj with hj; have := h.h2e; have := h.h2g; have := h.gq; omega), h.h2.grown hg (fun e => by injection e with e; have := h.h2g; have := h.gq; omega), h.req.set_ i v, h.h2e, h.h2g, h.gq⟩
theorem RS.below (h : RS w wr H2 g q R c s more p cs) (hb : Below wr.heap.size wr w') : RS w w' H2 g q R c s more p cs := ⟨h.toES.below hb, h.cur.grow hb, h.far⟩
theorem RS.fcell (h : RS w wr H2 g q R c s more p cs) : s ≠ [] → ∀ ad, R = some ad → ad.block < q := fun hs ad e => by
  have := h.far hs ad e; have := h.h2e; have := h.h2g; have := h.gq; omega
/-- a row made above the request was written -/
theorem RS.keep {G : Nat} (h : RS w wr H2 g q R c s more p cs) (hg : wr.grownBy w' (some G)) (hG : q < G) : RS w w' H2 g q R c s more p cs :=
  ⟨h.toES.keep hg hG, h.cur.apart hg (by have := h.gq; omega) (fun hs ad e => by have := h.fcell hs ad e; omega), h.far⟩
theorem RS.line {p' : Nat} (h : RS w wr H2 g q R c s more p cs) (hg : wr.grownBy w' (some g)) (hc : Cur w' g R c s p' more) : RS w w' H2 g q R c s more p' cs := ⟨h.toES.line hg, hc, h.far⟩
theorem RS.set_ (h : RS w wr H2 g q R c s more p cs) (i : Nat) (v : Value) : RS w (wr.setCell ⟨q, i, none⟩ v) H2 g q R c s more p (cs.set i v) :=
  have hg := grownBy_set wr q i v
  ⟨h.toES.set_ i v, h.cur.apart hg (by have := h.gq; omega) (fun hs ad e => by have := h.fcell hs ad e; omega), h.far⟩
theorem own_ne {B n size : Nat} {T : TypeId} {v : Value} {xs : List Value} (h : wr.ownsRow B T size v n xs) : v.ownBlock = none ∨ v.ownBlock ≠ some wr.heap.size := by
  by_cases hn : v.ownBlock = none
  · exact .inl hn
  · exact .inr fun e => by have := (h.lt _ e).2; omega
end
def hdrV (hs : List HD) : List Value := hs.flatMap HD.cells
/-- the answer of a Read -/
def ReadPost (w : World) (r : Except Nat (Req × Nat)) (e : Ending) (w' : World) : Prop :=
  Below w.heap.size w w' ∧ match r with
  | .error er => e = .returned (.tuple #[.agg #[.string ⟨#[]⟩, .string ⟨#[]⟩, .slice none 0 0, .slice none 0 0, .bool false], .int .i64 0, .int .i64 (er : Nat)])
  | .ok (rq, n) => ∃ A k A2 k2 K, e = .returned (.tuple #[.agg #[.string ⟨rq.method.toArray⟩, .string ⟨rq.target.toArray⟩, .slice A rq.headers.length k, .slice A2 rq.body.length k2, .bool rq.close], .int .i64 (n : Nat), .int .i64 0]) ∧
      w'.ownsRow w.heap.size 58 2 (.slice A rq.headers.length k) rq.headers.length (hdrV rq.headers) ∧ (∀ G, (Value.slice A rq.headers.length k).ownBlock = some G → G < K) ∧ w.heap.size ≤ K ∧
      w'.ownsRow K 5 1 (.slice A2 rq.body.length k2) rq.body.length (rq.body.map bv)
theorem rd_err {w w' : World} {r : Except Nat (Req × Nat)} {er : Nat} {e : Ending} (h : r = .error er) (hb : Below w.heap.size w w') (he : e = .returned (.tuple #[.agg #[.string ⟨#[]⟩, .string ⟨#[]⟩, .slice none 0 0, .slice none 0 0, .bool false], .int .i64 0, .int .i64 (er : Nat)])) : ReadPost w r e w' := by rw [h]; exact ⟨hb, he⟩
def readT (s mm tg : Bytes) (old : Bool) (t1 : Bytes) : Res Req :=
  match fieldsS 281 t1 with
  | .err e => .err e
  | .ok hs t2 => match judgeS hs old with
    | none => .err 281
    | some sh => match bodyS sh (s.length - t2.length) t2 with
      | .err e => .err e
      | .ok body t3 => .ok ⟨mm, tg, hs, body, endS hs old⟩ t3
theorem read_eq {s l t1 mm tg : Bytes} {old : Bool} (h1 : lineS 280 s = .ok l t1) (h2 : firstS l = some (mm, tg, old)) : readS s = readT s mm tg old t1 := by
  unfold readS readT
  simp only [h1, h2]
  rfl
theorem rt_err {s mm tg t1 : Bytes} {old : Bool} {e : Nat} (h : fieldsS 281 t1 = .err e) : readT s mm tg old t1 = .err e := by unfold readT; simp only [h]
theorem rt_none {s mm tg t1 t2 : Bytes} {old : Bool} {hs : List HD} (h : fieldsS 281 t1 = .ok hs t2) (hj : judgeS hs old = none) : readT s mm tg old t1 = .err 281 := by unfold readT; simp only [h, hj]
theorem rt_body_err {s mm tg t1 t2 : Bytes} {old : Bool} {hs : List HD} {sh : Shape} {e : Nat} (h : fieldsS 281 t1 = .ok hs t2) (hj : judgeS hs old = some sh) (hb : bodyS sh (s.length - t2.length) t2 = .err e) : readT s mm tg old t1 = .err e := by unfold readT; simp only [h, hj, hb]
theorem rt_ok {s mm tg t1 t2 body t3 : Bytes} {old : Bool} {hs : List HD} {sh : Shape} (h : fieldsS 281 t1 = .ok hs t2) (hj : judgeS hs old = some sh) (hb : bodyS sh (s.length - t2.length) t2 = .ok body t3) : readT s mm tg old t1 = .ok ⟨mm, tg, hs, body, endS hs old⟩ t3 := by unfold readT; simp only [h, hj, hb]
theorem rd_ok {w w' : World} {r : Except Nat (Req × Nat)} {rq : Req} {n : Nat} {e : Ending} {A A2 : Option Addr} {k k2 K : Nat} (h : r = .ok (rq, n)) (hb : Below w.heap.size w w') (he : e = .returned (.tuple #[.agg #[.string ⟨rq.method.toArray⟩, .string ⟨rq.target.toArray⟩, .slice A rq.headers.length k, .slice A2 rq.body.length k2, .bool rq.close], .int .i64 (n : Nat), .int .i64 0]))
    (ho : w'.ownsRow w.heap.size 58 2 (.slice A rq.headers.length k) rq.headers.length (hdrV rq.headers)) (hK : ∀ G, (Value.slice A rq.headers.length k).ownBlock = some G → G < K) (hw : w.heap.size ≤ K)
    (hob : w'.ownsRow K 5 1 (.slice A2 rq.body.length k2) rq.body.length (rq.body.map bv)) : ReadPost w r e w' := by rw [h]; exact ⟨hb, A, k, A2, k2, K, he, ho, hK, hw, hob⟩
/-- a region that stores the request into the result's cell -/
def RR (H2 : Nat) (vs : List Value) (a b : World) : Prop := a.grownBy b (some H2) ∧ (Blk a H2 30 vs → Blk b H2 30 vs) ∧ (∀ cs, Blk a H2 30 cs → ∃ cs', Blk b H2 30 cs' ∧ cs'.length = cs.length)
theorem RR.refl (H2 : Nat) (vs : List Value) (a : World) : RR H2 vs a a := ⟨World.grownBy.refl a _, id, fun cs h => ⟨cs, h, rfl⟩⟩
theorem RR.trans {H2 : Nat} {vs : List Value} {a b c : World} (h : RR H2 vs a b) (k : RR H2 vs b c) : RR H2 vs a c := ⟨h.1.trans k.1, fun x => k.2.1 (h.2.1 x), fun cs hc => by
  obtain ⟨c1, h1, e1⟩ := h.2.2 cs hc
  obtain ⟨c2, h2, e2⟩ := k.2.2 c1 h1
  exact ⟨c2, h2, e2.trans e1⟩⟩
theorem RR.drew {H2 : Nat} {vs : List Value} (a : World) : RR H2 vs a a.drew := ⟨grown_of (gr a).drew, fun x => x.drew, fun cs h => ⟨cs, h.drew, rfl⟩⟩
theorem RR.cell {H2 g i : Nat} {vs : List Value} {a b : World} {v : Value} (h : RR H2 vs a b) (hc : a.cell? ⟨g, i, none⟩ = some v) (hne : g ≠ H2) : b.cell? ⟨g, i, none⟩ = some v := by
  have hlt : g < a.heap.size := by have := block_lt_of_cell hc; exact this
  have hbl := h.1.block g hlt (by simpa using hne)
  simp only [World.cell?] at hc ⊢
  rw [hbl]; exact hc
theorem own_base {w : World} {B B' n size : Nat} {T : TypeId} {v : Value} {xs : List Value} (h : w.ownsRow B' T size v n xs) (hb : B ≤ B') : w.ownsRow B T size v n xs :=
  ⟨h.1, h.2.imp id (fun ⟨g, cap, cur, e, hg, rest⟩ => ⟨g, cap, cur, e, Nat.le_trans hb hg, rest⟩)⟩
theorem chunks_err : ∀ (f p : Nat) {t : Bytes} {er : Nat}, chunksF f p t = .err er → 280 ≤ er ∧ er ≤ 284
  | 0, p, t, er, h => by injection h with h; omega
  | f + 1, p, t, er, h => by
    unfold chunksF at h
    cases hl : lineS 282 t with
    | err e => rw [hl] at h; injection h with h; subst h; exact lineS_err hl (by omega)
    | ok c b =>
      rw [hl] at h
      simp only at h
      cases hz : sizeS c with
      | none => rw [hz] at h; injection h with h; omega
      | some n =>
        rw [hz] at h
        simp only at h
        split at h
        · cases hf : fieldsS 282 b with
          | ok y z => rw [hf] at h; cases h
          | err e => rw [hf] at h; injection h with h; subst h; have := fields_err _ hf; omega
        · split at h
          · injection h with h; omega
          · split at h
            · injection h with h; omega
            · split at h
              · injection h with h; omega
              · cases hf : chunksF f (p + (t.length - b.length) + n + 2) (b.drop (n + 2)) with
                | ok y z => rw [hf] at h; cases h
                | err e => rw [hf] at h; injection h with h; subst h; exact chunks_err f _ hf
theorem body_err {sh : Shape} {p : Nat} {t : Bytes} {er : Nat} (h : bodyS sh p t = .err er) : 280 ≤ er ∧ er ≤ 284 := by
  cases sh with
  | none => cases h
  | long n =>
    unfold bodyS at h
    simp only at h
    split at h
    · injection h with h; omega
    · split at h
      · injection h with h; omega
      · cases h
  | chunked => exact chunks_err _ _ h
theorem fields_suf {bad : Nat} : ∀ (f : Nat) {t b : Bytes} {hs : List HD}, fieldsF bad f t = .ok hs b → ∃ u, t = u ++ b
  | 0, t, b, hs, h => by cases h
  | f + 1, t, b, hs, h => by
    unfold fieldsF at h
    cases hl : lineS bad t with
    | err e => rw [hl] at h; cases h
    | ok c b1 =>
      rw [hl] at h
      simp only at h
      obtain ⟨u, hu⟩ := lineS_suf hl
      split at h
      · injection h with h3 h4
        subst h4
        exact ⟨u, hu⟩
      · cases hh : hdrOf c with
        | none => rw [hh] at h; cases h
        | some x =>
          rw [hh] at h
          simp only at h
          cases hf : fieldsF bad f b1 with
          | err e => rw [hf] at h; cases h
          | ok y z =>
            rw [hf] at h
            injection h with h3 h4
            subst h4
            obtain ⟨v, hv⟩ := fields_suf f hf
            exact ⟨u ++ v, by rw [hu, hv, List.append_assoc]⟩
theorem fields_len {bad : Nat} : ∀ (f : Nat) {t b : Bytes} {hs : List HD}, fieldsF bad f t = .ok hs b → hs.length ≤ t.length ∧ ∀ h ∈ hs, h.1.length ≤ t.length ∧ h.2.length ≤ t.length
  | 0, t, b, hs, h => by cases h
  | f + 1, t, b, hs, h => by
    unfold fieldsF at h
    cases hl : lineS bad t with
    | err e => rw [hl] at h; cases h
    | ok c b1 =>
      rw [hl] at h
      simp only at h
      have h1 := lineS_len hl
      have h2 := lineS_le hl
      split at h
      · injection h with h3 h4
        subst h3
        exact ⟨by simp, fun h hm => by simp at hm⟩
      · cases hh : hdrOf c with
        | none => rw [hh] at h; cases h
        | some x =>
          rw [hh] at h
          simp only at h
          cases hf : fieldsF bad f b1 with
          | err e => rw [hf] at h; cases h
          | ok y z =>
            rw [hf] at h
            injection h with h3 h4
            subst h3
            have ih := fields_len f hf
            have hx : x.1.length ≤ c.length ∧ x.2.length ≤ c.length := by
              unfold hdrOf at hh
              cases hc : cutL 58 c with
              | none => rw [hc] at hh; cases hh
              | some nv =>
                obtain ⟨nm, vv⟩ := nv
                rw [hc] at hh
                simp only at hh
                split at hh
                · injection hh with hh
                  subst hh
                  have := cutL_len hc
                  have := trim_len vv
                  simp only
                  omega
                · cases hh
            refine ⟨by rw [List.length_cons]; omega, fun h hm => ?_⟩
            rcases List.mem_cons.1 hm with rfl | hm
            · omega
            · have := ih.2 h hm; omega
theorem line_pos {bad er : Nat} {t : Bytes} (h : lineS bad t = .err er) (hb : 280 ≤ bad ∧ bad ≤ 282) (more : Bool) : ((errV more er : Nat) : Int) ≠ 0 := by
  have := errV_pos (more := more) (lineS_err h hb); omega
set_option maxHeartbeats 32000000 in
theorem read_any (A : Option Addr) (n c : Nat) (raw : List UInt8) (w : World) (hA : RB w A raw) (hn : n = raw.length) (hc : n ≤ c) (hl : n ≤ 1152921504606846976) :
    Calls Tryd.prog 16 #[.slice A n c] w (ReadPost w (readAll raw)) := by
  obtain ⟨s, hs⟩ : ∃ s, s = raw.take 65536 := ⟨_, rfl⟩
  obtain ⟨more, hmore⟩ : ∃ b, b = decide (65536 < n) := ⟨_, rfl⟩
  have hR : readAll raw = match readS s with | .err e => .error (errV more e) | .ok r t => .ok (r, s.length - t.length) := by
    rw [hs, hmore, hn]; unfold readAll errV Most; simp; cases readS (raw.take 65536) <;> rfl
  have c0 := fun (W : World) (hb : Below w.heap.size w W) => over_any A n c raw W (hA.below hb) hn hc hl
  rw [← hs, ← hmore] at c0
  have hfar : s ≠ [] → ∀ ad, A = some ad → ad.block < w.heap.size := by rw [hs]; exact rb_lt (hA.take 65536)
  have HR := Lib.hid hR
  have C0 := Lib.hid c0
  have HF := Lib.hid hfar
  clear hR c0 hfar hA hn hc hl hs hmore
  go_enter Tryd.func16, Tryd.ntmps16
  go_upto_region 1 with fail
  obtain ⟨w1, hw1⟩ : ∃ x, x = w.alloc (.cells #[.string ⟨#[]⟩, .string ⟨#[]⟩, .slice none 0 0, .slice none 0 0, .bool false] 30) := ⟨_, rfl⟩
  rw [← hw1]
  have hb1 : Below w.heap.size w w1 := hw1 ▸ ga (gr w) _
  have hB1 : Blk w1 w.heap.size 30 [.string ⟨#[]⟩, .string ⟨#[]⟩, .slice none 0 0, .slice none 0 0, .bool false] := hw1 ▸ Blk.new w _ _
  obtain ⟨H2, hH⟩ : ∃ H, H = w.heap.size := ⟨_, rfl⟩
  rw [← hH] at hB1 ⊢
  have hz1 : H2 < w1.heap.size := hB1.lt
  have k0 := C0.out w1 hb1
  obtain ⟨g, hg⟩ : ∃ g, g = w1.heap.size := ⟨_, rfl⟩
  rw [← hg] at k0 hz1
  have K0 := Lib.hid k0
  have HW := Lib.hid (And.intro hB1 (And.intro hb1 (And.intro hz1 (And.intro (by omega : w.heap.size ≤ H2) hg))))
  clear k0 hb1 hB1 hw1 hz1 hH hg
  go_upto_region 2 with (first
    | (go_at_call 31; go_must (refine (K0.out).mono ?_); rintro e w2 ⟨rfl, hc2, hb2⟩; rw [HW.out.2.2.2.2] at hb2; have H2' := Lib.hid (And.intro hc2 hb2); clear hc2 hb2))
  go_upto_region 3 with fail
  obtain ⟨w3, hw3⟩ : ∃ x, x = w2.alloc (.cells #[.string ⟨#[]⟩, .string ⟨#[]⟩, .slice none 0 0, .slice none 0 0, .bool false] 30) := ⟨_, rfl⟩
  rw [← hw3]
  have hb3 : Below w2.heap.size w2 w3 := hw3 ▸ ga (gr w2) _
  have hB3 : Blk w3 w2.heap.size 30 [.string ⟨#[]⟩, .string ⟨#[]⟩, .slice none 0 0, .slice none 0 0, .bool false] := hw3 ▸ Blk.new w2 _ _
  obtain ⟨q, hq⟩ : ∃ H, H = w2.heap.size := ⟨_, rfl⟩
  rw [← hq] at hB3 ⊢
  have S3 : RS w w3 H2 g q A c s more 0 [.string ⟨#[]⟩, .string ⟨#[]⟩, .slice none 0 0, .slice none 0 0, .bool false] :=
    ⟨⟨HW.out.2.1.trans ((H2'.out.2.mono HW.out.2.1.size).trans (hb3.mono (by have := H2'.out.2.size; have := HW.out.2.1.size; omega))), (HW.out.1.grow H2'.out.2).grow hb3, hB3, HW.out.2.2.2.1, HW.out.2.2.1, by rw [hq]; exact H2'.out.1.blk.lt⟩, H2'.out.1.grow hb3, HF.out⟩
  replace S3 := Lib.hid S3
  clear hb3 hB3 hw3 hq
  have c1 := first_any (B := g) (w := w3) (g := g) (q := q) (R := A) (c := c) (p := 0) (s := s) (more := more) ⟨S3.out.cur, S3.out.req, by have := S3.out.gq; omega, fun hs ad e => by have := S3.out.fcell hs ad e; omega, Nat.le_refl _, by have := S3.out.gq; omega⟩
  rw [List.drop_zero] at c1
  have HLOW := Lib.hid (show w.heap.size ≤ g by have := S3.out.h2e; have := S3.out.h2g; omega)
  cases hl1 : lineS 280 s with
  | err er =>
    rw [hl1] at c1
    have C1 := Lib.hid c1
    have HE := Lib.hid (show readAll raw = .error (errV more er) by rw [HR.out]; unfold readS; rw [hl1])
    have hy0 := line_pos hl1 (by omega) more
    clear c1 hl1
    go_wp2_with (first
      | (go_at_call 32; go_must (refine (C1.out).mono ?_); rintro e w4 hp4; obtain ⟨hb4, rfl⟩ := hp4; have S4 := Lib.hid (E4.mk (S3.out.low.trans (hb4.mono HLOW.out)) (S3.out.h2.below hb4 S3.out.h2g) S3.out.h2e); clear hb4)
      | ((with_reducible show wpList _ _ _ (⟨none, .store _ (.tmp 2) _, _, _, _, _⟩ :: _) _ _); go_must (refine wpList_storeB AR rfl (.tmp 2) (.tmp 19) rfl H2 0 rfl [.string ⟨#[]⟩, .string ⟨#[]⟩, .slice none 0 0, .slice none 0 0, .bool false] rfl rfl _ _ S4.out.h2 (by simp) (by simp [Value.oneCell']) ?_); intro w9 hB9 hg9 hz9
         have c0 := hB9.cell 0
         have c1 := hB9.cell 1
         have c2 := hB9.cell 2
         have c3 := hB9.cell 3
         have c4 := hB9.cell 4
         simp only [splice, List.take_zero, List.nil_append, List.length_cons, List.length_nil, List.drop_succ_cons, List.drop_zero, List.append_nil, List.getElem?_cons_zero, List.getElem?_cons_succ, Nat.zero_add, List.drop_nil] at c0 c1 c2 c3 c4
         clear hB9 hz9))
    refine bodyPost_ret (v := .tuple #[.agg #[.string ⟨#[]⟩, .string ⟨#[]⟩, .slice none 0 0, .slice none 0 0, .bool false], .int .i64 0, .int .i64 (errV more er : Nat)]) (by simp [results, Tryd.results16, go_sem, c0, c1, c2, c3, c4]) rfl ?_
    exact rd_err (HE.out) (S4.out.low.grown hg9 S4.out.low.size (fun j hj => by injection hj with hj; have := S4.out.h2e; omega)) rfl
  | ok l t1 =>
    rw [hl1] at c1
    obtain ⟨u1, hu1⟩ := lineS_suf hl1
    have hbs := drop_suf (s := s) (u := u1) (b := t1) (q := 0) (by rw [List.drop_zero]; exact hu1) (Nat.zero_le _)
    obtain ⟨p1, hp1⟩ : ∃ p, p = s.length - t1.length := ⟨_, rfl⟩
    rw [← hp1] at hbs
    have hp1n : p1 ≤ s.length := by omega
    unfold FirstPost at c1
    simp only at c1
    cases hfs : firstS l with
    | none =>
      simp only [hfs] at c1
      have C1 := Lib.hid c1
      have HE := Lib.hid (show readAll raw = .error 280 by rw [HR.out]; unfold readS; rw [hl1]; simp only; rw [hfs]; simp only [errV_ne (show (280 : Nat) ≠ 283 by decide)])
      clear c1 hl1 hfs hu1 hbs hp1 hp1n
      go_wp2_with (first
        | (go_at_call 32; go_must (refine (C1.out).mono ?_); rintro e w4 hp4; obtain ⟨hb4, rfl⟩ := hp4; have S4 := Lib.hid (E4.mk (S3.out.low.trans (hb4.mono HLOW.out)) (S3.out.h2.below hb4 S3.out.h2g) S3.out.h2e); clear hb4)
        | ((with_reducible show wpList _ _ _ (⟨none, .store _ (.tmp 2) _, _, _, _, _⟩ :: _) _ _); go_must (refine wpList_storeB AR rfl (.tmp 2) (.tmp 19) rfl H2 0 rfl [.string ⟨#[]⟩, .string ⟨#[]⟩, .slice none 0 0, .slice none 0 0, .bool false] rfl rfl _ _ S4.out.h2 (by simp) (by simp [Value.oneCell']) ?_); intro w9 hB9 hg9 hz9
           have c0 := hB9.cell 0
           have c1 := hB9.cell 1
           have c2 := hB9.cell 2
           have c3 := hB9.cell 3
           have c4 := hB9.cell 4
           simp only [splice, List.take_zero, List.nil_append, List.length_cons, List.length_nil, List.drop_succ_cons, List.drop_zero, List.append_nil, List.getElem?_cons_zero, List.getElem?_cons_succ, Nat.zero_add, List.drop_nil] at c0 c1 c2 c3 c4
           clear hB9 hz9))
      refine bodyPost_ret (v := .tuple #[.agg #[.string ⟨#[]⟩, .string ⟨#[]⟩, .slice none 0 0, .slice none 0 0, .bool false], .int .i64 0, .int .i64 280]) (by simp [results, Tryd.results16, go_sem, c0, c1, c2, c3, c4]) rfl ?_
      exact rd_err (HE.out) (S4.out.low.grown hg9 S4.out.low.size (fun j hj => by injection hj with hj; have := S4.out.h2e; omega)) rfl
    | some mto =>
      obtain ⟨mm, tg, old⟩ := mto
      simp only [hfs] at c1
      rw [← hp1] at c1
      obtain ⟨sm, hsm⟩ : ∃ x, x = (⟨mm.toArray⟩ : ByteArray) := ⟨_, rfl⟩
      obtain ⟨stg, hst⟩ : ∃ x, x = (⟨tg.toArray⟩ : ByteArray) := ⟨_, rfl⟩
      rw [← hsm, ← hst] at c1
      have C1 := Lib.hid c1
      have HS := Lib.hid (And.intro hsm (And.intro hst (And.intro hbs hp1n)))
      have HE1 := Lib.hid (show readS s = readT s mm tg old (s.drop p1) by rw [← hbs]; exact read_eq hl1 hfs)
      clear c1 hl1 hfs hu1 hbs hp1 hp1n hsm hst
      go_upto_region 6 with (first
        | (go_at_call 32; go_must (refine (C1.out).mono ?_); rintro e w4 hp4; obtain ⟨hb4, rfl, hc4, hq4⟩ := hp4; have S4 := Lib.hid (RS.mk ⟨S3.out.low.trans (hb4.mono HLOW.out), S3.out.h2.below hb4 S3.out.h2g, hq4, S3.out.h2e, S3.out.h2g, S3.out.gq⟩ hc4 S3.out.far); clear hb4 hc4 hq4))
      have c2 := fields_any S4.out.cur 281 (by omega)
      cases hff : fieldsS 281 (s.drop p1) with
      | err er =>
        rw [hff] at c2
        have C2 := Lib.hid c2
        have hy0 : ((errV more er : Nat) : Int) ≠ 0 := by
          have := errV_pos (more := more) (er := er) (by have := fields_err _ hff; omega); omega
        have HE := Lib.hid (show readAll raw = .error (errV more er) by rw [HR.out, HE1.out, rt_err hff])
        clear c2 hff
        go_upto_region 7 with (first
          | (go_at_call 33; go_must (refine (C2.out).mono ?_); rintro e w5 hp5; obtain ⟨hg5, rfl, _⟩ := hp5; have S5 := Lib.hid (S4.out.toES.line hg5); have dq2 := S5.out.req.cell 2; have fq2 := S5.out.req.frozen 2; simp only [List.getElem?_cons_succ, List.getElem?_cons_zero] at dq2; clear hg5))
        have S6 := Lib.hid (S5.out.set_ 2 (.slice none 0 0))
        clear dq2 fq2
        obtain ⟨w6, hw6⟩ : ∃ x, x = w5.setCell ⟨q, 2, none⟩ (.slice none 0 0) := ⟨_, rfl⟩
        rw [← hw6] at S6 ⊢
        clear hw6
        go_wp2_with (first
          | ((with_reducible show wpList _ _ _ (⟨none, .store _ (.tmp 2) _, _, _, _, _⟩ :: _) _ _); go_must (refine wpList_storeB AR rfl (.tmp 2) (.tmp 29) rfl H2 0 rfl [.string ⟨#[]⟩, .string ⟨#[]⟩, .slice none 0 0, .slice none 0 0, .bool false] rfl rfl _ _ S6.out.h2 (by simp) (by simp [Value.oneCell']) ?_); intro w9 hB9 hg9 hz9
             have c0 := hB9.cell 0
             have c1 := hB9.cell 1
             have c2 := hB9.cell 2
             have c3 := hB9.cell 3
             have c4 := hB9.cell 4
             simp only [splice, List.take_zero, List.nil_append, List.length_cons, List.length_nil, List.drop_succ_cons, List.drop_zero, List.append_nil, List.getElem?_cons_zero, List.getElem?_cons_succ, Nat.zero_add, List.drop_nil] at c0 c1 c2 c3 c4
             clear hB9 hz9))
        refine bodyPost_ret (v := .tuple #[.agg #[.string ⟨#[]⟩, .string ⟨#[]⟩, .slice none 0 0, .slice none 0 0, .bool false], .int .i64 0, .int .i64 (errV more er : Nat)]) (by simp [results, Tryd.results16, go_sem, c0, c1, c2, c3, c4]) rfl ?_
        exact rd_err (HE.out) (S6.out.low.grown hg9 S6.out.low.size (fun j hj => by injection hj with hj; have := S6.out.h2e; omega)) rfl
      | ok hs t2 =>
        rw [hff] at c2
        obtain ⟨u2, hu2⟩ := fields_suf _ hff
        have hbs2 := drop_suf (s := s) (u := u2) (b := t2) (q := p1) hu2 HS.out.2.2.2
        obtain ⟨p2, hp2⟩ : ∃ p, p = s.length - t2.length := ⟨_, rfl⟩
        have hfl := fields_len _ hff
        have hdl : (s.drop p1).length ≤ 65536 := by rw [List.length_drop]; have := S4.out.cur.len; omega
        have hok : ∀ h ∈ hs, HD.ok h := fun h hm => by have := hfl.2 h hm; exact ⟨by omega, by omega⟩
        have hhl : hs.length ≤ 1048576 := by omega
        unfold FieldsPost at c2
        simp only at c2
        rw [← hp2] at c2 hbs2
        obtain ⟨hm, hhm⟩ : ∃ m, m = hs.length := ⟨_, rfl⟩
        rw [← hhm] at c2
        have C2 := Lib.hid c2
        have HH := Lib.hid (And.intro hhm (And.intro hok (And.intro hhl (And.intro hbs2 (And.intro hp2 hff)))))
        clear c2 hff hu2 hbs2 hp2 hfl hdl hok hhl hhm
        go_upto_region 7 with (first
          | (go_at_call 33; go_must (refine (C2.out).mono ?_); rintro e w5 hp5; obtain ⟨hg5, A5, k5, rfl, ho5, hc5⟩ := hp5; have S5 := Lib.hid (S4.out.line hg5 hc5); have dq2 := S5.out.req.cell 2; have fq2 := S5.out.req.frozen 2; simp only [List.getElem?_cons_succ, List.getElem?_cons_zero] at dq2; have O5 := Lib.hid ho5; clear hg5 hc5 ho5))
        have S6 := Lib.hid (S5.out.set_ 2 (.slice A5 hm k5))
        have O6 := Lib.hid (own_line O5.out (grownBy_set w5 q 2 (.slice A5 hm k5)) S4.out.szq)
        clear dq2 fq2
        obtain ⟨w6, hw6⟩ : ∃ x, x = w5.setCell ⟨q, 2, none⟩ (.slice A5 hm k5) := ⟨_, rfl⟩
        rw [← hw6] at S6 O6 ⊢
        clear hw6
        simp only [List.set_cons_succ, List.set_cons_zero] at S6
        have dq2 := S6.out.req.cell 2
        simp only [List.getElem?_cons_succ, List.getElem?_cons_zero] at dq2
        have c3 := judge_any A5 hm k5 hs old w6 (own_rv O6.out) HH.out.1 HH.out.2.1 (by have := HH.out.1; have := HH.out.2.2.1; omega)
        cases hj : judgeS hs old with
        | none =>
          rw [hj] at c3
          have C3 := Lib.hid c3
          have HE := Lib.hid (show readAll raw = .error 281 by rw [HR.out, HE1.out, rt_none HH.out.2.2.2.2.2 hj]; simp only [errV_ne (show (281 : Nat) ≠ 283 by decide)])
          clear c3 hj
          go_wp2_with (first
            | (go_at_call 34; go_must (refine (C3.out).mono ?_); rintro e w7 hp7; obtain ⟨rfl, hb7⟩ := hp7; have S7 := Lib.hid (S6.out.below hb7); have O7 := Lib.hid (own_below' O6.out hb7); clear hb7)
            | ((with_reducible show wpList _ _ _ (⟨some 9, _, _, _, _, _⟩ :: _) _ _); go_must (refine wpList_allocB AS rfl rfl w7.heap.size rfl ?_); intro w71 hB71 hb71 hz71; have HA7 := Lib.hid (And.intro hB71 (And.intro (S7.out.below hb71) (own_below' O7.out hb71))); clear hB71 hb71 hz71)
            | ((with_reducible show wpList _ _ _ (⟨none, .store _ (.tmp 9) _, _, _, _, _⟩ :: _) _ _); go_must (refine wpList_storeB AS rfl (.tmp 9) (.tmp 36) rfl w7.heap.size 0 rfl [.string ⟨#[]⟩, .bool false] rfl rfl _ _ HA7.out.1 (by simp) (by simp [Value.oneCell']) ?_); intro w8 hB8 hg8 hz8
               simp only [splice, List.take_zero, List.nil_append, List.length_cons, List.length_nil, List.drop_succ_cons, List.drop_zero, List.append_nil, Nat.zero_add, List.drop_nil] at hB8
               have S8 := Lib.hid (HA7.out.2.1.keep hg8 S7.out.szq)
               have O8 := Lib.hid (HA7.out.2.2.kept hg8 (own_ne O7.out))
               have H8 := Lib.hid hB8
               have k80 := hB8.cell 0
               have k81 := hB8.cell 1
               simp only [List.getElem?_cons_zero, List.getElem?_cons_succ] at k80 k81
               clear hB8 hg8 hz8)
            | ((with_reducible show wpList _ _ _ (⟨none, .store _ (.tmp 2) _, _, _, _, _⟩ :: _) _ _); go_must (refine wpList_storeB AR rfl (.tmp 2) (.tmp 40) rfl H2 0 rfl [.string ⟨#[]⟩, .string ⟨#[]⟩, .slice none 0 0, .slice none 0 0, .bool false] rfl rfl _ _ S8.out.h2 (by simp) (by simp [Value.oneCell']) ?_); intro w9 hB9 hg9 hz9
               have c0 := hB9.cell 0
               have c1 := hB9.cell 1
               have c2 := hB9.cell 2
               have c3 := hB9.cell 3
               have c4 := hB9.cell 4
               simp only [splice, List.take_zero, List.nil_append, List.length_cons, List.length_nil, List.drop_succ_cons, List.drop_zero, List.append_nil, List.getElem?_cons_zero, List.getElem?_cons_succ, Nat.zero_add, List.drop_nil] at c0 c1 c2 c3 c4
               clear hB9 hz9))
          refine bodyPost_ret (v := .tuple #[.agg #[.string ⟨#[]⟩, .string ⟨#[]⟩, .slice none 0 0, .slice none 0 0, .bool false], .int .i64 0, .int .i64 281]) (by simp [results, Tryd.results16, go_sem, c0, c1, c2, c3, c4]) rfl ?_
          exact rd_err (HE.out) (S8.out.low.grown hg9 S8.out.low.size (fun j hj => by injection hj with hj; have := S8.out.h2e; omega)) rfl
        | some sh =>
          rw [hj] at c3
          have hgood := HH.out.2.2.2.2.2
          cases sh with
          | none =>
            have C3 := Lib.hid c3
            have HE := Lib.hid (show readAll raw = .ok (⟨mm, tg, hs, [], endS hs old⟩, p2) by rw [HR.out, HE1.out, rt_ok (body := []) (t3 := t2) hgood hj rfl, HH.out.2.2.2.2.1])
            clear c3 hj hgood
            go_upto_region 18 with (first
              | (go_at_call 34; go_must (refine (C3.out).mono ?_); rintro e w7 hp7; obtain ⟨rfl, hb7⟩ := hp7; have S7 := Lib.hid (S6.out.below hb7); have O7 := Lib.hid (own_below' O6.out hb7); clear hb7)
              | ((with_reducible show wpList _ _ _ (⟨some 9, _, _, _, _, _⟩ :: _) _ _); go_must (refine wpList_allocB AS rfl rfl w7.heap.size rfl ?_); intro w71 hB71 hb71 hz71; have HA7 := Lib.hid (And.intro hB71 (And.intro (S7.out.below hb71) (own_below' O7.out hb71))); clear hB71 hb71 hz71)
              | ((with_reducible show wpList _ _ _ (⟨none, .store _ (.tmp 9) _, _, _, _, _⟩ :: _) _ _); go_must (refine wpList_storeB AS rfl (.tmp 9) (.tmp 36) rfl w7.heap.size 0 rfl [.string ⟨#[]⟩, .bool false] rfl rfl _ _ HA7.out.1 (by simp) (by simp [Value.oneCell']) ?_); intro w8 hB8 hg8 hz8
                 simp only [splice, List.take_zero, List.nil_append, List.length_cons, List.length_nil, List.drop_succ_cons, List.drop_zero, List.append_nil, Nat.zero_add, List.drop_nil] at hB8
                 have S8 := Lib.hid (HA7.out.2.1.keep hg8 S7.out.szq)
                 have O8 := Lib.hid (HA7.out.2.2.kept hg8 (own_ne O7.out))
                 have H8 := Lib.hid hB8
                 have k80 := hB8.cell 0
                 have k81 := hB8.cell 1
                 simp only [List.getElem?_cons_zero, List.getElem?_cons_succ] at k80 k81
                 clear hB8 hg8 hz8))
            have dz2 := S8.out.req.cell 2
            simp only [List.getElem?_cons_succ, List.getElem?_cons_zero] at dz2
            have c6 := closes_any A5 hm k5 hs old w8 (own_rv O8.out) HH.out.1 HH.out.2.1 (by have := HH.out.1; have := HH.out.2.2.1; omega)
            obtain ⟨cl, hcl⟩ : ∃ b, b = endS hs old := ⟨_, rfl⟩
            rw [← hcl] at c6
            have C6 := Lib.hid c6
            have HCL := Lib.hid hcl
            clear c6 hcl
            go_upto_region 19 with (first
              | (go_at_call 37; go_must (refine (C6.out).mono ?_); rintro e w15 ⟨rfl, hb15⟩; have S15 := Lib.hid (S8.out.below hb15); have O15 := Lib.hid (own_below' O8.out hb15); have dq4 := S15.out.req.cell 4; have fq4 := S15.out.req.frozen 4; simp only [List.getElem?_cons_succ, List.getElem?_cons_zero] at dq4; clear hb15))
            have S16 := Lib.hid (S15.out.set_ 4 (.bool cl))
            have O16 := Lib.hid (own_line O15.out (grownBy_set w15 q 4 (.bool cl)) S4.out.szq)
            clear dq4 fq4 dz2
            obtain ⟨w16, hw16⟩ : ∃ x, x = w15.setCell ⟨q, 4, none⟩ (.bool cl) := ⟨_, rfl⟩
            rw [← hw16] at S16 O16 ⊢
            clear hw16
            simp only [List.set_cons_succ, List.set_cons_zero] at S16
            try simp only [Act.put, List.setIfInBounds_toArray, List.set_cons_succ, List.set_cons_zero]
            have dg1 := S16.out.cur.blk.cell 1
            simp only [List.getElem?_cons_succ, List.getElem?_cons_zero] at dg1
            have hgH : g ≠ H2 := by have := S16.out.h2g; omega
            try simp only [Act.put, List.setIfInBounds_toArray, List.set_cons_succ, List.set_cons_zero]
            refine wp_region_rrT (RR H2 [.string sm, .string stg, .slice A5 hm k5, .slice none 0 0, .bool cl]) (fun _ _ _ h k => h.trans k) (fun _ _ h => h.1.size) (RR.drew) 6
              [.eq 70 (.agg #[.string sm, .string stg, .slice A5 hm k5, .slice none 0 0, .bool cl]), .eq 71 (.pointer (some ⟨g, 0, none⟩)), .eq 72 (.pointer (some ⟨g, 0, none⟩)), .eq 73 (.pointer (some ⟨g, 1, none⟩)), .eq 74 (.int .i64 (p2 : Int)), .one 70 (fun v W => ∃ u : Unit, Blk W H2 30 [.string sm, .string stg, .slice A5 hm k5, .slice none 0 0, .bool cl])]
              (by kernel_rfl) (by kernel_rfl) (by kernel_rfl) (by kernel_rfl) ?hsta ?hoba ?hfina
            case hsta =>
              intro s hs
              simp only [List.mem_cons, List.not_mem_nil, or_false] at hs
              rcases hs with rfl | rfl | rfl | rfl | rfl | rfl
              · exact fun _ _ _ h _ => h
              · exact fun _ _ _ h _ => h
              · exact fun _ _ _ h _ => h
              · exact fun _ _ _ h _ => h
              · exact fun _ _ _ h _ => h
              · rintro vs w1 w2 ⟨v, rfl, h⟩ hb
                exact ⟨_, rfl, (fun ⟨u, h⟩ hb => ⟨u, hb.2.1 h⟩) h hb⟩
            case hoba =>
              simp only [List.take_succ_cons, List.take_zero]
              refine rrs_cons ?_ (rrs_cons ?_ (rrs_cons ?_ (rrs_cons ?_ (rrs_cons ?_ (rrs_cons ?_ rrs_nil)))))
              · refine rr_wp (by decide) (by rfl) fun x w' A hg hp hA K' hK' => ?_
                have e6 := hA 6
                simp [rgDsts] at e6
                refine wp_loadB AR _ rfl q 0 ?_ _ _ (S16.out.req.grown hg.1 (fun e => by injection e with e; have := S16.out.h2g; have := S16.out.gq; omega)) [.string sm, .string stg, .slice A5 hm k5, .slice none 0 0, .bool cl] (by simp) rfl ?_
                · simpa [Act.eval] using e6
                · exact hK' _ _ (RR.refl _ _ _) (by simp) (by simp)
              · refine rr_eq (RR.refl H2 [.string sm, .string stg, .slice A5 hm k5, .slice none 0 0, .bool cl]) (by decide) (by rfl) (by rfl) fun x w' A hg hp hA => ?_
                have e5 := hA 5
                simp [rgDsts] at e5
                go_simp
              · refine rr_eq (RR.refl H2 [.string sm, .string stg, .slice A5 hm k5, .slice none 0 0, .bool cl]) (by decide) (by rfl) (by rfl) fun x w' A hg hp hA => ?_
                have h71 := rg_pred_eq (d := 71) hp 0 rfl rfl rfl
                have e71 := (hA.at_ 71 rfl).trans h71
                go_simp
              · refine rr_eq (RR.refl H2 [.string sm, .string stg, .slice A5 hm k5, .slice none 0 0, .bool cl]) (by decide) (by rfl) (by rfl) fun x w' A hg hp hA => ?_
                have h72 := rg_pred_eq (d := 72) hp 0 rfl rfl rfl
                have e72 := (hA.at_ 72 rfl).trans h72
                go_simp
              · refine rr_eq (RR.refl H2 [.string sm, .string stg, .slice A5 hm k5, .slice none 0 0, .bool cl]) (by decide) (by rfl) (by rfl) fun x w' A hg hp hA => ?_
                have h73 := rg_pred_eq (d := 73) hp 0 rfl rfl rfl
                have e73 := (hA.at_ 73 rfl).trans h73
                have dg := RR.cell hg dg1 hgH
                go_simp
              · refine rr_wp (by decide) (by rfl) fun x w' A hg hp hA K' hK' => ?_
                have h70 := rg_pred_eq (d := 70) hp 0 rfl rfl rfl
                have e2 := hA 2
                simp [rgDsts] at e2
                have e70 := (hA.at_ 70 rfl).trans h70
                obtain ⟨cs, hB2, hcs⟩ := hg.2.2 _ S16.out.h2
                refine wp_storeB AR (.tmp 2) (.tmp 70) rfl H2 0 (by simpa [Act.eval] using e2) [.string sm, .string stg, .slice A5 hm k5, .slice none 0 0, .bool cl] (by simpa [Act.eval] using e70) rfl 30 cs hB2 (by rw [hcs]; simp) (by simp [Value.oneCell']) fun w'' hB'' hg'' hz'' => ?_
                rw [splice_all cs [.string sm, .string stg, .slice A5 hm k5, .slice none 0 0, .bool cl] (by rw [hcs]; rfl)] at hB''
                exact hK' _ _ ⟨hg'', fun _ => hB'', fun cs2 hc2 => ⟨_, hB'', by have e := hB2.symm.trans hc2; injection e with e; injection e with e; have := congrArg Array.size e; simp at this; rw [← this, hcs]; rfl⟩⟩ ⟨_, rfl, (), hB''⟩ (by simp)
            case hfina =>
            intro x w9 hg hall hap
            simp only [RgAll, holds_eq, holds_new, holds_one, and_true] at hall
            obtain ⟨h70, h71, h72, h73, h74, hNone⟩ := hall
            obtain ⟨u9, hB9⟩ := hNone
            simp only [rgDsts, List.take_succ_cons, List.take_zero, List.filterMap_cons, List.filterMap_nil, putMany, List.foldl_cons, List.foldl_nil, List.setIfInBounds_toArray, List.set_cons_succ, List.set_cons_zero, List.drop_succ_cons, List.drop_zero, h70, h71, h72, h73, h74]
            clear h70 h71 h72 h73 h74
            have hgr := hg.1
            clear hg dg1 hgH hap
            have c0 := hB9.cell 0
            have c1 := hB9.cell 1
            have c2 := hB9.cell 2
            have c3 := hB9.cell 3
            have c4 := hB9.cell 4
            simp only [splice, List.take_zero, List.nil_append, List.length_cons, List.length_nil, List.drop_succ_cons, List.drop_zero, List.append_nil, List.getElem?_cons_zero, List.getElem?_cons_succ, Nat.zero_add, List.drop_nil] at c0 c1 c2 c3 c4
            go_wp2
            refine bodyPost_ret (v := .tuple #[.agg #[.string sm, .string stg, .slice A5 hm k5, .slice none 0 0, .bool cl], .int .i64 (p2 : Int), .int .i64 0]) (by simp [results, Tryd.results16, go_sem, c0, c1, c2, c3, c4]) rfl ?_
            refine rd_ok (HE.out) (S16.out.low.grown hgr S16.out.low.size (fun j hj => by injection hj with hj; have := S16.out.h2e; omega)) (A := A5) (k := k5) (K := w8.heap.size) (by rw [← HCL.out, ← HS.out.1, ← HS.out.2.1, ← HH.out.1]; try rfl) ?_ (fun G hG => (O8.out.lt G (by rw [HH.out.1]; exact hG)).2) S8.out.low.size ?_
            · have ho := (own_line O16.out (w' := w9) (g := H2) hgr (by have := S4.out.h2g; have := S4.out.szq; have := S4.out.gq; omega))
              rw [HH.out.1] at ho
              exact own_base ho S4.out.low.size
            · exact World.ownsRow_nil w9 _ _ _
          | long N =>
            obtain ⟨r, hr⟩ : ∃ r, r = bodyS (.long N) p2 t2 := ⟨_, rfl⟩
            cases r with
            | err er =>
              have HE := Lib.hid (show readAll raw = .error (errV more er) by rw [HR.out, HE1.out, rt_body_err hgood hj (by rw [← HH.out.2.2.2.2.1]; exact hr.symm)])
              have hy0 : ((errV more er : Nat) : Int) ≠ 0 := by
                have := body_err hr.symm; have := errV_pos (more := more) (er := er) (by omega); omega
              have HRR := Lib.hid hr
              have C3 := Lib.hid c3
              clear c3 hj hgood hr
              go_upto_region 15 with (first
                | (go_at_call 34; go_must (refine (C3.out).mono ?_); rintro e w7 hp7; obtain ⟨⟨d, hd1, hd2, hdn, hd3, rfl⟩, hb7⟩ := hp7; obtain ⟨sd, hsd⟩ : ∃ x, x = (⟨d.toArray⟩ : ByteArray) := ⟨_, rfl⟩; rw [← hsd]; have S7 := Lib.hid (S6.out.below hb7); have O7 := Lib.hid (own_below' O6.out hb7); have e0 : sd.toList.isEmpty = false := (by rw [hsd, ByteArray.toList_eq]; cases d with | nil => exact absurd rfl hd1 | cons a r => rfl); have HD := Lib.hid (And.intro hd2 (And.intro hdn (And.intro hd3 hsd))); clear hb7 hd1 hd2 hdn hd3 hsd)
                | ((with_reducible show wpList _ _ _ (⟨some 9, _, _, _, _, _⟩ :: _) _ _); go_must (refine wpList_allocB AS rfl rfl w7.heap.size rfl ?_); intro w71 hB71 hb71 hz71; have HA7 := Lib.hid (And.intro hB71 (And.intro (S7.out.below hb71) (own_below' O7.out hb71))); clear hB71 hb71 hz71)
                | ((with_reducible show wpList _ _ _ (⟨none, .store _ (.tmp 9) _, _, _, _, _⟩ :: _) _ _); go_must (refine wpList_storeB AS rfl (.tmp 9) (.tmp 36) rfl w7.heap.size 0 rfl [.string sd, .bool false] rfl rfl _ _ HA7.out.1 (by simp) (by simp [Value.oneCell']) ?_); intro w8 hB8 hg8 hz8
                   simp only [splice, List.take_zero, List.nil_append, List.length_cons, List.length_nil, List.drop_succ_cons, List.drop_zero, List.append_nil, Nat.zero_add, List.drop_nil] at hB8
                   have S8 := Lib.hid (HA7.out.2.1.keep hg8 S7.out.szq)
                   have O8 := Lib.hid (HA7.out.2.2.kept hg8 (own_ne O7.out))
                   have H8 := Lib.hid hB8
                   have k80 := hB8.cell 0
                   have k81 := hB8.cell 1
                   simp only [List.getElem?_cons_zero, List.getElem?_cons_succ] at k80 k81
                   clear hB8 hg8 hz8))
              have k5 := counted_any S8.out.cur d HD.out.1 (by have := HD.out.2.2.1; omega)
              rw [← HD.out.2.1, ← HH.out.2.2.2.1, ← HRR.out, ← HD.out.2.2.2] at k5
              have K5 := Lib.hid k5
              clear k5
              go_upto_region 16 with (first
                | (go_at_call 36; go_must (refine (K5.out).mono ?_); rintro e w10 hp10; obtain ⟨hg10, rfl⟩ := hp10; have S10 := Lib.hid (S8.out.toES.line hg10); have dq3 := S10.out.req.cell 3; have fq3 := S10.out.req.frozen 3; simp only [List.getElem?_cons_succ, List.getElem?_cons_zero] at dq3; clear hg10))
              have S11 := Lib.hid (S10.out.set_ 3 (.slice none 0 0))
              clear dq3 fq3
              obtain ⟨w11, hw11⟩ : ∃ x, x = w10.setCell ⟨q, 3, none⟩ (.slice none 0 0) := ⟨_, rfl⟩
              rw [← hw11] at S11  ⊢
              clear hw11
              simp only [List.set_cons_succ, List.set_cons_zero] at S11
              go_wp2_with (first
                | ((with_reducible show wpList _ _ _ (⟨none, .store _ (.tmp 2) _, _, _, _, _⟩ :: _) _ _); go_must (refine wpList_storeB AR rfl (.tmp 2) (.tmp 63) rfl H2 0 rfl [.string ⟨#[]⟩, .string ⟨#[]⟩, .slice none 0 0, .slice none 0 0, .bool false] rfl rfl _ _ S11.out.h2 (by simp) (by simp [Value.oneCell']) ?_); intro w9 hB9 hg9 hz9
                   have c0 := hB9.cell 0
                   have c1 := hB9.cell 1
                   have c2 := hB9.cell 2
                   have c3 := hB9.cell 3
                   have c4 := hB9.cell 4
                   simp only [splice, List.take_zero, List.nil_append, List.length_cons, List.length_nil, List.drop_succ_cons, List.drop_zero, List.append_nil, List.getElem?_cons_zero, List.getElem?_cons_succ, Nat.zero_add, List.drop_nil] at c0 c1 c2 c3 c4
                   clear hB9 hz9))
              refine bodyPost_ret (v := .tuple #[.agg #[.string ⟨#[]⟩, .string ⟨#[]⟩, .slice none 0 0, .slice none 0 0, .bool false], .int .i64 0, .int .i64 (errV more er : Nat)]) (by simp [results, Tryd.results16, go_sem, c0, c1, c2, c3, c4]) rfl ?_
              exact rd_err (HE.out) (S11.out.low.grown hg9 S11.out.low.size (fun j hj => by injection hj with hj; have := S11.out.h2e; omega)) rfl
            | ok xb t3 =>
              obtain ⟨p3, hp3⟩ : ∃ p, p = s.length - t3.length := ⟨_, rfl⟩
              have HE := Lib.hid (show readAll raw = .ok (⟨mm, tg, hs, xb, endS hs old⟩, p3) by rw [HR.out, HE1.out, rt_ok hgood hj (by rw [← HH.out.2.2.2.2.1]; exact hr.symm), hp3])
              have HRR := Lib.hid hr
              have HP3 := Lib.hid hp3
              have C3 := Lib.hid c3
              clear c3 hj hgood hr hp3
              go_upto_region 15 with (first
                | (go_at_call 34; go_must (refine (C3.out).mono ?_); rintro e w7 hp7; obtain ⟨⟨d, hd1, hd2, hdn, hd3, rfl⟩, hb7⟩ := hp7; obtain ⟨sd, hsd⟩ : ∃ x, x = (⟨d.toArray⟩ : ByteArray) := ⟨_, rfl⟩; rw [← hsd]; have S7 := Lib.hid (S6.out.below hb7); have O7 := Lib.hid (own_below' O6.out hb7); have e0 : sd.toList.isEmpty = false := (by rw [hsd, ByteArray.toList_eq]; cases d with | nil => exact absurd rfl hd1 | cons a r => rfl); have HD := Lib.hid (And.intro hd2 (And.intro hdn (And.intro hd3 hsd))); clear hb7 hd1 hd2 hdn hd3 hsd)
                | ((with_reducible show wpList _ _ _ (⟨some 9, _, _, _, _, _⟩ :: _) _ _); go_must (refine wpList_allocB AS rfl rfl w7.heap.size rfl ?_); intro w71 hB71 hb71 hz71; have HA7 := Lib.hid (And.intro hB71 (And.intro (S7.out.below hb71) (own_below' O7.out hb71))); clear hB71 hb71 hz71)
                | ((with_reducible show wpList _ _ _ (⟨none, .store _ (.tmp 9) _, _, _, _, _⟩ :: _) _ _); go_must (refine wpList_storeB AS rfl (.tmp 9) (.tmp 36) rfl w7.heap.size 0 rfl [.string sd, .bool false] rfl rfl _ _ HA7.out.1 (by simp) (by simp [Value.oneCell']) ?_); intro w8 hB8 hg8 hz8
                   simp only [splice, List.take_zero, List.nil_append, List.length_cons, List.length_nil, List.drop_succ_cons, List.drop_zero, List.append_nil, Nat.zero_add, List.drop_nil] at hB8
                   have S8 := Lib.hid (HA7.out.2.1.keep hg8 S7.out.szq)
                   have O8 := Lib.hid (HA7.out.2.2.kept hg8 (own_ne O7.out))
                   have H8 := Lib.hid hB8
                   have k80 := hB8.cell 0
                   have k81 := hB8.cell 1
                   simp only [List.getElem?_cons_zero, List.getElem?_cons_succ] at k80 k81
                   clear hB8 hg8 hz8))
              have k5 := counted_any S8.out.cur d HD.out.1 (by have := HD.out.2.2.1; omega)
              rw [← HD.out.2.1, ← HH.out.2.2.2.1, ← HRR.out, ← HD.out.2.2.2] at k5
              unfold BodyPost at k5
              simp only at k5
              rw [← HP3.out] at k5
              have K5 := Lib.hid k5
              clear k5
              go_upto_region 16 with (first
                | (go_at_call 36; go_must (refine (K5.out).mono ?_); rintro e w10 hp10; obtain ⟨hg10, A6, k6, rfl, ho10, hc10⟩ := hp10; have S10 := Lib.hid (S8.out.line hg10 hc10); have dq3 := S10.out.req.cell 3; have fq3 := S10.out.req.frozen 3; simp only [List.getElem?_cons_succ, List.getElem?_cons_zero] at dq3; have O10 := Lib.hid (own_line O8.out hg10 (by have := S4.out.szq; have := S4.out.gq; omega)); have OB10 := Lib.hid ho10; clear hg10 hc10 ho10))
              have S11 := Lib.hid (S10.out.set_ 3 (.slice A6 xb.length k6))
              have O11 := Lib.hid (own_line O10.out (grownBy_set w10 q 3 (.slice A6 xb.length k6)) (S4.out.szq))
              have OB11 := Lib.hid (own_line OB10.out (grownBy_set w10 q 3 (.slice A6 xb.length k6)) (S8.out.szq))
              clear dq3 fq3
              obtain ⟨w11, hw11⟩ : ∃ x, x = w10.setCell ⟨q, 3, none⟩ (.slice A6 xb.length k6) := ⟨_, rfl⟩
              rw [← hw11] at S11 O11 OB11 ⊢
              clear hw11
              simp only [List.set_cons_succ, List.set_cons_zero] at S11
              have dz2 := S11.out.req.cell 2
              simp only [List.getElem?_cons_succ, List.getElem?_cons_zero] at dz2
              have c6 := closes_any A5 hm k5 hs old w11 (own_rv O11.out) HH.out.1 HH.out.2.1 (by have := HH.out.1; have := HH.out.2.2.1; omega)
              obtain ⟨cl, hcl⟩ : ∃ b, b = endS hs old := ⟨_, rfl⟩
              rw [← hcl] at c6
              have C6 := Lib.hid c6
              have HCL := Lib.hid hcl
              clear c6 hcl
              go_upto_region 19 with (first
                | (go_at_call 37; go_must (refine (C6.out).mono ?_); rintro e w15 ⟨rfl, hb15⟩; have S15 := Lib.hid (S11.out.below hb15); have O15 := Lib.hid (own_below' O11.out hb15); have OB15 := Lib.hid (own_below' OB11.out hb15); have dq4 := S15.out.req.cell 4; have fq4 := S15.out.req.frozen 4; simp only [List.getElem?_cons_succ, List.getElem?_cons_zero] at dq4; clear hb15))
              have S16 := Lib.hid (S15.out.set_ 4 (.bool cl))
              have O16 := Lib.hid (own_line O15.out (grownBy_set w15 q 4 (.bool cl)) S4.out.szq)
              have OB16 := Lib.hid (own_line OB15.out (grownBy_set w15 q 4 (.bool cl)) (S8.out.szq))
              clear dq4 fq4 dz2
              obtain ⟨w16, hw16⟩ : ∃ x, x = w15.setCell ⟨q, 4, none⟩ (.bool cl) := ⟨_, rfl⟩
              rw [← hw16] at S16 O16 OB16 ⊢
              clear hw16
              simp only [List.set_cons_succ, List.set_cons_zero] at S16
              try simp only [Act.put, List.setIfInBounds_toArray, List.set_cons_succ, List.set_cons_zero]
              have dg1 := S16.out.cur.blk.cell 1
              simp only [List.getElem?_cons_succ, List.getElem?_cons_zero] at dg1
              have hgH : g ≠ H2 := by have := S16.out.h2g; omega
              try simp only [Act.put, List.setIfInBounds_toArray, List.set_cons_succ, List.set_cons_zero]
              refine wp_region_rrT (RR H2 [.string sm, .string stg, .slice A5 hm k5, .slice A6 xb.length k6, .bool cl]) (fun _ _ _ h k => h.trans k) (fun _ _ h => h.1.size) (RR.drew) 6
                [.eq 70 (.agg #[.string sm, .string stg, .slice A5 hm k5, .slice A6 xb.length k6, .bool cl]), .eq 71 (.pointer (some ⟨g, 0, none⟩)), .eq 72 (.pointer (some ⟨g, 0, none⟩)), .eq 73 (.pointer (some ⟨g, 1, none⟩)), .eq 74 (.int .i64 (p3 : Int)), .one 70 (fun v W => ∃ u : Unit, Blk W H2 30 [.string sm, .string stg, .slice A5 hm k5, .slice A6 xb.length k6, .bool cl])]
                (by kernel_rfl) (by kernel_rfl) (by kernel_rfl) (by kernel_rfl) ?hsta ?hoba ?hfina
              case hsta =>
                intro s hs
                simp only [List.mem_cons, List.not_mem_nil, or_false] at hs
                rcases hs with rfl | rfl | rfl | rfl | rfl | rfl
                · exact fun _ _ _ h _ => h
                · exact fun _ _ _ h _ => h
                · exact fun _ _ _ h _ => h
                · exact fun _ _ _ h _ => h
                · exact fun _ _ _ h _ => h
                · rintro vs w1 w2 ⟨v, rfl, h⟩ hb
                  exact ⟨_, rfl, (fun ⟨u, h⟩ hb => ⟨u, hb.2.1 h⟩) h hb⟩
              case hoba =>
                simp only [List.take_succ_cons, List.take_zero]
                refine rrs_cons ?_ (rrs_cons ?_ (rrs_cons ?_ (rrs_cons ?_ (rrs_cons ?_ (rrs_cons ?_ rrs_nil)))))
                · refine rr_wp (by decide) (by rfl) fun x w' A hg hp hA K' hK' => ?_
                  have e6 := hA 6
                  simp [rgDsts] at e6
                  refine wp_loadB AR _ rfl q 0 ?_ _ _ (S16.out.req.grown hg.1 (fun e => by injection e with e; have := S16.out.h2g; have := S16.out.gq; omega)) [.string sm, .string stg, .slice A5 hm k5, .slice A6 xb.length k6, .bool cl] (by simp) rfl ?_
                  · simpa [Act.eval] using e6
                  · exact hK' _ _ (RR.refl _ _ _) (by simp) (by simp)
                · refine rr_eq (RR.refl H2 [.string sm, .string stg, .slice A5 hm k5, .slice A6 xb.length k6, .bool cl]) (by decide) (by rfl) (by rfl) fun x w' A hg hp hA => ?_
                  have e5 := hA 5
                  simp [rgDsts] at e5
                  go_simp
                · refine rr_eq (RR.refl H2 [.string sm, .string stg, .slice A5 hm k5, .slice A6 xb.length k6, .bool cl]) (by decide) (by rfl) (by rfl) fun x w' A hg hp hA => ?_
                  have h71 := rg_pred_eq (d := 71) hp 0 rfl rfl rfl
                  have e71 := (hA.at_ 71 rfl).trans h71
                  go_simp
                · refine rr_eq (RR.refl H2 [.string sm, .string stg, .slice A5 hm k5, .slice A6 xb.length k6, .bool cl]) (by decide) (by rfl) (by rfl) fun x w' A hg hp hA => ?_
                  have h72 := rg_pred_eq (d := 72) hp 0 rfl rfl rfl
                  have e72 := (hA.at_ 72 rfl).trans h72
                  go_simp
                · refine rr_eq (RR.refl H2 [.string sm, .string stg, .slice A5 hm k5, .slice A6 xb.length k6, .bool cl]) (by decide) (by rfl) (by rfl) fun x w' A hg hp hA => ?_
                  have h73 := rg_pred_eq (d := 73) hp 0 rfl rfl rfl
                  have e73 := (hA.at_ 73 rfl).trans h73
                  have dg := RR.cell hg dg1 hgH
                  go_simp
                · refine rr_wp (by decide) (by rfl) fun x w' A hg hp hA K' hK' => ?_
                  have h70 := rg_pred_eq (d := 70) hp 0 rfl rfl rfl
                  have e2 := hA 2
                  simp [rgDsts] at e2
                  have e70 := (hA.at_ 70 rfl).trans h70
                  obtain ⟨cs, hB2, hcs⟩ := hg.2.2 _ S16.out.h2
                  refine wp_storeB AR (.tmp 2) (.tmp 70) rfl H2 0 (by simpa [Act.eval] using e2) [.string sm, .string stg, .slice A5 hm k5, .slice A6 xb.length k6, .bool cl] (by simpa [Act.eval] using e70) rfl 30 cs hB2 (by rw [hcs]; simp) (by simp [Value.oneCell']) fun w'' hB'' hg'' hz'' => ?_
                  rw [splice_all cs [.string sm, .string stg, .slice A5 hm k5, .slice A6 xb.length k6, .bool cl] (by rw [hcs]; rfl)] at hB''
                  exact hK' _ _ ⟨hg'', fun _ => hB'', fun cs2 hc2 => ⟨_, hB'', by have e := hB2.symm.trans hc2; injection e with e; injection e with e; have := congrArg Array.size e; simp at this; rw [← this, hcs]; rfl⟩⟩ ⟨_, rfl, (), hB''⟩ (by simp)
              case hfina =>
              intro x w9 hg hall hap
              simp only [RgAll, holds_eq, holds_new, holds_one, and_true] at hall
              obtain ⟨h70, h71, h72, h73, h74, hNone⟩ := hall
              obtain ⟨u9, hB9⟩ := hNone
              simp only [rgDsts, List.take_succ_cons, List.take_zero, List.filterMap_cons, List.filterMap_nil, putMany, List.foldl_cons, List.foldl_nil, List.setIfInBounds_toArray, List.set_cons_succ, List.set_cons_zero, List.drop_succ_cons, List.drop_zero, h70, h71, h72, h73, h74]
              clear h70 h71 h72 h73 h74
              have hgr := hg.1
              clear hg dg1 hgH hap
              have c0 := hB9.cell 0
              have c1 := hB9.cell 1
              have c2 := hB9.cell 2
              have c3 := hB9.cell 3
              have c4 := hB9.cell 4
              simp only [splice, List.take_zero, List.nil_append, List.length_cons, List.length_nil, List.drop_succ_cons, List.drop_zero, List.append_nil, List.getElem?_cons_zero, List.getElem?_cons_succ, Nat.zero_add, List.drop_nil] at c0 c1 c2 c3 c4
              go_wp2
              refine bodyPost_ret (v := .tuple #[.agg #[.string sm, .string stg, .slice A5 hm k5, .slice A6 xb.length k6, .bool cl], .int .i64 (p3 : Int), .int .i64 0]) (by simp [results, Tryd.results16, go_sem, c0, c1, c2, c3, c4]) rfl ?_
              refine rd_ok (HE.out) (S16.out.low.grown hgr S16.out.low.size (fun j hj => by injection hj with hj; have := S16.out.h2e; omega)) (A := A5) (k := k5) (K := w8.heap.size) (by rw [← HCL.out, ← HS.out.1, ← HS.out.2.1, ← HH.out.1]; try rfl) ?_ (fun G hG => (O8.out.lt G (by rw [HH.out.1]; exact hG)).2) S8.out.low.size ?_
              · have ho := (own_line O16.out (w' := w9) (g := H2) hgr (by have := S4.out.h2g; have := S4.out.szq; have := S4.out.gq; omega))
                rw [HH.out.1] at ho
                exact own_base ho S4.out.low.size
              · exact own_line OB16.out (w' := w9) (g := H2) hgr (by have := S8.out.szq; have := S8.out.h2g; have := S8.out.gq; omega)
          | chunked =>
            obtain ⟨r, hr⟩ : ∃ r, r = bodyS (.chunked) p2 t2 := ⟨_, rfl⟩
            cases r with
            | err er =>
              have HE := Lib.hid (show readAll raw = .error (errV more er) by rw [HR.out, HE1.out, rt_body_err hgood hj (by rw [← HH.out.2.2.2.2.1]; exact hr.symm)])
              have hy0 : ((errV more er : Nat) : Int) ≠ 0 := by
                have := body_err hr.symm; have := errV_pos (more := more) (er := er) (by omega); omega
              have HRR := Lib.hid hr
              have C3 := Lib.hid c3
              clear c3 hj hgood hr
              go_upto_region 13 with (first
                | (go_at_call 34; go_must (refine (C3.out).mono ?_); rintro e w7 hp7; obtain ⟨rfl, hb7⟩ := hp7; have S7 := Lib.hid (S6.out.below hb7); have O7 := Lib.hid (own_below' O6.out hb7); clear hb7)
                | ((with_reducible show wpList _ _ _ (⟨some 9, _, _, _, _, _⟩ :: _) _ _); go_must (refine wpList_allocB AS rfl rfl w7.heap.size rfl ?_); intro w71 hB71 hb71 hz71; have HA7 := Lib.hid (And.intro hB71 (And.intro (S7.out.below hb71) (own_below' O7.out hb71))); clear hB71 hb71 hz71)
                | ((with_reducible show wpList _ _ _ (⟨none, .store _ (.tmp 9) _, _, _, _, _⟩ :: _) _ _); go_must (refine wpList_storeB AS rfl (.tmp 9) (.tmp 36) rfl w7.heap.size 0 rfl [.string ⟨#[]⟩, .bool true] rfl rfl _ _ HA7.out.1 (by simp) (by simp [Value.oneCell']) ?_); intro w8 hB8 hg8 hz8
                   simp only [splice, List.take_zero, List.nil_append, List.length_cons, List.length_nil, List.drop_succ_cons, List.drop_zero, List.append_nil, Nat.zero_add, List.drop_nil] at hB8
                   have S8 := Lib.hid (HA7.out.2.1.keep hg8 S7.out.szq)
                   have O8 := Lib.hid (HA7.out.2.2.kept hg8 (own_ne O7.out))
                   have H8 := Lib.hid hB8
                   have k80 := hB8.cell 0
                   have k81 := hB8.cell 1
                   simp only [List.getElem?_cons_zero, List.getElem?_cons_succ] at k80 k81
                   clear hB8 hg8 hz8))
              have k5 := chunks_any S8.out.cur
              rw [← HH.out.2.2.2.1, show chunksS p2 t2 = bodyS .chunked p2 t2 from rfl, ← HRR.out] at k5
              have K5 := Lib.hid k5
              clear k5
              go_upto_region 16 with (first
                | (go_at_call 35; go_must (refine (K5.out).mono ?_); rintro e w10 hp10; obtain ⟨hg10, rfl⟩ := hp10; have S10 := Lib.hid (S8.out.toES.line hg10); have dq3 := S10.out.req.cell 3; have fq3 := S10.out.req.frozen 3; simp only [List.getElem?_cons_succ, List.getElem?_cons_zero] at dq3; clear hg10))
              have S11 := Lib.hid (S10.out.set_ 3 (.slice none 0 0))
              clear dq3 fq3
              obtain ⟨w11, hw11⟩ : ∃ x, x = w10.setCell ⟨q, 3, none⟩ (.slice none 0 0) := ⟨_, rfl⟩
              rw [← hw11] at S11  ⊢
              clear hw11
              simp only [List.set_cons_succ, List.set_cons_zero] at S11
              go_wp2_with (first
                | ((with_reducible show wpList _ _ _ (⟨none, .store _ (.tmp 2) _, _, _, _, _⟩ :: _) _ _); go_must (refine wpList_storeB AR rfl (.tmp 2) (.tmp 63) rfl H2 0 rfl [.string ⟨#[]⟩, .string ⟨#[]⟩, .slice none 0 0, .slice none 0 0, .bool false] rfl rfl _ _ S11.out.h2 (by simp) (by simp [Value.oneCell']) ?_); intro w9 hB9 hg9 hz9
                   have c0 := hB9.cell 0
                   have c1 := hB9.cell 1
                   have c2 := hB9.cell 2
                   have c3 := hB9.cell 3
                   have c4 := hB9.cell 4
                   simp only [splice, List.take_zero, List.nil_append, List.length_cons, List.length_nil, List.drop_succ_cons, List.drop_zero, List.append_nil, List.getElem?_cons_zero, List.getElem?_cons_succ, Nat.zero_add, List.drop_nil] at c0 c1 c2 c3 c4
                   clear hB9 hz9))
              refine bodyPost_ret (v := .tuple #[.agg #[.string ⟨#[]⟩, .string ⟨#[]⟩, .slice none 0 0, .slice none 0 0, .bool false], .int .i64 0, .int .i64 (errV more er : Nat)]) (by simp [results, Tryd.results16, go_sem, c0, c1, c2, c3, c4]) rfl ?_
              exact rd_err (HE.out) (S11.out.low.grown hg9 S11.out.low.size (fun j hj => by injection hj with hj; have := S11.out.h2e; omega)) rfl
            | ok xb t3 =>
              obtain ⟨p3, hp3⟩ : ∃ p, p = s.length - t3.length := ⟨_, rfl⟩
              have HE := Lib.hid (show readAll raw = .ok (⟨mm, tg, hs, xb, endS hs old⟩, p3) by rw [HR.out, HE1.out, rt_ok hgood hj (by rw [← HH.out.2.2.2.2.1]; exact hr.symm), hp3])
              have HRR := Lib.hid hr
              have HP3 := Lib.hid hp3
              have C3 := Lib.hid c3
              clear c3 hj hgood hr hp3
              go_upto_region 13 with (first
                | (go_at_call 34; go_must (refine (C3.out).mono ?_); rintro e w7 hp7; obtain ⟨rfl, hb7⟩ := hp7; have S7 := Lib.hid (S6.out.below hb7); have O7 := Lib.hid (own_below' O6.out hb7); clear hb7)
                | ((with_reducible show wpList _ _ _ (⟨some 9, _, _, _, _, _⟩ :: _) _ _); go_must (refine wpList_allocB AS rfl rfl w7.heap.size rfl ?_); intro w71 hB71 hb71 hz71; have HA7 := Lib.hid (And.intro hB71 (And.intro (S7.out.below hb71) (own_below' O7.out hb71))); clear hB71 hb71 hz71)
                | ((with_reducible show wpList _ _ _ (⟨none, .store _ (.tmp 9) _, _, _, _, _⟩ :: _) _ _); go_must (refine wpList_storeB AS rfl (.tmp 9) (.tmp 36) rfl w7.heap.size 0 rfl [.string ⟨#[]⟩, .bool true] rfl rfl _ _ HA7.out.1 (by simp) (by simp [Value.oneCell']) ?_); intro w8 hB8 hg8 hz8
                   simp only [splice, List.take_zero, List.nil_append, List.length_cons, List.length_nil, List.drop_succ_cons, List.drop_zero, List.append_nil, Nat.zero_add, List.drop_nil] at hB8
                   have S8 := Lib.hid (HA7.out.2.1.keep hg8 S7.out.szq)
                   have O8 := Lib.hid (HA7.out.2.2.kept hg8 (own_ne O7.out))
                   have H8 := Lib.hid hB8
                   have k80 := hB8.cell 0
                   have k81 := hB8.cell 1
                   simp only [List.getElem?_cons_zero, List.getElem?_cons_succ] at k80 k81
                   clear hB8 hg8 hz8))
              have k5 := chunks_any S8.out.cur
              rw [← HH.out.2.2.2.1, show chunksS p2 t2 = bodyS .chunked p2 t2 from rfl, ← HRR.out] at k5
              unfold BodyPost at k5
              simp only at k5
              rw [← HP3.out] at k5
              have K5 := Lib.hid k5
              clear k5
              go_upto_region 16 with (first
                | (go_at_call 35; go_must (refine (K5.out).mono ?_); rintro e w10 hp10; obtain ⟨hg10, A6, k6, rfl, ho10, hc10⟩ := hp10; have S10 := Lib.hid (S8.out.line hg10 hc10); have dq3 := S10.out.req.cell 3; have fq3 := S10.out.req.frozen 3; simp only [List.getElem?_cons_succ, List.getElem?_cons_zero] at dq3; have O10 := Lib.hid (own_line O8.out hg10 (by have := S4.out.szq; have := S4.out.gq; omega)); have OB10 := Lib.hid ho10; clear hg10 hc10 ho10))
              have S11 := Lib.hid (S10.out.set_ 3 (.slice A6 xb.length k6))
              have O11 := Lib.hid (own_line O10.out (grownBy_set w10 q 3 (.slice A6 xb.length k6)) (S4.out.szq))
              have OB11 := Lib.hid (own_line OB10.out (grownBy_set w10 q 3 (.slice A6 xb.length k6)) (S8.out.szq))
              clear dq3 fq3
              obtain ⟨w11, hw11⟩ : ∃ x, x = w10.setCell ⟨q, 3, none⟩ (.slice A6 xb.length k6) := ⟨_, rfl⟩
              rw [← hw11] at S11 O11 OB11 ⊢
              clear hw11
              simp only [List.set_cons_succ, List.set_cons_zero] at S11
              have dz2 := S11.out.req.cell 2
              simp only [List.getElem?_cons_succ, List.getElem?_cons_zero] at dz2
              have c6 := closes_any A5 hm k5 hs old w11 (own_rv O11.out) HH.out.1 HH.out.2.1 (by have := HH.out.1; have := HH.out.2.2.1; omega)
              obtain ⟨cl, hcl⟩ : ∃ b, b = endS hs old := ⟨_, rfl⟩
              rw [← hcl] at c6
              have C6 := Lib.hid c6
              have HCL := Lib.hid hcl
              clear c6 hcl
              go_upto_region 19 with (first
                | (go_at_call 37; go_must (refine (C6.out).mono ?_); rintro e w15 ⟨rfl, hb15⟩; have S15 := Lib.hid (S11.out.below hb15); have O15 := Lib.hid (own_below' O11.out hb15); have OB15 := Lib.hid (own_below' OB11.out hb15); have dq4 := S15.out.req.cell 4; have fq4 := S15.out.req.frozen 4; simp only [List.getElem?_cons_succ, List.getElem?_cons_zero] at dq4; clear hb15))
              have S16 := Lib.hid (S15.out.set_ 4 (.bool cl))
              have O16 := Lib.hid (own_line O15.out (grownBy_set w15 q 4 (.bool cl)) S4.out.szq)
              have OB16 := Lib.hid (own_line OB15.out (grownBy_set w15 q 4 (.bool cl)) (S8.out.szq))
              clear dq4 fq4 dz2
              obtain ⟨w16, hw16⟩ : ∃ x, x = w15.setCell ⟨q, 4, none⟩ (.bool cl) := ⟨_, rfl⟩
              rw [← hw16] at S16 O16 OB16 ⊢
              clear hw16
              simp only [List.set_cons_succ, List.set_cons_zero] at S16
              try simp only [Act.put, List.setIfInBounds_toArray, List.set_cons_succ, List.set_cons_zero]
              have dg1 := S16.out.cur.blk.cell 1
              simp only [List.getElem?_cons_succ, List.getElem?_cons_zero] at dg1
              have hgH : g ≠ H2 := by have := S16.out.h2g; omega
              try simp only [Act.put, List.setIfInBounds_toArray, List.set_cons_succ, List.set_cons_zero]
              refine wp_region_rrT (RR H2 [.string sm, .string stg, .slice A5 hm k5, .slice A6 xb.length k6, .bool cl]) (fun _ _ _ h k => h.trans k) (fun _ _ h => h.1.size) (RR.drew) 6
                [.eq 70 (.agg #[.string sm, .string stg, .slice A5 hm k5, .slice A6 xb.length k6, .bool cl]), .eq 71 (.pointer (some ⟨g, 0, none⟩)), .eq 72 (.pointer (some ⟨g, 0, none⟩)), .eq 73 (.pointer (some ⟨g, 1, none⟩)), .eq 74 (.int .i64 (p3 : Int)), .one 70 (fun v W => ∃ u : Unit, Blk W H2 30 [.string sm, .string stg, .slice A5 hm k5, .slice A6 xb.length k6, .bool cl])]
                (by kernel_rfl) (by kernel_rfl) (by kernel_rfl) (by kernel_rfl) ?hsta ?hoba ?hfina
              case hsta =>
                intro s hs
                simp only [List.mem_cons, List.not_mem_nil, or_false] at hs
                rcases hs with rfl | rfl | rfl | rfl | rfl | rfl
                · exact fun _ _ _ h _ => h
                · exact fun _ _ _ h _ => h
                · exact fun _ _ _ h _ => h
                · exact fun _ _ _ h _ => h
                · exact fun _ _ _ h _ => h
                · rintro vs w1 w2 ⟨v, rfl, h⟩ hb
                  exact ⟨_, rfl, (fun ⟨u, h⟩ hb => ⟨u, hb.2.1 h⟩) h hb⟩
              case hoba =>
                simp only [List.take_succ_cons, List.take_zero]
                refine rrs_cons ?_ (rrs_cons ?_ (rrs_cons ?_ (rrs_cons ?_ (rrs_cons ?_ (rrs_cons ?_ rrs_nil)))))
                · refine rr_wp (by decide) (by rfl) fun x w' A hg hp hA K' hK' => ?_
                  have e6 := hA 6
                  simp [rgDsts] at e6
                  refine wp_loadB AR _ rfl q 0 ?_ _ _ (S16.out.req.grown hg.1 (fun e => by injection e with e; have := S16.out.h2g; have := S16.out.gq; omega)) [.string sm, .string stg, .slice A5 hm k5, .slice A6 xb.length k6, .bool cl] (by simp) rfl ?_
                  · simpa [Act.eval] using e6
                  · exact hK' _ _ (RR.refl _ _ _) (by simp) (by simp)
                · refine rr_eq (RR.refl H2 [.string sm, .string stg, .slice A5 hm k5, .slice A6 xb.length k6, .bool cl]) (by decide) (by rfl) (by rfl) fun x w' A hg hp hA => ?_
                  have e5 := hA 5
                  simp [rgDsts] at e5
                  go_simp
                · refine rr_eq (RR.refl H2 [.string sm, .string stg, .slice A5 hm k5, .slice A6 xb.length k6, .bool cl]) (by decide) (by rfl) (by rfl) fun x w' A hg hp hA => ?_
                  have h71 := rg_pred_eq (d := 71) hp 0 rfl rfl rfl
                  have e71 := (hA.at_ 71 rfl).trans h71
                  go_simp
                · refine rr_eq (RR.refl H2 [.string sm, .string stg, .slice A5 hm k5, .slice A6 xb.length k6, .bool cl]) (by decide) (by rfl) (by rfl) fun x w' A hg hp hA => ?_
                  have h72 := rg_pred_eq (d := 72) hp 0 rfl rfl rfl
                  have e72 := (hA.at_ 72 rfl).trans h72
                  go_simp
                · refine rr_eq (RR.refl H2 [.string sm, .string stg, .slice A5 hm k5, .slice A6 xb.length k6, .bool cl]) (by decide) (by rfl) (by rfl) fun x w' A hg hp hA => ?_
                  have h73 := rg_pred_eq (d := 73) hp 0 rfl rfl rfl
                  have e73 := (hA.at_ 73 rfl).trans h73
                  have dg := RR.cell hg dg1 hgH
                  go_simp
                · refine rr_wp (by decide) (by rfl) fun x w' A hg hp hA K' hK' => ?_
                  have h70 := rg_pred_eq (d := 70) hp 0 rfl rfl rfl
                  have e2 := hA 2
                  simp [rgDsts] at e2
                  have e70 := (hA.at_ 70 rfl).trans h70
                  obtain ⟨cs, hB2, hcs⟩ := hg.2.2 _ S16.out.h2
                  refine wp_storeB AR (.tmp 2) (.tmp 70) rfl H2 0 (by simpa [Act.eval] using e2) [.string sm, .string stg, .slice A5 hm k5, .slice A6 xb.length k6, .bool cl] (by simpa [Act.eval] using e70) rfl 30 cs hB2 (by rw [hcs]; simp) (by simp [Value.oneCell']) fun w'' hB'' hg'' hz'' => ?_
                  rw [splice_all cs [.string sm, .string stg, .slice A5 hm k5, .slice A6 xb.length k6, .bool cl] (by rw [hcs]; rfl)] at hB''
                  exact hK' _ _ ⟨hg'', fun _ => hB'', fun cs2 hc2 => ⟨_, hB'', by have e := hB2.symm.trans hc2; injection e with e; injection e with e; have := congrArg Array.size e; simp at this; rw [← this, hcs]; rfl⟩⟩ ⟨_, rfl, (), hB''⟩ (by simp)
              case hfina =>
              intro x w9 hg hall hap
              simp only [RgAll, holds_eq, holds_new, holds_one, and_true] at hall
              obtain ⟨h70, h71, h72, h73, h74, hNone⟩ := hall
              obtain ⟨u9, hB9⟩ := hNone
              simp only [rgDsts, List.take_succ_cons, List.take_zero, List.filterMap_cons, List.filterMap_nil, putMany, List.foldl_cons, List.foldl_nil, List.setIfInBounds_toArray, List.set_cons_succ, List.set_cons_zero, List.drop_succ_cons, List.drop_zero, h70, h71, h72, h73, h74]
              clear h70 h71 h72 h73 h74
              have hgr := hg.1
              clear hg dg1 hgH hap
              have c0 := hB9.cell 0
              have c1 := hB9.cell 1
              have c2 := hB9.cell 2
              have c3 := hB9.cell 3
              have c4 := hB9.cell 4
              simp only [splice, List.take_zero, List.nil_append, List.length_cons, List.length_nil, List.drop_succ_cons, List.drop_zero, List.append_nil, List.getElem?_cons_zero, List.getElem?_cons_succ, Nat.zero_add, List.drop_nil] at c0 c1 c2 c3 c4
              go_wp2
              refine bodyPost_ret (v := .tuple #[.agg #[.string sm, .string stg, .slice A5 hm k5, .slice A6 xb.length k6, .bool cl], .int .i64 (p3 : Int), .int .i64 0]) (by simp [results, Tryd.results16, go_sem, c0, c1, c2, c3, c4]) rfl ?_
              refine rd_ok (HE.out) (S16.out.low.grown hgr S16.out.low.size (fun j hj => by injection hj with hj; have := S16.out.h2e; omega)) (A := A5) (k := k5) (K := w8.heap.size) (by rw [← HCL.out, ← HS.out.1, ← HS.out.2.1, ← HH.out.1]; try rfl) ?_ (fun G hG => (O8.out.lt G (by rw [HH.out.1]; exact hG)).2) S8.out.low.size ?_
              · have ho := (own_line O16.out (w' := w9) (g := H2) hgr (by have := S4.out.h2g; have := S4.out.szq; have := S4.out.gq; omega))
                rw [HH.out.1] at ho
                exact own_base ho S4.out.low.size
              · exact own_line OB16.out (w' := w9) (g := H2) hgr (by have := S8.out.szq; have := S8.out.h2g; have := S8.out.gq; omega)
end Go.Proofs.YtojemdggbcklkaaDoor.WireR
