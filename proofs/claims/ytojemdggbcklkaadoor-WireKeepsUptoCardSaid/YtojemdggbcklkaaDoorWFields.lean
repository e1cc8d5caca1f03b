/- cursor.fields: the header lines. -/
import Derived.Test.YtojemdggbcklkaaDoorWField
import Derived.Test.YtojemdggbcklkaaDoorRgLite
namespace Go.Proofs.YtojemdggbcklkaaDoor.WireR
open Go.RowKit Go.Proofs.YtojemdggbcklkaaDoor.Mem Go.Proofs.YtojemdggbcklkaaDoor.Wire Go.Proofs.YtojemdggbcklkaaDoor.Strs Go.Proofs.YtojemdggbcklkaaDoor.Heads
set_option linter.unusedVariables false
set_option linter.unusedSimpArgs false
set_option maxRecDepth 4000

theorem EH : Elt Tryd.prog 28 58 [.string ⟨#[]⟩, .string ⟨#[]⟩] 32 := Elt.mkN (z := .agg #[.string ⟨#[]⟩, .string ⟨#[]⟩]) Tryd.underlying28 (by kernel_rfl) rfl (by simp)
theorem lineS_suf {bad : Nat} {t c b : Bytes} (h : lineS bad t = .ok c b) : ∃ u, t = u ++ b := by
  unfold lineS at h
  cases hc : cutL 10 t with
  | none => rw [hc] at h; cases h
  | some p =>
    obtain ⟨a, b'⟩ := p
    rw [hc] at h
    simp only at h
    cases hi : inner a with
    | none => rw [hi] at h; cases h
    | some c' =>
      rw [hi] at h
      injection h with h1 h2
      subst h2
      exact ⟨a ++ [10], by rw [(cutL_some hc).1]; simp⟩
theorem drop_suf {s u b : Bytes} {q : Nat} (h : s.drop q = u ++ b) (hq : q ≤ s.length) : b = s.drop (s.length - b.length) := by
  have hl := congrArg List.length h
  rw [List.length_drop, List.length_append] at hl
  have h2 : s.drop (s.length - b.length) = (s.drop q).drop (s.length - b.length - q) := by rw [List.drop_drop]; congr 1; omega
  rw [h2, h, show s.length - b.length - q = u.length by omega, List.drop_left]
theorem cells_len (hs : List HD) : (hs.flatMap HD.cells).length = hs.length * 2 := by
  induction hs with
  | nil => rfl
  | cons h r ih => rw [List.flatMap_cons, List.length_append, ih]; simp [HD.cells]; omega
theorem lineS_err {bad er : Nat} {t : Bytes} (h : lineS bad t = .err er) (hb : 280 ≤ bad ∧ bad ≤ 282) : 280 ≤ er ∧ er ≤ 284 := by
  unfold lineS at h
  cases hc : cutL 10 t with
  | none => rw [hc] at h; injection h with h; omega
  | some p =>
    obtain ⟨a, b'⟩ := p
    rw [hc] at h
    simp only at h
    cases hi : inner a with
    | none => rw [hi] at h; injection h with h; omega
    | some c' => rw [hi] at h; cases h
theorem errV_pos {more : Bool} {er : Nat} (h : 280 ≤ er ∧ er ≤ 284) : 280 ≤ errV more er := by
  unfold errV
  split <;> omega
theorem lineS_le {bad : Nat} {t c b : Bytes} (h : lineS bad t = .ok c b) : c.length ≤ t.length := by
  unfold lineS at h
  cases hc : cutL 10 t with
  | none => rw [hc] at h; cases h
  | some p =>
    obtain ⟨a, b'⟩ := p
    rw [hc] at h
    simp only at h
    have hlen := cutL_len hc
    unfold inner at h
    by_cases h13 : a.getLast? = some 13
    · rw [if_pos h13] at h
      injection h with h1 h2
      subst h1
      rw [List.length_dropLast]
      omega
    · rw [if_neg h13] at h; cases h
structure FState (w wr : World) (g : Nat) (R : Option Addr) (c : Nat) (s : List UInt8) (more : Bool) (bad p : Nat) (v : Value) (q : Nat) (hs : List HD) : Prop where
  cur : Cur wr g R c s q more
  own : wr.ownsRow w.heap.size 58 2 v hs.length (hs.flatMap HD.cells)
  fr : w.grownBy wr (some g)
  eq : fieldsS bad (s.drop p) = (fieldsS bad (s.drop q)).map (hs ++ ·)
  ge : hs.length + p ≤ q
  glt : g < w.heap.size
  rlt : s ≠ [] → ∀ ad, R = some ad → ad.block < w.heap.size
def FieldsPost (w : World) (g : Nat) (R : Option Addr) (c : Nat) (s : List UInt8) (more : Bool) (p : Nat) (r : Res (List HD)) (e : Ending) (w' : World) : Prop :=
  w.grownBy w' (some g) ∧ match r with
  | .ok hs b => ∃ A k, e = .returned (.tuple #[.slice A hs.length k, .int .i64 0]) ∧ w'.ownsRow w.heap.size 58 2 (.slice A hs.length k) hs.length (hs.flatMap HD.cells) ∧ Cur w' g R c s (s.length - b.length) more
  | .err er => e = .returned (.tuple #[.slice none 0 0, .int .i64 (errV more er : Nat)]) ∧ ∃ q, Cur w' g R c s q more
def atOf (w : World) (g : Nat) : Nat := match w.cell? ⟨g, 1, none⟩ with | some (.int _ i) => i.toNat | _ => 0
theorem Cur.at_ {w : World} {g : Nat} {R : Option Addr} {c p : Nat} {s : List UInt8} {more : Bool} (h : Cur w g R c s p more) : atOf w g = p := by
  have := h.blk.cell 1
  simp only [List.getElem?_cons_succ, List.getElem?_cons_zero] at this
  unfold atOf
  rw [this]
  simp
/-- blocks below B stand: a cursor there stands -/
theorem Cur.low {B : Nat} {w w' : World} {g : Nat} {R : Option Addr} {c p : Nat} {s : List UInt8} {more : Bool} (h : Cur w g R c s p more) (hb : Below B w w') (hg : g < B) (hr : s ≠ [] → ∀ ad, R = some ad → ad.block < B) : Cur w' g R c s p more :=
  ⟨h.blk.below hb hg, fun k hk => by
    obtain ⟨ad, e, hc⟩ := h.rb k hk
    exact ⟨ad, e, (hb.cell (by rw [block_of_add]; exact hr (by rintro rfl; simp at hk) ad e)).trans hc⟩, h.far, h.le, h.len, h.cap⟩
theorem rb_lt {w : World} {R : Option Addr} {s : List UInt8} (h : RB w R s) : s ≠ [] → ∀ ad, R = some ad → ad.block < w.heap.size := fun hs ad e => by
  obtain ⟨ad', e', hc⟩ := h 0 (List.length_pos_iff.2 hs)
  rw [e] at e'
  injection e' with e'
  subst e'
  have := block_lt_of_cell hc
  rwa [block_of_add] at this
theorem fr_low {w w1 w2 : World} {g : Nat} (h : w.grownBy w1 (some g)) (hb : Below w.heap.size w1 w2) (hz : w1.heap.size ≤ w2.heap.size) : w.grownBy w2 (some g) :=
  ⟨hb.os.trans h.os, hb.tape.trans h.tape, hb.output.trans h.output, Nat.le_trans h.size hz, fun k hk hne => (hb.block k hk).trans (h.block k hk hne)⟩
theorem own_line {w w' : World} {B n size g : Nat} {T : TypeId} {v : Value} {xs : List Value} (h : w.ownsRow B T size v n xs) (hb : w.grownBy w' (some g)) (hg : g < B) : w'.ownsRow B T size v n xs :=
  h.kept hb (by
    by_cases hn : v.ownBlock = none
    · exact .inl hn
    · refine .inr fun e => ?_
      have := (h.lt g e).1
      omega)

set_option maxHeartbeats 8000000 in
theorem fields_any {w : World} {g : Nat} {R : Option Addr} {c p : Nat} {s : List UInt8} {more : Bool} (h : Cur w g R c s p more) (bad : Nat) (hbad : 280 ≤ bad ∧ bad ≤ 282) :
    Calls Tryd.prog 33 #[.pointer (some ⟨g, 0, none⟩), .int .i64 (bad : Int)] w (FieldsPost w g R c s more p (fieldsS bad (s.drop p))) := by
  have HH := Lib.hid (And.intro h (And.intro h.blk.lt (rb_lt h.rb)))
  have HB := Lib.hid hbad
  clear h hbad
  go_enter Tryd.func33, Tryd.ntmps33
  go_wp2
  go_loopw [6] (fun v wr => ∃ (q : Nat) (hs : List HD) (m : Nat) (A : Option Addr) (k : Nat), v = .slice A m k ∧ m = hs.length ∧ FState w wr g R c s more bad p (.slice A m k) q hs) (fun _ wr => s.length - atOf wr g)
  case atStart => exact ⟨p, [], 0, none, 0, rfl, rfl, ⟨HH.out.1, ⟨rfl, .inl ⟨rfl, rfl⟩⟩, World.grownBy.refl w _, by cases fieldsS bad (s.drop p) <;> rfl, by simp, HH.out.2.1, HH.out.2.2⟩⟩
  case round =>
    obtain ⟨q, hs, m, A, k, rfl, hm, FS⟩ := hrel
    replace FS := Lib.hid (And.intro hm FS)
    clear hm
    have c1 := line_any FS.out.2.cur bad (by have := HB.out; omega)
    cases hl : lineS bad (s.drop q) with
    | err er =>
      rw [hl] at c1
      have hf : fieldsS bad (s.drop q) = .err er := by rw [fieldsS_eq, hl]
      have C1 := Lib.hid c1
      have HF := Lib.hid hf
      obtain ⟨y, hy⟩ : ∃ y, y = errV more er := ⟨_, rfl⟩
      have hy0 : (y : Int) ≠ 0 := by have := errV_pos (more := more) (lineS_err hl HB.out); omega
      clear c1 hl hf
      go_wp2_with (first
        | (go_at_call 47; go_must (refine (C1.out).mono ?_); rintro e w1 hp1; obtain ⟨hg1, rfl, hc1⟩ := hp1; rw [← hy]; have H1 := Lib.hid (And.intro hg1 hc1); clear hg1 hc1))
      go_ret2
      unfold FieldsPost
      rw [FS.out.2.eq, HF.out]
      exact ⟨FS.out.2.fr.trans H1.out.1, rfl, q, H1.out.2⟩
    | ok x b =>
      rw [hl] at c1
      obtain ⟨u, hu⟩ := lineS_suf hl
      have hbs := drop_suf hu FS.out.2.cur.le
      have hbl := lineS_len hl
      rw [List.length_drop] at hbl
      obtain ⟨q2, hq2⟩ : ∃ q2, q2 = s.length - b.length := ⟨_, rfl⟩
      rw [← hq2] at hbs
      have hqq : q < q2 := by have := FS.out.2.cur.le; omega
      have hq2n : q2 ≤ s.length := by omega
      have hf := fieldsS_eq bad (s.drop q)
      rw [hl] at hf
      simp only at hf
      have hxl : x.length ≤ 65536 := by
        have := congrArg List.length hu
        have h2 : x.length ≤ (s.drop q).length := lineS_le hl
        rw [List.length_drop] at h2
        have := FS.out.2.cur.len
        omega
      obtain ⟨sx, hsx⟩ : ∃ sx, sx = (⟨x.toArray⟩ : ByteArray) := ⟨_, rfl⟩
      unfold LinePost at c1
      simp only at c1
      rw [← hsx, ← hq2] at c1
      have C1 := Lib.hid c1
      have HQ := Lib.hid (And.intro hq2 (And.intro hqq (And.intro hq2n hbs)))
      clear c1 hl hu hbl hq2 hqq hq2n
      by_cases hx : x = []
      · rw [if_pos hx] at hf
        have HF := Lib.hid hf
        have hem : sx.toList.isEmpty = true := by rw [hsx, hx, ByteArray.toList_eq]; rfl
        clear hf hx hsx hbs hxl
        go_wp2_with (first
          | (go_at_call 47; go_must (refine (C1.out).mono ?_); rintro e w1 hp1; obtain ⟨hg1, rfl, hc1⟩ := hp1; have H1 := Lib.hid (And.intro hg1 hc1); clear hg1 hc1))
        go_ret2
        unfold FieldsPost
        rw [FS.out.2.eq, HF.out]
        refine ⟨FS.out.2.fr.trans H1.out.1, A, k, ?_, ?_, ?_⟩
        · simp only [List.append_nil]; rw [← FS.out.1]; rfl
        · simp only [List.append_nil]; rw [← FS.out.1]
          have := own_line FS.out.2.own H1.out.1 FS.out.2.glt
          rw [← FS.out.1] at this
          exact this
        · rw [← HQ.out.1]; exact H1.out.2
      · rw [if_neg hx] at hf
        have hem : sx.toList.isEmpty = false := by rw [hsx, ByteArray.toList_eq]; cases x with | nil => exact absurd rfl hx | cons a r => rfl
        have c2 := fun W => field_any x W (by omega)
        rw [← hsx] at c2
        unfold FieldPost at c2
        cases hh : hdrOf x with
        | none =>
          rw [hh] at hf
          simp only [hh] at c2
          have HF := Lib.hid hf
          have C2 := Lib.hid c2
          clear hf hx hsx hbs hxl c2 hh
          go_wp2_with (first
            | (go_at_call 47; go_must (refine (C1.out).mono ?_); rintro e w1 hp1; obtain ⟨hg1, rfl, hc1⟩ := hp1; have H1 := Lib.hid (And.intro hg1 hc1); clear hg1 hc1)
            | (go_at_call 53; go_must (refine (C2.out _).mono ?_); rintro e w2 hp2; obtain ⟨rfl, hb2⟩ := hp2; have H2 := Lib.hid hb2; clear hb2)
            | ((with_reducible show wpList _ _ _ (⟨some 9, _, _, _, _, _⟩ :: _) _ _); go_must (refine wpList_allocB AH rfl rfl w2.heap.size rfl ?_); intro w3 hB3 hb3 hz3; have H3 := Lib.hid (And.intro hB3 hb3); clear hB3 hb3 hz3)
            | ((with_reducible show wpList _ _ _ (⟨none, _, _, _, _, _⟩ :: _) _ _); go_must (refine wpList_storeB AH rfl (.tmp 9) (.tmp 26) rfl w2.heap.size 0 rfl [.string ⟨#[]⟩, .string ⟨#[]⟩] rfl rfl _ _ H3.out.1 (by simp) (by simp [Value.oneCell']) ?_); intro w4 hB4 hg4 hz4; have H4 := Lib.hid (And.intro hB4 (And.intro hg4 hz4)); clear hB4 hg4 hz4))
          go_ret2
          unfold FieldsPost
          rw [FS.out.2.eq, HF.out]
          have B4 := (gt H2.out H3.out.2).grown H4.out.2.1 (by have := H2.out.size; have := H3.out.2.size; omega) (fun k hk => by injection hk with hk; have := H2.out.size; omega)
          exact ⟨fr_low (FS.out.2.fr.trans H1.out.1) (B4.mono (by have := FS.out.2.fr.size; have := H1.out.1.size; omega)) B4.size, by rw [errV_ne (by have := HB.out; omega)]; rfl, q2, H1.out.2.grow B4⟩
        | some hd =>
          rw [hh] at hf
          simp only [hh] at c2
          obtain ⟨hn, hv⟩ := hd
          obtain ⟨sn, hsn⟩ : ∃ x, x = (⟨hn.toArray⟩ : ByteArray) := ⟨_, rfl⟩
          obtain ⟨sv, hsv⟩ : ∃ x, x = (⟨hv.toArray⟩ : ByteArray) := ⟨_, rfl⟩
          have hcs : HD.cells (hn, hv) = [.string sn, .string sv] := by rw [hsn, hsv]; rfl
          rw [hcs] at c2
          have HF := Lib.hid (And.intro hf hcs)
          have C2 := Lib.hid c2
          clear hf hx hsx hbs hxl c2 hh hcs hsn hsv
          go_wp2_with (first
            | (go_at_call 47; go_must (refine (C1.out).mono ?_); rintro e w1 hp1; obtain ⟨hg1, rfl, hc1⟩ := hp1; have H1 := Lib.hid (And.intro hg1 hc1); clear hg1 hc1)
            | (go_at_call 53; go_must (refine (C2.out _).mono ?_); rintro e w2 hp2; obtain ⟨rfl, hb2⟩ := hp2; have H2 := Lib.hid hb2; clear hb2)
            | ((with_reducible show wpList _ _ _ (⟨some 9, _, _, _, _, _⟩ :: _) _ _); go_must (refine wpList_allocB AH rfl rfl w2.heap.size rfl ?_); intro w3 hB3 hb3 hz3; have H3 := Lib.hid (And.intro hB3 hb3); clear hB3 hb3 hz3)
            | ((with_reducible show wpList _ _ _ (⟨none, _, _, _, _, _⟩ :: _) _ _); go_must (refine wpList_storeB AH rfl (.tmp 9) (.tmp 26) rfl w2.heap.size 0 rfl [.string sn, .string sv] rfl rfl _ _ H3.out.1 (by simp) (by simp [Value.oneCell']) ?_); intro w4 hB4 hg4 hz4; have H4 := Lib.hid (And.intro hB4 (And.intro hg4 hz4)); clear hB4 hg4 hz4)
            | ((with_reducible show wpList _ _ _ (⟨some 32, _, _, _, _, _⟩ :: _) _ _); go_must (refine wpList_loadB AH rfl (.tmp 9) rfl w2.heap.size 0 rfl _ _ H4.out.1 [.string sn, .string sv] (by simp [splice]) rfl ?_))
            | ((with_reducible show wpList _ _ _ (⟨some 33, _, _, _, _, _⟩ :: _) _ _); go_must (refine wpList_build1 EH rfl (.tmp 32) rfl (by simp) [.string sn, .string sv] rfl rfl w4.heap.size rfl ?_); intro w5 hB5 hb5 hz5
               have B4 := (gt H2.out H3.out.2).grown H4.out.2.1 (by have := H2.out.size; have := H3.out.2.size; omega) (fun k hk => by injection hk with hk; have := H2.out.size; omega)
               have H5 := Lib.hid (And.intro hB5 (gt B4 hb5)); clear hB5 hb5 hz5 B4)
            | ((with_reducible show wpList _ _ _ (⟨some 34, _, _, _, _, _⟩ :: _) _ _); go_must (refine wpList_app EH rfl (.tmp 31) (.tmp 33) rfl w.heap.size (.slice A m k) hs.length (hs.flatMap HD.cells) rfl (own_below' (own_line FS.out.2.own H1.out.1 FS.out.2.glt) H5.out.2) (some ⟨w4.heap.size, 0, none⟩) 1 1 [.string sn, .string sv] rfl H5.out.1.rv rfl (by intro u hu; simp at hu; rcases hu with rfl | rfl <;> rfl) (by have := FS.out.2.ge; have := FS.out.2.cur.le; have := FS.out.2.cur.len; unfold maxLen; omega) (by have := FS.out.2.ge; have := FS.out.2.cur.le; have := FS.out.2.cur.len; omega) (by have := FS.out.2.fr.size; have := H1.out.1.size; have := H5.out.2.size; omega) ?_); intro v' w6 hown6 hg6 ho6
               have B6 := below_own (H5.out.2.mono (by have := FS.out.2.fr.size; have := H1.out.1.size; omega)) (own_below' (own_line FS.out.2.own H1.out.1 FS.out.2.glt) H5.out.2) hg6 (by have := FS.out.2.fr.size; have := H1.out.1.size; have := H5.out.2.size; omega)
               have H6 := Lib.hid (And.intro hown6 (And.intro B6 hg6.size)); clear hown6 hg6 ho6 B6))
          obtain ⟨A2, k2, hv2, _⟩ := own_slice H6.out.1
          subst hv2
          have hfl : (hs ++ [(hn, hv)]).flatMap HD.cells = hs.flatMap HD.cells ++ [.string sn, .string sv] := by simp [HF.out.2]
          have hc6 := H1.out.2.low H6.out.2.1 FS.out.2.glt FS.out.2.rlt
          refine ⟨⟨q2, hs ++ [(hn, hv)], hs.length + 1, A2, k2, rfl, by simp, hc6, ?_, ?_, ?_, ?_, FS.out.2.glt, FS.out.2.rlt⟩, ?_⟩
          · rw [hfl, List.length_append]; exact H6.out.1
          · exact fr_low (FS.out.2.fr.trans H1.out.1) H6.out.2.1 (Nat.le_trans H5.out.2.size H6.out.2.2)
          · rw [FS.out.2.eq, HF.out.1, HQ.out.2.2.2, Res.map_map]
            congr 1
            funext z
            simp
          · have := FS.out.2.ge; have := HQ.out.2.1; simp; omega
          · rw [hc6.at_, FS.out.2.cur.at_]; have := HQ.out.2.1; have := HQ.out.2.2.1; omega
end Go.Proofs.YtojemdggbcklkaaDoor.WireR
