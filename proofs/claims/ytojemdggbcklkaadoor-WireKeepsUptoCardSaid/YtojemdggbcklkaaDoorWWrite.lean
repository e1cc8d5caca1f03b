/- wire.Write and weirref28.Write: the answer's bytes. -/
import Derived.Test.YtojemdggbcklkaaDoorWDec
import Derived.Test.YtojemdggbcklkaaDoorAppB
namespace Go.Proofs.YtojemdggbcklkaaDoor.WireW
open Go.RowKit Go.Proofs.YtojemdggbcklkaaDoor.Mem Go.Proofs.YtojemdggbcklkaaDoor.Wire
set_option linter.unusedVariables false
set_option linter.unusedSimpArgs false
set_option maxRecDepth 4000

abbrev GT (w : World) : Prop := Lib.TabIs Tryd.prog w "internal/strconv.uint64pow10" .u64 Lib.pow10Tab
theorem GT.below {w w' : World} (h : GT w) (hb : Below w.heap.size w w') : GT w' := Go.Joins.tab_stays (show Tryd.prog.globalNamed "internal/strconv.uint64pow10" = some 1 by kernel_rfl) h hb (Nat.le_refl _)
theorem itoa_any (n : Nat) (hn : n ≤ 1152921504606846976) (w : World) (h : GT w) : Calls Tryd.prog 26 #[.int .i64 n] w fun e w' => e = .returned (.string ⟨(Lib.decDigits n).toArray⟩) ∧ Below w.heap.size w w' := by
  refine (Tryd.strconv_Itoa (n : Int) (by omega) (by omega) w h).mono ?_
  rintro e w' ⟨rfl, k, os, rfl⟩
  refine ⟨?_, ⟨rfl, rfl, rfl, by simp, fun j hj => ?_⟩⟩
  · unfold Lib.itoa
    rw [if_neg (by omega), Int.toNat_natCast]
  · have : (Go.Sort.grow (w.drewN k) os).heap[j]? = (w.drewN k).heap[j]? := by
      unfold Go.Sort.grow
      rw [Array.getElem?_append_left (by simpa using hj)]
    exact this
theorem infB : (Tryd.prog.info? 5).map (fun i => (i.zero, i.size, i.bytes)) = some (some (.int .u8 0), 1, 1) := by kernel_rfl

def statN (z : Int) : Nat := if z < 100 ∨ 999 < z then 500 else z.toNat
def wH : List UInt8 := [72, 84, 84, 80, 47, 49, 46, 49, 32]
def wCT : List UInt8 := [67, 111, 110, 116, 101, 110, 116, 45, 84, 121, 112, 101, 58, 32, 97, 112, 112, 108, 105, 99, 97, 116, 105, 111, 110, 47, 106, 115, 111, 110, 13, 10, 67, 111, 110, 116, 101, 110, 116, 45, 76, 101, 110, 103, 116, 104, 58, 32]
def wCl : List UInt8 := [67, 111, 110, 110, 101, 99, 116, 105, 111, 110, 58, 32, 99, 108, 111, 115, 101, 13, 10]
def crlf : List UInt8 := [13, 10]
/-- an answer's bytes -/
def writeS (z : Int) (body : List UInt8) (cl : Bool) : List UInt8 :=
  wH ++ Lib.decDigits (statN z) ++ [32] ++ wordsS (statN z) ++ crlf ++ (wCT ++ Lib.decDigits body.length ++ crlf) ++ (if cl = true then wCl else []) ++ crlf ++ body
theorem str_cat (a b : List UInt8) : (⟨a.toArray⟩ : ByteArray) ++ (⟨b.toArray⟩ : ByteArray) = ⟨(a ++ b).toArray⟩ := by
  apply ByteArray.ext
  simp [ByteArray.data_append]
theorem statN_le (z : Int) : statN z ≤ 999 := by unfold statN; split <;> omega
theorem statN_cases (z : Int) : (z < 100 ∧ statN z = 500) ∨ (¬ z < 100 ∧ 999 < z ∧ statN z = 500) ∨ (¬ z < 100 ∧ ¬ 999 < z ∧ z = (statN z : Int)) := by
  unfold statN
  by_cases h1 : z < 100
  · exact .inl ⟨h1, by rw [if_pos (.inl h1)]⟩
  · by_cases h2 : 999 < z
    · exact .inr (.inl ⟨h1, h2, by rw [if_pos (.inr h2)]⟩)
    · refine .inr (.inr ⟨h1, h2, ?_⟩)
      rw [if_neg (by omega)]
      omega
theorem wpList_conv {w : World} {ops : Array Oper} {rest : List Oper} {o : Oper} {a : Act} {Q : Exit → Act → World → Prop} (hgd : o.guard = none) (x : Operand) (ho : o.op = .convert 9 22 x) (l : List UInt8) (hx : a.eval x = .string ⟨l.toArray⟩) (hl : l.length ≤ maxLen)
    (h : ∀ v w', OwnB w' w.heap.size 5 v l → Below w.heap.size w w' → wpList Tryd.prog ops Q rest (a.put o.dst v) w') : wpList Tryd.prog ops Q (o :: rest) a w := by
  obtain ⟨v, w', hr, h1, h2⟩ := conv_own (P := Tryd.prog) (w := w) (l := l) Tryd.underlying9 Tryd.underlying22 Tryd.underlying5 hl
  refine wpList_plain hgd fun K hK => ?_
  unfold Oper.wp execOp
  simp only [ho, hx, hr, Sem.run_bind, Sem.run_pure, Result.andThen]
  exact hK _ _ (h v w' h1 h2)
theorem OwnB.low {w : World} {B B' : Nat} {e : TypeId} {v : Value} {l : List UInt8} (h : OwnB w B e v l) (hB : B' ≤ B) : OwnB w B' e v l := by
  rcases h with h | ⟨g, cap, cur, fz, h0, h1, h2⟩
  · exact .inl h
  · exact .inr ⟨g, cap, cur, fz, h0, Nat.le_trans hB h1, h2⟩
set_option maxHeartbeats 6400000 in
theorem write_any (z : Int) (A : Option Addr) (n c : Nat) (l : List UInt8) (cl : Bool) (w : World) (hr : RB w A l) (hn : n = l.length) (hl : n ≤ 1073741824) (hG : GT w) :
    Calls Tryd.prog 12 #[.agg #[.int .i64 z, .slice A n c, .bool cl]] w fun e w' => ∃ v, e = .returned v ∧ OwnB w' w.heap.size 5 v (writeS z l cl) ∧ Below w.heap.size w w' := by
  obtain ⟨s, hs⟩ : ∃ s, s = statN z := ⟨_, rfl⟩
  have hsl : s ≤ 999 := hs ▸ statN_le z
  obtain ⟨d, hd⟩ : ∃ d, d = Lib.decDigits s := ⟨_, rfl⟩
  obtain ⟨d2, hd2⟩ : ∃ d2, d2 = Lib.decDigits n := ⟨_, rfl⟩
  obtain ⟨wd, hwd⟩ : ∃ wd, wd = wordsS s := ⟨_, rfl⟩
  have e0 : writeS z l cl = wH ++ d ++ [32] ++ wd ++ crlf ++ (wCT ++ d2 ++ crlf) ++ (if cl = true then wCl else []) ++ crlf ++ l := by
    unfold writeS; rw [← hs, ← hd, ← hwd, ← hn, ← hd2]
  have c1 := fun w (h : GT w) => itoa_any s (by omega) w h
  have c2 := fun w (h : GT w) => itoa_any n (by omega) w h
  have c3 := fun w => words_any s w
  rw [← hd] at c1
  rw [← hd2] at c2
  rw [← hwd] at c3
  have hdl : d.length ≤ 1000 := by have := dec_len s s (Nat.le_refl _); rw [hd]; omega
  have hd2l : d2.length ≤ 1073741825 := by have := dec_len n n (Nat.le_refl _); rw [hd2]; omega
  have hwl : wd.length ≤ 21 := by rw [hwd]; exact wordsS_len s
  have hst := statN_cases z
  rw [← hs] at hst
  rw [e0]
  obtain ⟨si, hsi⟩ : ∃ si : Int, si = (s : Int) := ⟨_, rfl⟩
  rw [← hsi] at c1 c3
  have H0 := Lib.hid (And.intro hr (And.intro hn hG))
  obtain ⟨sd, hsd⟩ : ∃ x, x = (⟨d.toArray⟩ : ByteArray) := ⟨_, rfl⟩
  obtain ⟨se, hse⟩ : ∃ x, x = (⟨d2.toArray⟩ : ByteArray) := ⟨_, rfl⟩
  obtain ⟨sw, hsw⟩ : ∃ x, x = (⟨wd.toArray⟩ : ByteArray) := ⟨_, rfl⟩
  obtain ⟨s1, hs1⟩ : ∃ x, x = (⟨(wH ++ d).toArray⟩ : ByteArray) := ⟨_, rfl⟩
  obtain ⟨s2, hs2⟩ : ∃ x, x = (⟨((wH ++ d) ++ [32]).toArray⟩ : ByteArray) := ⟨_, rfl⟩
  obtain ⟨s3, hs3⟩ : ∃ x, x = (⟨((wH ++ d ++ [32]) ++ wd).toArray⟩ : ByteArray) := ⟨_, rfl⟩
  obtain ⟨s4, hs4⟩ : ∃ x, x = (⟨((wH ++ d ++ [32] ++ wd) ++ crlf).toArray⟩ : ByteArray) := ⟨_, rfl⟩
  obtain ⟨s5, hs5⟩ : ∃ x, x = (⟨(wCT ++ d2).toArray⟩ : ByteArray) := ⟨_, rfl⟩
  obtain ⟨s6, hs6⟩ : ∃ x, x = (⟨((wCT ++ d2) ++ crlf).toArray⟩ : ByteArray) := ⟨_, rfl⟩
  have ks1 : (⟨#[72, 84, 84, 80, 47, 49, 46, 49, 32]⟩ : ByteArray) ++ (sd : ByteArray) = s1 := by rw [hs1, hsd]; exact str_cat _ _
  have zs1 : 9 + sd.size ≤ 9223372036854775807 := by
    rw [hsd]
    simp [ByteArray.size, wH, wCT, wCl, crlf]
    omega
  have ks2 : (s1 : ByteArray) ++ (⟨#[32]⟩ : ByteArray) = s2 := by rw [hs2, hs1]; exact str_cat _ _
  have zs2 : s1.size + 1 ≤ 9223372036854775807 := by
    rw [hs1]
    simp [ByteArray.size, wH, wCT, wCl, crlf]
    omega
  have ks3 : (s2 : ByteArray) ++ (sw : ByteArray) = s3 := by rw [hs3, hs2, hsw]; exact str_cat _ _
  have zs3 : s2.size + sw.size ≤ 9223372036854775807 := by
    rw [hs2, hsw]
    simp [ByteArray.size, wH, wCT, wCl, crlf]
    omega
  have ks4 : (s3 : ByteArray) ++ (⟨#[13, 10]⟩ : ByteArray) = s4 := by rw [hs4, hs3]; exact str_cat _ _
  have zs4 : s3.size + 2 ≤ 9223372036854775807 := by
    rw [hs3]
    simp [ByteArray.size, wH, wCT, wCl, crlf]
    omega
  have ks5 : (⟨#[67, 111, 110, 116, 101, 110, 116, 45, 84, 121, 112, 101, 58, 32, 97, 112, 112, 108, 105, 99, 97, 116, 105, 111, 110, 47, 106, 115, 111, 110, 13, 10, 67, 111, 110, 116, 101, 110, 116, 45, 76, 101, 110, 103, 116, 104, 58, 32]⟩ : ByteArray) ++ (se : ByteArray) = s5 := by rw [hs5, hse]; exact str_cat _ _
  have zs5 : 48 + se.size ≤ 9223372036854775807 := by
    rw [hse]
    simp [ByteArray.size, wH, wCT, wCl, crlf]
    omega
  have ks6 : (s5 : ByteArray) ++ (⟨#[13, 10]⟩ : ByteArray) = s6 := by rw [hs6, hs5]; exact str_cat _ _
  have zs6 : s5.size + 2 ≤ 9223372036854775807 := by
    rw [hs5]
    simp [ByteArray.size, wH, wCT, wCl, crlf]
    omega
  rw [← hsd] at c1
  rw [← hse] at c2
  rw [← hsw] at c3
  have S := Lib.hid (And.intro hs4 hs6)
  have C := Lib.hid (And.intro c1 (And.intro c2 c3))
  have LL := Lib.hid (And.intro hdl (And.intro hd2l hwl))
  clear hr hn hG c1 c2 c3 hs hd hd2 hwd e0 hdl hd2l hwl hsd hse hsw hs1 hs2 hs3 hs4 hs5 hs6
  have hsc := hst
  clear hst
  rcases hsc with ⟨g1, g2⟩ | ⟨g1, g2, g3⟩ | ⟨g1, g2, g3⟩
  · obtain rfl : si = 500 := by omega
    clear g2 hsi
    cases cl
    · go_enter Tryd.func12, Tryd.ntmps12
      go_wp2_with (first
        | (go_at_call 26; (with_reducible show Calls _ _ #[.int _ (n : Int)] _ _); go_must (refine (C.out.2.1 _ (GT.below G3.out hb4)).mono ?_); rintro e w5 ⟨rfl, hb5⟩)
        | (go_at_call 26; go_must (refine (C.out.1 _ (GT.below H0.out.2.2 (ga (gr w) _))).mono ?_); rintro e w2 ⟨rfl, hb2⟩
           have G2 := Lib.hid (GT.below H0.out.2.2 (gt (ga (gr w) _) hb2)))
        | (go_at_call 27; go_must (refine (C.out.2.2 _).mono ?_); rintro e w3 ⟨rfl, hb3⟩
           have G3 := Lib.hid (GT.below G2.out hb3)
           have B3 := Lib.hid (((Blk.new w 24 [.int .i64 z, .slice A n c, .bool false]).grow hb2).grow hb3)
           have D3 := Lib.hid (gt (gt (ga (gr w) _) hb2) hb3))
        | ((with_reducible show wpList _ _ _ (⟨some 21, _, _, _, _, _⟩ :: _) _ _)
           go_must (refine wpList_conv (o := ⟨some 21, _, _, _, _, _⟩) rfl (.tmp 20) rfl (wH ++ d ++ [32] ++ wd ++ crlf) (by rw [← S.out.1]; rfl) (by have := LL.out; unfold maxLen; simp [wH, crlf]; omega) ?_)
           intro v4 w4 ho4 hb4
           have c1 := (B3.out.grow hb4).cell 1
           simp only [List.getElem?_cons_zero, List.getElem?_cons_succ] at c1)
        | ((with_reducible show wpList _ _ _ (⟨some 29, _, _, _, _, _⟩ :: _) _ _)
           go_must (refine wpList_appBS (o := ⟨some 29, _, _, _, _, _⟩) rfl (.tmp 22) (.tmp 28) rfl Tryd.underlying22 Tryd.underlying9 infB rfl (ho4.grow hb5) (Nat.le_trans hb4.size hb5.size) (wCT ++ d2 ++ crlf) (by rw [← S.out.2]; rfl) (by have := LL.out; simp [wH, wCT, crlf]; omega) ?_)
           intro v6 w6 ho6 hg6
           have D6 := Lib.hid (show Below w3.heap.size w3 w6 from (ho4.grow hb5).below (gt hb4 hb5) hg6 (Nat.le_trans hb4.size hb5.size))
           have O7 := Lib.hid ho6
           have D7 := D6
           have c2 := (B3.out.grow D6.out).cell 2
           simp only [List.getElem?_cons_zero, List.getElem?_cons_succ] at c2
           clear hb2 hb3 ho4 hb4 c1 hb5 ho6 hg6)
        | ((with_reducible show wpList _ _ _ (⟨some 35, _, _, _, _, _⟩ :: _) _ _)
           go_must (refine wpList_appBS (o := ⟨some 35, _, _, _, _, _⟩) rfl (.tmp 34) _ rfl Tryd.underlying22 Tryd.underlying9 infB rfl O7.out D7.out.size crlf rfl (by have := LL.out; simp [wH, wCT, wCl, crlf]; omega) ?_)
           intro v8 w8 ho8 hg8
           have D8 := Lib.hid (O7.out.below D7.out hg8 D7.out.size)
           have O8 := Lib.hid ho8
           have c1 := (B3.out.grow D8.out).cell 1
           simp only [List.getElem?_cons_zero, List.getElem?_cons_succ] at c1
           clear ho8 hg8)
        | ((with_reducible show wpList _ _ _ (⟨some 39, _, _, _, _, _⟩ :: _) _ _)
           go_must (refine wpList_appBB (o := ⟨some 39, _, _, _, _, _⟩) rfl (.tmp 36) (.tmp 38) rfl Tryd.underlying22 infB rfl O8.out D8.out.size A n c l rfl H0.out.2.1 ((H0.out.1.below D3.out).below D8.out) (by have := LL.out; have := H0.out.2.1; simp [wH, wCT, wCl, crlf]; omega) ?_)
           intro v9 w9 ho9 hg9
           have D9 := O8.out.below D8.out hg9 D8.out.size))
      go_ret
      refine ⟨_, rfl, ?_, gt D3.out D9⟩
      have ho := OwnB.low ho9 D3.out.size
      simpa using ho
    · go_enter Tryd.func12, Tryd.ntmps12
      go_wp2_with (first
        | (go_at_call 26; (with_reducible show Calls _ _ #[.int _ (n : Int)] _ _); go_must (refine (C.out.2.1 _ (GT.below G3.out hb4)).mono ?_); rintro e w5 ⟨rfl, hb5⟩)
        | (go_at_call 26; go_must (refine (C.out.1 _ (GT.below H0.out.2.2 (ga (gr w) _))).mono ?_); rintro e w2 ⟨rfl, hb2⟩
           have G2 := Lib.hid (GT.below H0.out.2.2 (gt (ga (gr w) _) hb2)))
        | (go_at_call 27; go_must (refine (C.out.2.2 _).mono ?_); rintro e w3 ⟨rfl, hb3⟩
           have G3 := Lib.hid (GT.below G2.out hb3)
           have B3 := Lib.hid (((Blk.new w 24 [.int .i64 z, .slice A n c, .bool true]).grow hb2).grow hb3)
           have D3 := Lib.hid (gt (gt (ga (gr w) _) hb2) hb3))
        | ((with_reducible show wpList _ _ _ (⟨some 21, _, _, _, _, _⟩ :: _) _ _)
           go_must (refine wpList_conv (o := ⟨some 21, _, _, _, _, _⟩) rfl (.tmp 20) rfl (wH ++ d ++ [32] ++ wd ++ crlf) (by rw [← S.out.1]; rfl) (by have := LL.out; unfold maxLen; simp [wH, crlf]; omega) ?_)
           intro v4 w4 ho4 hb4
           have c1 := (B3.out.grow hb4).cell 1
           simp only [List.getElem?_cons_zero, List.getElem?_cons_succ] at c1)
        | ((with_reducible show wpList _ _ _ (⟨some 29, _, _, _, _, _⟩ :: _) _ _)
           go_must (refine wpList_appBS (o := ⟨some 29, _, _, _, _, _⟩) rfl (.tmp 22) (.tmp 28) rfl Tryd.underlying22 Tryd.underlying9 infB rfl (ho4.grow hb5) (Nat.le_trans hb4.size hb5.size) (wCT ++ d2 ++ crlf) (by rw [← S.out.2]; rfl) (by have := LL.out; simp [wH, wCT, crlf]; omega) ?_)
           intro v6 w6 ho6 hg6
           have D6 := Lib.hid (show Below w3.heap.size w3 w6 from (ho4.grow hb5).below (gt hb4 hb5) hg6 (Nat.le_trans hb4.size hb5.size))
           have O6 := Lib.hid ho6
           have c2 := (B3.out.grow D6.out).cell 2
           simp only [List.getElem?_cons_zero, List.getElem?_cons_succ] at c2
           clear hb2 hb3 ho4 hb4 c1 hb5 ho6 hg6)
        | ((with_reducible show wpList _ _ _ (⟨some 33, _, _, _, _, _⟩ :: _) _ _)
           go_must (refine wpList_appBS (o := ⟨some 33, _, _, _, _, _⟩) rfl (.tmp 32) _ rfl Tryd.underlying22 Tryd.underlying9 infB rfl O6.out D6.out.size wCl rfl (by have := LL.out; simp [wH, wCT, wCl, crlf]; omega) ?_)
           intro v7 w7 ho7 hg7
           have D7 := Lib.hid (O6.out.below D6.out hg7 D6.out.size)
           have O7 := Lib.hid ho7
           clear ho7 hg7)
        | ((with_reducible show wpList _ _ _ (⟨some 35, _, _, _, _, _⟩ :: _) _ _)
           go_must (refine wpList_appBS (o := ⟨some 35, _, _, _, _, _⟩) rfl (.tmp 34) _ rfl Tryd.underlying22 Tryd.underlying9 infB rfl O7.out D7.out.size crlf rfl (by have := LL.out; simp [wH, wCT, wCl, crlf]; omega) ?_)
           intro v8 w8 ho8 hg8
           have D8 := Lib.hid (O7.out.below D7.out hg8 D7.out.size)
           have O8 := Lib.hid ho8
           have c1 := (B3.out.grow D8.out).cell 1
           simp only [List.getElem?_cons_zero, List.getElem?_cons_succ] at c1
           clear ho8 hg8)
        | ((with_reducible show wpList _ _ _ (⟨some 39, _, _, _, _, _⟩ :: _) _ _)
           go_must (refine wpList_appBB (o := ⟨some 39, _, _, _, _, _⟩) rfl (.tmp 36) (.tmp 38) rfl Tryd.underlying22 infB rfl O8.out D8.out.size A n c l rfl H0.out.2.1 ((H0.out.1.below D3.out).below D8.out) (by have := LL.out; have := H0.out.2.1; simp [wH, wCT, wCl, crlf]; omega) ?_)
           intro v9 w9 ho9 hg9
           have D9 := O8.out.below D8.out hg9 D8.out.size))
      go_ret
      refine ⟨_, rfl, ?_, gt D3.out D9⟩
      have ho := OwnB.low ho9 D3.out.size
      simpa using ho
  · obtain rfl : si = 500 := by omega
    clear g3 hsi
    cases cl
    · go_enter Tryd.func12, Tryd.ntmps12
      go_wp2_with (first
        | (go_at_call 26; (with_reducible show Calls _ _ #[.int _ (n : Int)] _ _); go_must (refine (C.out.2.1 _ (GT.below G3.out hb4)).mono ?_); rintro e w5 ⟨rfl, hb5⟩)
        | (go_at_call 26; go_must (refine (C.out.1 _ (GT.below H0.out.2.2 (ga (gr w) _))).mono ?_); rintro e w2 ⟨rfl, hb2⟩
           have G2 := Lib.hid (GT.below H0.out.2.2 (gt (ga (gr w) _) hb2)))
        | (go_at_call 27; go_must (refine (C.out.2.2 _).mono ?_); rintro e w3 ⟨rfl, hb3⟩
           have G3 := Lib.hid (GT.below G2.out hb3)
           have B3 := Lib.hid (((Blk.new w 24 [.int .i64 z, .slice A n c, .bool false]).grow hb2).grow hb3)
           have D3 := Lib.hid (gt (gt (ga (gr w) _) hb2) hb3))
        | ((with_reducible show wpList _ _ _ (⟨some 21, _, _, _, _, _⟩ :: _) _ _)
           go_must (refine wpList_conv (o := ⟨some 21, _, _, _, _, _⟩) rfl (.tmp 20) rfl (wH ++ d ++ [32] ++ wd ++ crlf) (by rw [← S.out.1]; rfl) (by have := LL.out; unfold maxLen; simp [wH, crlf]; omega) ?_)
           intro v4 w4 ho4 hb4
           have c1 := (B3.out.grow hb4).cell 1
           simp only [List.getElem?_cons_zero, List.getElem?_cons_succ] at c1)
        | ((with_reducible show wpList _ _ _ (⟨some 29, _, _, _, _, _⟩ :: _) _ _)
           go_must (refine wpList_appBS (o := ⟨some 29, _, _, _, _, _⟩) rfl (.tmp 22) (.tmp 28) rfl Tryd.underlying22 Tryd.underlying9 infB rfl (ho4.grow hb5) (Nat.le_trans hb4.size hb5.size) (wCT ++ d2 ++ crlf) (by rw [← S.out.2]; rfl) (by have := LL.out; simp [wH, wCT, crlf]; omega) ?_)
           intro v6 w6 ho6 hg6
           have D6 := Lib.hid (show Below w3.heap.size w3 w6 from (ho4.grow hb5).below (gt hb4 hb5) hg6 (Nat.le_trans hb4.size hb5.size))
           have O7 := Lib.hid ho6
           have D7 := D6
           have c2 := (B3.out.grow D6.out).cell 2
           simp only [List.getElem?_cons_zero, List.getElem?_cons_succ] at c2
           clear hb2 hb3 ho4 hb4 c1 hb5 ho6 hg6)
        | ((with_reducible show wpList _ _ _ (⟨some 35, _, _, _, _, _⟩ :: _) _ _)
           go_must (refine wpList_appBS (o := ⟨some 35, _, _, _, _, _⟩) rfl (.tmp 34) _ rfl Tryd.underlying22 Tryd.underlying9 infB rfl O7.out D7.out.size crlf rfl (by have := LL.out; simp [wH, wCT, wCl, crlf]; omega) ?_)
           intro v8 w8 ho8 hg8
           have D8 := Lib.hid (O7.out.below D7.out hg8 D7.out.size)
           have O8 := Lib.hid ho8
           have c1 := (B3.out.grow D8.out).cell 1
           simp only [List.getElem?_cons_zero, List.getElem?_cons_succ] at c1
           clear ho8 hg8)
        | ((with_reducible show wpList _ _ _ (⟨some 39, _, _, _, _, _⟩ :: _) _ _)
           go_must (refine wpList_appBB (o := ⟨some 39, _, _, _, _, _⟩) rfl (.tmp 36) (.tmp 38) rfl Tryd.underlying22 infB rfl O8.out D8.out.size A n c l rfl H0.out.2.1 ((H0.out.1.below D3.out).below D8.out) (by have := LL.out; have := H0.out.2.1; simp [wH, wCT, wCl, crlf]; omega) ?_)
           intro v9 w9 ho9 hg9
           have D9 := O8.out.below D8.out hg9 D8.out.size))
      go_ret
      refine ⟨_, rfl, ?_, gt D3.out D9⟩
      have ho := OwnB.low ho9 D3.out.size
      simpa using ho
    · go_enter Tryd.func12, Tryd.ntmps12
      go_wp2_with (first
        | (go_at_call 26; (with_reducible show Calls _ _ #[.int _ (n : Int)] _ _); go_must (refine (C.out.2.1 _ (GT.below G3.out hb4)).mono ?_); rintro e w5 ⟨rfl, hb5⟩)
        | (go_at_call 26; go_must (refine (C.out.1 _ (GT.below H0.out.2.2 (ga (gr w) _))).mono ?_); rintro e w2 ⟨rfl, hb2⟩
           have G2 := Lib.hid (GT.below H0.out.2.2 (gt (ga (gr w) _) hb2)))
        | (go_at_call 27; go_must (refine (C.out.2.2 _).mono ?_); rintro e w3 ⟨rfl, hb3⟩
           have G3 := Lib.hid (GT.below G2.out hb3)
           have B3 := Lib.hid (((Blk.new w 24 [.int .i64 z, .slice A n c, .bool true]).grow hb2).grow hb3)
           have D3 := Lib.hid (gt (gt (ga (gr w) _) hb2) hb3))
        | ((with_reducible show wpList _ _ _ (⟨some 21, _, _, _, _, _⟩ :: _) _ _)
           go_must (refine wpList_conv (o := ⟨some 21, _, _, _, _, _⟩) rfl (.tmp 20) rfl (wH ++ d ++ [32] ++ wd ++ crlf) (by rw [← S.out.1]; rfl) (by have := LL.out; unfold maxLen; simp [wH, crlf]; omega) ?_)
           intro v4 w4 ho4 hb4
           have c1 := (B3.out.grow hb4).cell 1
           simp only [List.getElem?_cons_zero, List.getElem?_cons_succ] at c1)
        | ((with_reducible show wpList _ _ _ (⟨some 29, _, _, _, _, _⟩ :: _) _ _)
           go_must (refine wpList_appBS (o := ⟨some 29, _, _, _, _, _⟩) rfl (.tmp 22) (.tmp 28) rfl Tryd.underlying22 Tryd.underlying9 infB rfl (ho4.grow hb5) (Nat.le_trans hb4.size hb5.size) (wCT ++ d2 ++ crlf) (by rw [← S.out.2]; rfl) (by have := LL.out; simp [wH, wCT, crlf]; omega) ?_)
           intro v6 w6 ho6 hg6
           have D6 := Lib.hid (show Below w3.heap.size w3 w6 from (ho4.grow hb5).below (gt hb4 hb5) hg6 (Nat.le_trans hb4.size hb5.size))
           have O6 := Lib.hid ho6
           have c2 := (B3.out.grow D6.out).cell 2
           simp only [List.getElem?_cons_zero, List.getElem?_cons_succ] at c2
           clear hb2 hb3 ho4 hb4 c1 hb5 ho6 hg6)
        | ((with_reducible show wpList _ _ _ (⟨some 33, _, _, _, _, _⟩ :: _) _ _)
           go_must (refine wpList_appBS (o := ⟨some 33, _, _, _, _, _⟩) rfl (.tmp 32) _ rfl Tryd.underlying22 Tryd.underlying9 infB rfl O6.out D6.out.size wCl rfl (by have := LL.out; simp [wH, wCT, wCl, crlf]; omega) ?_)
           intro v7 w7 ho7 hg7
           have D7 := Lib.hid (O6.out.below D6.out hg7 D6.out.size)
           have O7 := Lib.hid ho7
           clear ho7 hg7)
        | ((with_reducible show wpList _ _ _ (⟨some 35, _, _, _, _, _⟩ :: _) _ _)
           go_must (refine wpList_appBS (o := ⟨some 35, _, _, _, _, _⟩) rfl (.tmp 34) _ rfl Tryd.underlying22 Tryd.underlying9 infB rfl O7.out D7.out.size crlf rfl (by have := LL.out; simp [wH, wCT, wCl, crlf]; omega) ?_)
           intro v8 w8 ho8 hg8
           have D8 := Lib.hid (O7.out.below D7.out hg8 D7.out.size)
           have O8 := Lib.hid ho8
           have c1 := (B3.out.grow D8.out).cell 1
           simp only [List.getElem?_cons_zero, List.getElem?_cons_succ] at c1
           clear ho8 hg8)
        | ((with_reducible show wpList _ _ _ (⟨some 39, _, _, _, _, _⟩ :: _) _ _)
           go_must (refine wpList_appBB (o := ⟨some 39, _, _, _, _, _⟩) rfl (.tmp 36) (.tmp 38) rfl Tryd.underlying22 infB rfl O8.out D8.out.size A n c l rfl H0.out.2.1 ((H0.out.1.below D3.out).below D8.out) (by have := LL.out; have := H0.out.2.1; simp [wH, wCT, wCl, crlf]; omega) ?_)
           intro v9 w9 ho9 hg9
           have D9 := O8.out.below D8.out hg9 D8.out.size))
      go_ret
      refine ⟨_, rfl, ?_, gt D3.out D9⟩
      have ho := OwnB.low ho9 D3.out.size
      simpa using ho
  · obtain rfl : z = si := by rw [hsi]; exact g3
    clear g3 hsi
    cases cl
    · go_enter Tryd.func12, Tryd.ntmps12
      go_wp2_with (first
        | (go_at_call 26; (with_reducible show Calls _ _ #[.int _ (n : Int)] _ _); go_must (refine (C.out.2.1 _ (GT.below G3.out hb4)).mono ?_); rintro e w5 ⟨rfl, hb5⟩)
        | (go_at_call 26; go_must (refine (C.out.1 _ (GT.below H0.out.2.2 (ga (gr w) _))).mono ?_); rintro e w2 ⟨rfl, hb2⟩
           have G2 := Lib.hid (GT.below H0.out.2.2 (gt (ga (gr w) _) hb2)))
        | (go_at_call 27; go_must (refine (C.out.2.2 _).mono ?_); rintro e w3 ⟨rfl, hb3⟩
           have G3 := Lib.hid (GT.below G2.out hb3)
           have B3 := Lib.hid (((Blk.new w 24 [.int .i64 z, .slice A n c, .bool false]).grow hb2).grow hb3)
           have D3 := Lib.hid (gt (gt (ga (gr w) _) hb2) hb3))
        | ((with_reducible show wpList _ _ _ (⟨some 21, _, _, _, _, _⟩ :: _) _ _)
           go_must (refine wpList_conv (o := ⟨some 21, _, _, _, _, _⟩) rfl (.tmp 20) rfl (wH ++ d ++ [32] ++ wd ++ crlf) (by rw [← S.out.1]; rfl) (by have := LL.out; unfold maxLen; simp [wH, crlf]; omega) ?_)
           intro v4 w4 ho4 hb4
           have c1 := (B3.out.grow hb4).cell 1
           simp only [List.getElem?_cons_zero, List.getElem?_cons_succ] at c1)
        | ((with_reducible show wpList _ _ _ (⟨some 29, _, _, _, _, _⟩ :: _) _ _)
           go_must (refine wpList_appBS (o := ⟨some 29, _, _, _, _, _⟩) rfl (.tmp 22) (.tmp 28) rfl Tryd.underlying22 Tryd.underlying9 infB rfl (ho4.grow hb5) (Nat.le_trans hb4.size hb5.size) (wCT ++ d2 ++ crlf) (by rw [← S.out.2]; rfl) (by have := LL.out; simp [wH, wCT, crlf]; omega) ?_)
           intro v6 w6 ho6 hg6
           have D6 := Lib.hid (show Below w3.heap.size w3 w6 from (ho4.grow hb5).below (gt hb4 hb5) hg6 (Nat.le_trans hb4.size hb5.size))
           have O7 := Lib.hid ho6
           have D7 := D6
           have c2 := (B3.out.grow D6.out).cell 2
           simp only [List.getElem?_cons_zero, List.getElem?_cons_succ] at c2
           clear hb2 hb3 ho4 hb4 c1 hb5 ho6 hg6)
        | ((with_reducible show wpList _ _ _ (⟨some 35, _, _, _, _, _⟩ :: _) _ _)
           go_must (refine wpList_appBS (o := ⟨some 35, _, _, _, _, _⟩) rfl (.tmp 34) _ rfl Tryd.underlying22 Tryd.underlying9 infB rfl O7.out D7.out.size crlf rfl (by have := LL.out; simp [wH, wCT, wCl, crlf]; omega) ?_)
           intro v8 w8 ho8 hg8
           have D8 := Lib.hid (O7.out.below D7.out hg8 D7.out.size)
           have O8 := Lib.hid ho8
           have c1 := (B3.out.grow D8.out).cell 1
           simp only [List.getElem?_cons_zero, List.getElem?_cons_succ] at c1
           clear ho8 hg8)
        | ((with_reducible show wpList _ _ _ (⟨some 39, _, _, _, _, _⟩ :: _) _ _)
           go_must (refine wpList_appBB (o := ⟨some 39, _, _, _, _, _⟩) rfl (.tmp 36) (.tmp 38) rfl Tryd.underlying22 infB rfl O8.out D8.out.size A n c l rfl H0.out.2.1 ((H0.out.1.below D3.out).below D8.out) (by have := LL.out; have := H0.out.2.1; simp [wH, wCT, wCl, crlf]; omega) ?_)
           intro v9 w9 ho9 hg9
           have D9 := O8.out.below D8.out hg9 D8.out.size))
      go_ret
      refine ⟨_, rfl, ?_, gt D3.out D9⟩
      have ho := OwnB.low ho9 D3.out.size
      simpa using ho
    · go_enter Tryd.func12, Tryd.ntmps12
      go_wp2_with (first
        | (go_at_call 26; (with_reducible show Calls _ _ #[.int _ (n : Int)] _ _); go_must (refine (C.out.2.1 _ (GT.below G3.out hb4)).mono ?_); rintro e w5 ⟨rfl, hb5⟩)
        | (go_at_call 26; go_must (refine (C.out.1 _ (GT.below H0.out.2.2 (ga (gr w) _))).mono ?_); rintro e w2 ⟨rfl, hb2⟩
           have G2 := Lib.hid (GT.below H0.out.2.2 (gt (ga (gr w) _) hb2)))
        | (go_at_call 27; go_must (refine (C.out.2.2 _).mono ?_); rintro e w3 ⟨rfl, hb3⟩
           have G3 := Lib.hid (GT.below G2.out hb3)
           have B3 := Lib.hid (((Blk.new w 24 [.int .i64 z, .slice A n c, .bool true]).grow hb2).grow hb3)
           have D3 := Lib.hid (gt (gt (ga (gr w) _) hb2) hb3))
        | ((with_reducible show wpList _ _ _ (⟨some 21, _, _, _, _, _⟩ :: _) _ _)
           go_must (refine wpList_conv (o := ⟨some 21, _, _, _, _, _⟩) rfl (.tmp 20) rfl (wH ++ d ++ [32] ++ wd ++ crlf) (by rw [← S.out.1]; rfl) (by have := LL.out; unfold maxLen; simp [wH, crlf]; omega) ?_)
           intro v4 w4 ho4 hb4
           have c1 := (B3.out.grow hb4).cell 1
           simp only [List.getElem?_cons_zero, List.getElem?_cons_succ] at c1)
        | ((with_reducible show wpList _ _ _ (⟨some 29, _, _, _, _, _⟩ :: _) _ _)
           go_must (refine wpList_appBS (o := ⟨some 29, _, _, _, _, _⟩) rfl (.tmp 22) (.tmp 28) rfl Tryd.underlying22 Tryd.underlying9 infB rfl (ho4.grow hb5) (Nat.le_trans hb4.size hb5.size) (wCT ++ d2 ++ crlf) (by rw [← S.out.2]; rfl) (by have := LL.out; simp [wH, wCT, crlf]; omega) ?_)
           intro v6 w6 ho6 hg6
           have D6 := Lib.hid (show Below w3.heap.size w3 w6 from (ho4.grow hb5).below (gt hb4 hb5) hg6 (Nat.le_trans hb4.size hb5.size))
           have O6 := Lib.hid ho6
           have c2 := (B3.out.grow D6.out).cell 2
           simp only [List.getElem?_cons_zero, List.getElem?_cons_succ] at c2
           clear hb2 hb3 ho4 hb4 c1 hb5 ho6 hg6)
        | ((with_reducible show wpList _ _ _ (⟨some 33, _, _, _, _, _⟩ :: _) _ _)
           go_must (refine wpList_appBS (o := ⟨some 33, _, _, _, _, _⟩) rfl (.tmp 32) _ rfl Tryd.underlying22 Tryd.underlying9 infB rfl O6.out D6.out.size wCl rfl (by have := LL.out; simp [wH, wCT, wCl, crlf]; omega) ?_)
           intro v7 w7 ho7 hg7
           have D7 := Lib.hid (O6.out.below D6.out hg7 D6.out.size)
           have O7 := Lib.hid ho7
           clear ho7 hg7)
        | ((with_reducible show wpList _ _ _ (⟨some 35, _, _, _, _, _⟩ :: _) _ _)
           go_must (refine wpList_appBS (o := ⟨some 35, _, _, _, _, _⟩) rfl (.tmp 34) _ rfl Tryd.underlying22 Tryd.underlying9 infB rfl O7.out D7.out.size crlf rfl (by have := LL.out; simp [wH, wCT, wCl, crlf]; omega) ?_)
           intro v8 w8 ho8 hg8
           have D8 := Lib.hid (O7.out.below D7.out hg8 D7.out.size)
           have O8 := Lib.hid ho8
           have c1 := (B3.out.grow D8.out).cell 1
           simp only [List.getElem?_cons_zero, List.getElem?_cons_succ] at c1
           clear ho8 hg8)
        | ((with_reducible show wpList _ _ _ (⟨some 39, _, _, _, _, _⟩ :: _) _ _)
           go_must (refine wpList_appBB (o := ⟨some 39, _, _, _, _, _⟩) rfl (.tmp 36) (.tmp 38) rfl Tryd.underlying22 infB rfl O8.out D8.out.size A n c l rfl H0.out.2.1 ((H0.out.1.below D3.out).below D8.out) (by have := LL.out; have := H0.out.2.1; simp [wH, wCT, wCl, crlf]; omega) ?_)
           intro v9 w9 ho9 hg9
           have D9 := O8.out.below D8.out hg9 D8.out.size))
      go_ret
      refine ⟨_, rfl, ?_, gt D3.out D9⟩
      have ho := OwnB.low ho9 D3.out.size
      simpa using ho
set_option maxHeartbeats 6400000 in
theorem rwrite_any (z : Int) (A : Option Addr) (n c : Nat) (l : List UInt8) (cl : Bool) (w : World) (hr : RB w A l) (hn : n = l.length) (hl : n ≤ 1073741824) :
    Calls Tryd.prog 13 #[.agg #[.int .i64 z, .slice A n c, .bool cl]] w fun e w' => ∃ v, e = .returned v ∧ OwnB w' w.heap.size 5 v (writeS z l cl) ∧ Below w.heap.size w w' := by
  obtain ⟨s, hs⟩ : ∃ s, s = statN z := ⟨_, rfl⟩
  have hsl : s ≤ 999 := hs ▸ statN_le z
  obtain ⟨d, hd⟩ : ∃ d, d = Lib.decDigits s := ⟨_, rfl⟩
  obtain ⟨d2, hd2⟩ : ∃ d2, d2 = Lib.decDigits n := ⟨_, rfl⟩
  obtain ⟨wd, hwd⟩ : ∃ wd, wd = wordsS s := ⟨_, rfl⟩
  have e0 : writeS z l cl = wH ++ d ++ [32] ++ wd ++ crlf ++ (wCT ++ d2 ++ crlf) ++ (if cl = true then wCl else []) ++ crlf ++ l := by
    unfold writeS; rw [← hs, ← hd, ← hwd, ← hn, ← hd2]
  have c1 := fun w => rdec_any s s w (Nat.le_refl _) (by omega)
  have c2 := fun w => rdec_any n n w (Nat.le_refl _) (by omega)
  have c3 := fun w => rwords_any s w
  rw [← hd] at c1
  rw [← hd2] at c2
  rw [← hwd] at c3
  have hdl : d.length ≤ 1000 := by have := dec_len s s (Nat.le_refl _); rw [hd]; omega
  have hd2l : d2.length ≤ 1073741825 := by have := dec_len n n (Nat.le_refl _); rw [hd2]; omega
  have hwl : wd.length ≤ 21 := by rw [hwd]; exact wordsS_len s
  have hst := statN_cases z
  rw [← hs] at hst
  rw [e0]
  obtain ⟨si, hsi⟩ : ∃ si : Int, si = (s : Int) := ⟨_, rfl⟩
  rw [← hsi] at c1 c3
  have H0 := Lib.hid (And.intro hr (And.intro hn trivial))
  obtain ⟨sd, hsd⟩ : ∃ x, x = (⟨d.toArray⟩ : ByteArray) := ⟨_, rfl⟩
  obtain ⟨se, hse⟩ : ∃ x, x = (⟨d2.toArray⟩ : ByteArray) := ⟨_, rfl⟩
  obtain ⟨sw, hsw⟩ : ∃ x, x = (⟨wd.toArray⟩ : ByteArray) := ⟨_, rfl⟩
  obtain ⟨s1, hs1⟩ : ∃ x, x = (⟨(wH ++ d).toArray⟩ : ByteArray) := ⟨_, rfl⟩
  obtain ⟨s2, hs2⟩ : ∃ x, x = (⟨((wH ++ d) ++ [32]).toArray⟩ : ByteArray) := ⟨_, rfl⟩
  obtain ⟨s3, hs3⟩ : ∃ x, x = (⟨((wH ++ d ++ [32]) ++ wd).toArray⟩ : ByteArray) := ⟨_, rfl⟩
  obtain ⟨s4, hs4⟩ : ∃ x, x = (⟨((wH ++ d ++ [32] ++ wd) ++ (crlf ++ wCT)).toArray⟩ : ByteArray) := ⟨_, rfl⟩
  obtain ⟨s5, hs5⟩ : ∃ x, x = (⟨((wH ++ d ++ [32] ++ wd ++ (crlf ++ wCT)) ++ d2).toArray⟩ : ByteArray) := ⟨_, rfl⟩
  obtain ⟨s6, hs6⟩ : ∃ x, x = (⟨((wH ++ d ++ [32] ++ wd ++ (crlf ++ wCT) ++ d2) ++ crlf).toArray⟩ : ByteArray) := ⟨_, rfl⟩
  obtain ⟨s7, hs7⟩ : ∃ x, x = (⟨((wH ++ d ++ [32] ++ wd ++ (crlf ++ wCT) ++ d2 ++ crlf) ++ wCl).toArray⟩ : ByteArray) := ⟨_, rfl⟩
  obtain ⟨s8, hs8⟩ : ∃ x, x = (⟨(((wH ++ d ++ [32] ++ wd ++ (crlf ++ wCT) ++ d2 ++ crlf) ++ wCl) ++ crlf).toArray⟩ : ByteArray) := ⟨_, rfl⟩
  obtain ⟨s9, hs9⟩ : ∃ x, x = (⟨((wH ++ d ++ [32] ++ wd ++ (crlf ++ wCT) ++ d2 ++ crlf) ++ crlf).toArray⟩ : ByteArray) := ⟨_, rfl⟩
  have ks1 : (⟨#[72, 84, 84, 80, 47, 49, 46, 49, 32]⟩ : ByteArray) ++ (sd : ByteArray) = s1 := by rw [hs1, hsd]; exact str_cat _ _
  have zs1 : 9 + sd.size ≤ 9223372036854775807 := by
    rw [hsd]
    simp [ByteArray.size, wH, wCT, wCl, crlf]
    omega
  have ks2 : (s1 : ByteArray) ++ (⟨#[32]⟩ : ByteArray) = s2 := by rw [hs2, hs1]; exact str_cat _ _
  have zs2 : s1.size + 1 ≤ 9223372036854775807 := by
    rw [hs1]
    simp [ByteArray.size, wH, wCT, wCl, crlf]
    omega
  have ks3 : (s2 : ByteArray) ++ (sw : ByteArray) = s3 := by rw [hs3, hs2, hsw]; exact str_cat _ _
  have zs3 : s2.size + sw.size ≤ 9223372036854775807 := by
    rw [hs2, hsw]
    simp [ByteArray.size, wH, wCT, wCl, crlf]
    omega
  have ks4 : (s3 : ByteArray) ++ (⟨#[13, 10, 67, 111, 110, 116, 101, 110, 116, 45, 84, 121, 112, 101, 58, 32, 97, 112, 112, 108, 105, 99, 97, 116, 105, 111, 110, 47, 106, 115, 111, 110, 13, 10, 67, 111, 110, 116, 101, 110, 116, 45, 76, 101, 110, 103, 116, 104, 58, 32]⟩ : ByteArray) = s4 := by rw [hs4, hs3]; exact str_cat _ _
  have zs4 : s3.size + 50 ≤ 9223372036854775807 := by
    rw [hs3]
    simp [ByteArray.size, wH, wCT, wCl, crlf]
    omega
  have ks5 : (s4 : ByteArray) ++ (se : ByteArray) = s5 := by rw [hs5, hs4, hse]; exact str_cat _ _
  have zs5 : s4.size + se.size ≤ 9223372036854775807 := by
    rw [hs4, hse]
    simp [ByteArray.size, wH, wCT, wCl, crlf]
    omega
  have ks6 : (s5 : ByteArray) ++ (⟨#[13, 10]⟩ : ByteArray) = s6 := by rw [hs6, hs5]; exact str_cat _ _
  have zs6 : s5.size + 2 ≤ 9223372036854775807 := by
    rw [hs5]
    simp [ByteArray.size, wH, wCT, wCl, crlf]
    omega
  have ks7 : (s6 : ByteArray) ++ (⟨#[67, 111, 110, 110, 101, 99, 116, 105, 111, 110, 58, 32, 99, 108, 111, 115, 101, 13, 10]⟩ : ByteArray) = s7 := by rw [hs7, hs6]; exact str_cat _ _
  have zs7 : s6.size + 19 ≤ 9223372036854775807 := by
    rw [hs6]
    simp [ByteArray.size, wH, wCT, wCl, crlf]
    omega
  have ks8 : (s7 : ByteArray) ++ (⟨#[13, 10]⟩ : ByteArray) = s8 := by rw [hs8, hs7]; exact str_cat _ _
  have zs8 : s7.size + 2 ≤ 9223372036854775807 := by
    rw [hs7]
    simp [ByteArray.size, wH, wCT, wCl, crlf]
    omega
  have ks9 : (s6 : ByteArray) ++ (⟨#[13, 10]⟩ : ByteArray) = s9 := by rw [hs9, hs6]; exact str_cat _ _
  have zs9 : s6.size + 2 ≤ 9223372036854775807 := by
    rw [hs6]
    simp [ByteArray.size, wH, wCT, wCl, crlf]
    omega
  rw [← hsd] at c1
  rw [← hse] at c2
  rw [← hsw] at c3
  have S := Lib.hid (And.intro hs8 hs9)
  have C := Lib.hid (And.intro c1 (And.intro c2 c3))
  have LL := Lib.hid (And.intro hdl (And.intro hd2l hwl))
  clear hr hn c1 c2 c3 hs hd hd2 hwd e0 hdl hd2l hwl hsd hse hsw hs1 hs2 hs3 hs4 hs5 hs6 hs7 hs8 hs9
  have hsc := hst
  clear hst
  rcases hsc with ⟨g1, g2⟩ | ⟨g1, g2, g3⟩ | ⟨g1, g2, g3⟩
  · obtain rfl : si = 500 := by omega
    clear g2 hsi
    cases cl
    · go_enter Tryd.func13, Tryd.ntmps13
      go_upto_region 4 with fail
      try simp only [Act.put, List.setIfInBounds_toArray, List.set_cons_succ, List.set_cons_zero]
      refine wp_region_qb (by kernel_rfl) (by kernel_rfl) ?_
      refine wq_val (o := ⟨some 13, _, _, _, _, _⟩) (v := .int .i64 500) rfl (fun w' hC => by go_simp) ?_
      simp only [Act.put, List.setIfInBounds_toArray, List.set_cons_succ, List.set_cons_zero]
      refine wq_call (f := 28) (args := #[.int .i64 500]) (v := .string sd) rfl (fun w' _ => by go_simp) (fun w' hC => C.out.1 w') ?_
      simp only [Act.put, List.setIfInBounds_toArray, List.set_cons_succ, List.set_cons_zero]
      refine wq_val (o := ⟨some 15, _, _, _, _, _⟩) (v := .string s1) rfl (fun w' hC => by go_simp) ?_
      simp only [Act.put, List.setIfInBounds_toArray, List.set_cons_succ, List.set_cons_zero]
      refine wq_val (o := ⟨some 16, _, _, _, _, _⟩) (v := .string s2) rfl (fun w' hC => by go_simp) ?_
      simp only [Act.put, List.setIfInBounds_toArray, List.set_cons_succ, List.set_cons_zero]
      refine wq_val (o := ⟨some 17, _, _, _, _, _⟩) (v := .int .i64 500) rfl (fun w' hC => by go_simp) ?_
      simp only [Act.put, List.setIfInBounds_toArray, List.set_cons_succ, List.set_cons_zero]
      refine wq_call (f := 29) (args := #[.int .i64 500]) (v := .string sw) rfl (fun w' _ => by go_simp) (fun w' hC => C.out.2.2 w') ?_
      simp only [Act.put, List.setIfInBounds_toArray, List.set_cons_succ, List.set_cons_zero]
      refine wq_val (o := ⟨some 19, _, _, _, _, _⟩) (v := .string s3) rfl (fun w' hC => by go_simp) ?_
      simp only [Act.put, List.setIfInBounds_toArray, List.set_cons_succ, List.set_cons_zero]
      refine wq_val (o := ⟨some 20, _, _, _, _, _⟩) (v := .string s4) rfl (fun w' hC => by go_simp) ?_
      simp only [Act.put, List.setIfInBounds_toArray, List.set_cons_succ, List.set_cons_zero]
      refine wq_val (o := ⟨some 21, _, _, _, _, _⟩) (v := .pointer (some ⟨w.heap.size, 1, none⟩)) rfl (fun w' hC => by go_simp) ?_
      simp only [Act.put, List.setIfInBounds_toArray, List.set_cons_succ, List.set_cons_zero]
      refine wq_val (o := ⟨some 22, _, _, _, _, _⟩) (v := .slice A n c) rfl (fun w' hC => by have x1 := ((Blk.new w 24 [.int .i64 z, .slice A n c, .bool false]).grow hC).cell 1; simp only [List.getElem?_cons_zero, List.getElem?_cons_succ] at x1; go_simp) ?_
      simp only [Act.put, List.setIfInBounds_toArray, List.set_cons_succ, List.set_cons_zero]
      refine wq_val (o := ⟨some 23, _, _, _, _, _⟩) (v := .int .i64 n) rfl (fun w' hC => by go_simp) ?_
      simp only [Act.put, List.setIfInBounds_toArray, List.set_cons_succ, List.set_cons_zero]
      refine wq_call (f := 28) (args := #[.int .i64 n]) (v := .string se) rfl (fun w' _ => by go_simp) (fun w' hC => C.out.2.1 w') ?_
      simp only [Act.put, List.setIfInBounds_toArray, List.set_cons_succ, List.set_cons_zero]
      refine wq_val (o := ⟨some 25, _, _, _, _, _⟩) (v := .string s5) rfl (fun w' hC => by go_simp) ?_
      simp only [Act.put, List.setIfInBounds_toArray, List.set_cons_succ, List.set_cons_zero]
      refine wq_val (o := ⟨some 26, _, _, _, _, _⟩) (v := .string s6) rfl (fun w' hC => by go_simp) ?_
      simp only [Act.put, List.setIfInBounds_toArray, List.set_cons_succ, List.set_cons_zero]
      refine wq_val (o := ⟨some 4, _, _, _, _, _⟩) (v := .string s6) rfl (fun w' hC => by go_simp) ?_
      simp only [Act.put, List.setIfInBounds_toArray, List.set_cons_succ, List.set_cons_zero]
      refine wpQuiet_nil ?_
      intro w3 hC3
      have B3 := Lib.hid ((Blk.new w 24 [.int .i64 z, .slice A n c, .bool false]).grow hC3)
      have D3 := Lib.hid (gt (ga (gr w) _) hC3)
      have c2 := B3.out.cell 2
      simp only [List.getElem?_cons_zero, List.getElem?_cons_succ] at c2
      clear hC3
      go_wp2_with (first
        | ((with_reducible show wpList _ _ _ (⟨some 33, _, _, _, _, _⟩ :: _) _ _)
           go_must (refine wpList_conv (o := ⟨some 33, _, _, _, _, _⟩) rfl (.tmp 32) rfl ((wH ++ d ++ [32] ++ wd ++ (crlf ++ wCT) ++ d2 ++ crlf) ++ crlf) (by rw [← S.out.2]; rfl) (by have := LL.out; unfold maxLen; simp [wH, wCT, wCl, crlf]; omega) ?_)
           intro v4 w4 ho4 hb4
           have c1 := (B3.out.grow hb4).cell 1
           simp only [List.getElem?_cons_zero, List.getElem?_cons_succ] at c1)
        | ((with_reducible show wpList _ _ _ (⟨some 36, _, _, _, _, _⟩ :: _) _ _)
           go_must (refine wpList_appBB (o := ⟨some 36, _, _, _, _, _⟩) rfl (.tmp 33) (.tmp 35) rfl Tryd.underlying22 infB rfl ho4 hb4.size A n c l rfl H0.out.2.1 ((H0.out.1.below D3.out).below hb4) (by have := LL.out; have := H0.out.2.1; simp [wH, wCT, wCl, crlf]; omega) ?_)
           intro v9 w9 ho9 hg9
           have D9 := ho4.below hb4 hg9 hb4.size))
      go_ret
      refine ⟨_, rfl, ?_, gt D3.out D9⟩
      have ho := OwnB.low ho9 D3.out.size
      simpa using ho
    · go_enter Tryd.func13, Tryd.ntmps13
      go_upto_region 4 with fail
      try simp only [Act.put, List.setIfInBounds_toArray, List.set_cons_succ, List.set_cons_zero]
      refine wp_region_qb (by kernel_rfl) (by kernel_rfl) ?_
      refine wq_val (o := ⟨some 13, _, _, _, _, _⟩) (v := .int .i64 500) rfl (fun w' hC => by go_simp) ?_
      simp only [Act.put, List.setIfInBounds_toArray, List.set_cons_succ, List.set_cons_zero]
      refine wq_call (f := 28) (args := #[.int .i64 500]) (v := .string sd) rfl (fun w' _ => by go_simp) (fun w' hC => C.out.1 w') ?_
      simp only [Act.put, List.setIfInBounds_toArray, List.set_cons_succ, List.set_cons_zero]
      refine wq_val (o := ⟨some 15, _, _, _, _, _⟩) (v := .string s1) rfl (fun w' hC => by go_simp) ?_
      simp only [Act.put, List.setIfInBounds_toArray, List.set_cons_succ, List.set_cons_zero]
      refine wq_val (o := ⟨some 16, _, _, _, _, _⟩) (v := .string s2) rfl (fun w' hC => by go_simp) ?_
      simp only [Act.put, List.setIfInBounds_toArray, List.set_cons_succ, List.set_cons_zero]
      refine wq_val (o := ⟨some 17, _, _, _, _, _⟩) (v := .int .i64 500) rfl (fun w' hC => by go_simp) ?_
      simp only [Act.put, List.setIfInBounds_toArray, List.set_cons_succ, List.set_cons_zero]
      refine wq_call (f := 29) (args := #[.int .i64 500]) (v := .string sw) rfl (fun w' _ => by go_simp) (fun w' hC => C.out.2.2 w') ?_
      simp only [Act.put, List.setIfInBounds_toArray, List.set_cons_succ, List.set_cons_zero]
      refine wq_val (o := ⟨some 19, _, _, _, _, _⟩) (v := .string s3) rfl (fun w' hC => by go_simp) ?_
      simp only [Act.put, List.setIfInBounds_toArray, List.set_cons_succ, List.set_cons_zero]
      refine wq_val (o := ⟨some 20, _, _, _, _, _⟩) (v := .string s4) rfl (fun w' hC => by go_simp) ?_
      simp only [Act.put, List.setIfInBounds_toArray, List.set_cons_succ, List.set_cons_zero]
      refine wq_val (o := ⟨some 21, _, _, _, _, _⟩) (v := .pointer (some ⟨w.heap.size, 1, none⟩)) rfl (fun w' hC => by go_simp) ?_
      simp only [Act.put, List.setIfInBounds_toArray, List.set_cons_succ, List.set_cons_zero]
      refine wq_val (o := ⟨some 22, _, _, _, _, _⟩) (v := .slice A n c) rfl (fun w' hC => by have x1 := ((Blk.new w 24 [.int .i64 z, .slice A n c, .bool true]).grow hC).cell 1; simp only [List.getElem?_cons_zero, List.getElem?_cons_succ] at x1; go_simp) ?_
      simp only [Act.put, List.setIfInBounds_toArray, List.set_cons_succ, List.set_cons_zero]
      refine wq_val (o := ⟨some 23, _, _, _, _, _⟩) (v := .int .i64 n) rfl (fun w' hC => by go_simp) ?_
      simp only [Act.put, List.setIfInBounds_toArray, List.set_cons_succ, List.set_cons_zero]
      refine wq_call (f := 28) (args := #[.int .i64 n]) (v := .string se) rfl (fun w' _ => by go_simp) (fun w' hC => C.out.2.1 w') ?_
      simp only [Act.put, List.setIfInBounds_toArray, List.set_cons_succ, List.set_cons_zero]
      refine wq_val (o := ⟨some 25, _, _, _, _, _⟩) (v := .string s5) rfl (fun w' hC => by go_simp) ?_
      simp only [Act.put, List.setIfInBounds_toArray, List.set_cons_succ, List.set_cons_zero]
      refine wq_val (o := ⟨some 26, _, _, _, _, _⟩) (v := .string s6) rfl (fun w' hC => by go_simp) ?_
      simp only [Act.put, List.setIfInBounds_toArray, List.set_cons_succ, List.set_cons_zero]
      refine wq_val (o := ⟨some 4, _, _, _, _, _⟩) (v := .string s6) rfl (fun w' hC => by go_simp) ?_
      simp only [Act.put, List.setIfInBounds_toArray, List.set_cons_succ, List.set_cons_zero]
      refine wpQuiet_nil ?_
      intro w3 hC3
      have B3 := Lib.hid ((Blk.new w 24 [.int .i64 z, .slice A n c, .bool true]).grow hC3)
      have D3 := Lib.hid (gt (ga (gr w) _) hC3)
      have c2 := B3.out.cell 2
      simp only [List.getElem?_cons_zero, List.getElem?_cons_succ] at c2
      clear hC3
      go_wp2_with (first
        | ((with_reducible show wpList _ _ _ (⟨some 33, _, _, _, _, _⟩ :: _) _ _)
           go_must (refine wpList_conv (o := ⟨some 33, _, _, _, _, _⟩) rfl (.tmp 32) rfl ((wH ++ d ++ [32] ++ wd ++ (crlf ++ wCT) ++ d2 ++ crlf) ++ wCl ++ crlf) (by rw [← S.out.1]; rfl) (by have := LL.out; unfold maxLen; simp [wH, wCT, wCl, crlf]; omega) ?_)
           intro v4 w4 ho4 hb4
           have c1 := (B3.out.grow hb4).cell 1
           simp only [List.getElem?_cons_zero, List.getElem?_cons_succ] at c1)
        | ((with_reducible show wpList _ _ _ (⟨some 36, _, _, _, _, _⟩ :: _) _ _)
           go_must (refine wpList_appBB (o := ⟨some 36, _, _, _, _, _⟩) rfl (.tmp 33) (.tmp 35) rfl Tryd.underlying22 infB rfl ho4 hb4.size A n c l rfl H0.out.2.1 ((H0.out.1.below D3.out).below hb4) (by have := LL.out; have := H0.out.2.1; simp [wH, wCT, wCl, crlf]; omega) ?_)
           intro v9 w9 ho9 hg9
           have D9 := ho4.below hb4 hg9 hb4.size))
      go_ret
      refine ⟨_, rfl, ?_, gt D3.out D9⟩
      have ho := OwnB.low ho9 D3.out.size
      simpa using ho
  · obtain rfl : si = 500 := by omega
    clear g3 hsi
    cases cl
    · go_enter Tryd.func13, Tryd.ntmps13
      go_upto_region 4 with fail
      try simp only [Act.put, List.setIfInBounds_toArray, List.set_cons_succ, List.set_cons_zero]
      refine wp_region_qb (by kernel_rfl) (by kernel_rfl) ?_
      refine wq_val (o := ⟨some 13, _, _, _, _, _⟩) (v := .int .i64 500) rfl (fun w' hC => by go_simp) ?_
      simp only [Act.put, List.setIfInBounds_toArray, List.set_cons_succ, List.set_cons_zero]
      refine wq_call (f := 28) (args := #[.int .i64 500]) (v := .string sd) rfl (fun w' _ => by go_simp) (fun w' hC => C.out.1 w') ?_
      simp only [Act.put, List.setIfInBounds_toArray, List.set_cons_succ, List.set_cons_zero]
      refine wq_val (o := ⟨some 15, _, _, _, _, _⟩) (v := .string s1) rfl (fun w' hC => by go_simp) ?_
      simp only [Act.put, List.setIfInBounds_toArray, List.set_cons_succ, List.set_cons_zero]
      refine wq_val (o := ⟨some 16, _, _, _, _, _⟩) (v := .string s2) rfl (fun w' hC => by go_simp) ?_
      simp only [Act.put, List.setIfInBounds_toArray, List.set_cons_succ, List.set_cons_zero]
      refine wq_val (o := ⟨some 17, _, _, _, _, _⟩) (v := .int .i64 500) rfl (fun w' hC => by go_simp) ?_
      simp only [Act.put, List.setIfInBounds_toArray, List.set_cons_succ, List.set_cons_zero]
      refine wq_call (f := 29) (args := #[.int .i64 500]) (v := .string sw) rfl (fun w' _ => by go_simp) (fun w' hC => C.out.2.2 w') ?_
      simp only [Act.put, List.setIfInBounds_toArray, List.set_cons_succ, List.set_cons_zero]
      refine wq_val (o := ⟨some 19, _, _, _, _, _⟩) (v := .string s3) rfl (fun w' hC => by go_simp) ?_
      simp only [Act.put, List.setIfInBounds_toArray, List.set_cons_succ, List.set_cons_zero]
      refine wq_val (o := ⟨some 20, _, _, _, _, _⟩) (v := .string s4) rfl (fun w' hC => by go_simp) ?_
      simp only [Act.put, List.setIfInBounds_toArray, List.set_cons_succ, List.set_cons_zero]
      refine wq_val (o := ⟨some 21, _, _, _, _, _⟩) (v := .pointer (some ⟨w.heap.size, 1, none⟩)) rfl (fun w' hC => by go_simp) ?_
      simp only [Act.put, List.setIfInBounds_toArray, List.set_cons_succ, List.set_cons_zero]
      refine wq_val (o := ⟨some 22, _, _, _, _, _⟩) (v := .slice A n c) rfl (fun w' hC => by have x1 := ((Blk.new w 24 [.int .i64 z, .slice A n c, .bool false]).grow hC).cell 1; simp only [List.getElem?_cons_zero, List.getElem?_cons_succ] at x1; go_simp) ?_
      simp only [Act.put, List.setIfInBounds_toArray, List.set_cons_succ, List.set_cons_zero]
      refine wq_val (o := ⟨some 23, _, _, _, _, _⟩) (v := .int .i64 n) rfl (fun w' hC => by go_simp) ?_
      simp only [Act.put, List.setIfInBounds_toArray, List.set_cons_succ, List.set_cons_zero]
      refine wq_call (f := 28) (args := #[.int .i64 n]) (v := .string se) rfl (fun w' _ => by go_simp) (fun w' hC => C.out.2.1 w') ?_
      simp only [Act.put, List.setIfInBounds_toArray, List.set_cons_succ, List.set_cons_zero]
      refine wq_val (o := ⟨some 25, _, _, _, _, _⟩) (v := .string s5) rfl (fun w' hC => by go_simp) ?_
      simp only [Act.put, List.setIfInBounds_toArray, List.set_cons_succ, List.set_cons_zero]
      refine wq_val (o := ⟨some 26, _, _, _, _, _⟩) (v := .string s6) rfl (fun w' hC => by go_simp) ?_
      simp only [Act.put, List.setIfInBounds_toArray, List.set_cons_succ, List.set_cons_zero]
      refine wq_val (o := ⟨some 4, _, _, _, _, _⟩) (v := .string s6) rfl (fun w' hC => by go_simp) ?_
      simp only [Act.put, List.setIfInBounds_toArray, List.set_cons_succ, List.set_cons_zero]
      refine wpQuiet_nil ?_
      intro w3 hC3
      have B3 := Lib.hid ((Blk.new w 24 [.int .i64 z, .slice A n c, .bool false]).grow hC3)
      have D3 := Lib.hid (gt (ga (gr w) _) hC3)
      have c2 := B3.out.cell 2
      simp only [List.getElem?_cons_zero, List.getElem?_cons_succ] at c2
      clear hC3
      go_wp2_with (first
        | ((with_reducible show wpList _ _ _ (⟨some 33, _, _, _, _, _⟩ :: _) _ _)
           go_must (refine wpList_conv (o := ⟨some 33, _, _, _, _, _⟩) rfl (.tmp 32) rfl ((wH ++ d ++ [32] ++ wd ++ (crlf ++ wCT) ++ d2 ++ crlf) ++ crlf) (by rw [← S.out.2]; rfl) (by have := LL.out; unfold maxLen; simp [wH, wCT, wCl, crlf]; omega) ?_)
           intro v4 w4 ho4 hb4
           have c1 := (B3.out.grow hb4).cell 1
           simp only [List.getElem?_cons_zero, List.getElem?_cons_succ] at c1)
        | ((with_reducible show wpList _ _ _ (⟨some 36, _, _, _, _, _⟩ :: _) _ _)
           go_must (refine wpList_appBB (o := ⟨some 36, _, _, _, _, _⟩) rfl (.tmp 33) (.tmp 35) rfl Tryd.underlying22 infB rfl ho4 hb4.size A n c l rfl H0.out.2.1 ((H0.out.1.below D3.out).below hb4) (by have := LL.out; have := H0.out.2.1; simp [wH, wCT, wCl, crlf]; omega) ?_)
           intro v9 w9 ho9 hg9
           have D9 := ho4.below hb4 hg9 hb4.size))
      go_ret
      refine ⟨_, rfl, ?_, gt D3.out D9⟩
      have ho := OwnB.low ho9 D3.out.size
      simpa using ho
    · go_enter Tryd.func13, Tryd.ntmps13
      go_upto_region 4 with fail
      try simp only [Act.put, List.setIfInBounds_toArray, List.set_cons_succ, List.set_cons_zero]
      refine wp_region_qb (by kernel_rfl) (by kernel_rfl) ?_
      refine wq_val (o := ⟨some 13, _, _, _, _, _⟩) (v := .int .i64 500) rfl (fun w' hC => by go_simp) ?_
      simp only [Act.put, List.setIfInBounds_toArray, List.set_cons_succ, List.set_cons_zero]
      refine wq_call (f := 28) (args := #[.int .i64 500]) (v := .string sd) rfl (fun w' _ => by go_simp) (fun w' hC => C.out.1 w') ?_
      simp only [Act.put, List.setIfInBounds_toArray, List.set_cons_succ, List.set_cons_zero]
      refine wq_val (o := ⟨some 15, _, _, _, _, _⟩) (v := .string s1) rfl (fun w' hC => by go_simp) ?_
      simp only [Act.put, List.setIfInBounds_toArray, List.set_cons_succ, List.set_cons_zero]
      refine wq_val (o := ⟨some 16, _, _, _, _, _⟩) (v := .string s2) rfl (fun w' hC => by go_simp) ?_
      simp only [Act.put, List.setIfInBounds_toArray, List.set_cons_succ, List.set_cons_zero]
      refine wq_val (o := ⟨some 17, _, _, _, _, _⟩) (v := .int .i64 500) rfl (fun w' hC => by go_simp) ?_
      simp only [Act.put, List.setIfInBounds_toArray, List.set_cons_succ, List.set_cons_zero]
      refine wq_call (f := 29) (args := #[.int .i64 500]) (v := .string sw) rfl (fun w' _ => by go_simp) (fun w' hC => C.out.2.2 w') ?_
      simp only [Act.put, List.setIfInBounds_toArray, List.set_cons_succ, List.set_cons_zero]
      refine wq_val (o := ⟨some 19, _, _, _, _, _⟩) (v := .string s3) rfl (fun w' hC => by go_simp) ?_
      simp only [Act.put, List.setIfInBounds_toArray, List.set_cons_succ, List.set_cons_zero]
      refine wq_val (o := ⟨some 20, _, _, _, _, _⟩) (v := .string s4) rfl (fun w' hC => by go_simp) ?_
      simp only [Act.put, List.setIfInBounds_toArray, List.set_cons_succ, List.set_cons_zero]
      refine wq_val (o := ⟨some 21, _, _, _, _, _⟩) (v := .pointer (some ⟨w.heap.size, 1, none⟩)) rfl (fun w' hC => by go_simp) ?_
      simp only [Act.put, List.setIfInBounds_toArray, List.set_cons_succ, List.set_cons_zero]
      refine wq_val (o := ⟨some 22, _, _, _, _, _⟩) (v := .slice A n c) rfl (fun w' hC => by have x1 := ((Blk.new w 24 [.int .i64 z, .slice A n c, .bool true]).grow hC).cell 1; simp only [List.getElem?_cons_zero, List.getElem?_cons_succ] at x1; go_simp) ?_
      simp only [Act.put, List.setIfInBounds_toArray, List.set_cons_succ, List.set_cons_zero]
      refine wq_val (o := ⟨some 23, _, _, _, _, _⟩) (v := .int .i64 n) rfl (fun w' hC => by go_simp) ?_
      simp only [Act.put, List.setIfInBounds_toArray, List.set_cons_succ, List.set_cons_zero]
      refine wq_call (f := 28) (args := #[.int .i64 n]) (v := .string se) rfl (fun w' _ => by go_simp) (fun w' hC => C.out.2.1 w') ?_
      simp only [Act.put, List.setIfInBounds_toArray, List.set_cons_succ, List.set_cons_zero]
      refine wq_val (o := ⟨some 25, _, _, _, _, _⟩) (v := .string s5) rfl (fun w' hC => by go_simp) ?_
      simp only [Act.put, List.setIfInBounds_toArray, List.set_cons_succ, List.set_cons_zero]
      refine wq_val (o := ⟨some 26, _, _, _, _, _⟩) (v := .string s6) rfl (fun w' hC => by go_simp) ?_
      simp only [Act.put, List.setIfInBounds_toArray, List.set_cons_succ, List.set_cons_zero]
      refine wq_val (o := ⟨some 4, _, _, _, _, _⟩) (v := .string s6) rfl (fun w' hC => by go_simp) ?_
      simp only [Act.put, List.setIfInBounds_toArray, List.set_cons_succ, List.set_cons_zero]
      refine wpQuiet_nil ?_
      intro w3 hC3
      have B3 := Lib.hid ((Blk.new w 24 [.int .i64 z, .slice A n c, .bool true]).grow hC3)
      have D3 := Lib.hid (gt (ga (gr w) _) hC3)
      have c2 := B3.out.cell 2
      simp only [List.getElem?_cons_zero, List.getElem?_cons_succ] at c2
      clear hC3
      go_wp2_with (first
        | ((with_reducible show wpList _ _ _ (⟨some 33, _, _, _, _, _⟩ :: _) _ _)
           go_must (refine wpList_conv (o := ⟨some 33, _, _, _, _, _⟩) rfl (.tmp 32) rfl ((wH ++ d ++ [32] ++ wd ++ (crlf ++ wCT) ++ d2 ++ crlf) ++ wCl ++ crlf) (by rw [← S.out.1]; rfl) (by have := LL.out; unfold maxLen; simp [wH, wCT, wCl, crlf]; omega) ?_)
           intro v4 w4 ho4 hb4
           have c1 := (B3.out.grow hb4).cell 1
           simp only [List.getElem?_cons_zero, List.getElem?_cons_succ] at c1)
        | ((with_reducible show wpList _ _ _ (⟨some 36, _, _, _, _, _⟩ :: _) _ _)
           go_must (refine wpList_appBB (o := ⟨some 36, _, _, _, _, _⟩) rfl (.tmp 33) (.tmp 35) rfl Tryd.underlying22 infB rfl ho4 hb4.size A n c l rfl H0.out.2.1 ((H0.out.1.below D3.out).below hb4) (by have := LL.out; have := H0.out.2.1; simp [wH, wCT, wCl, crlf]; omega) ?_)
           intro v9 w9 ho9 hg9
           have D9 := ho4.below hb4 hg9 hb4.size))
      go_ret
      refine ⟨_, rfl, ?_, gt D3.out D9⟩
      have ho := OwnB.low ho9 D3.out.size
      simpa using ho
  · obtain rfl : z = si := by rw [hsi]; exact g3
    clear g3 hsi
    cases cl
    · go_enter Tryd.func13, Tryd.ntmps13
      go_upto_region 4 with fail
      try simp only [Act.put, List.setIfInBounds_toArray, List.set_cons_succ, List.set_cons_zero]
      refine wp_region_qb (by kernel_rfl) (by kernel_rfl) ?_
      refine wq_val (o := ⟨some 13, _, _, _, _, _⟩) (v := .int .i64 z) rfl (fun w' hC => by go_simp) ?_
      simp only [Act.put, List.setIfInBounds_toArray, List.set_cons_succ, List.set_cons_zero]
      refine wq_call (f := 28) (args := #[.int .i64 z]) (v := .string sd) rfl (fun w' _ => by go_simp) (fun w' hC => C.out.1 w') ?_
      simp only [Act.put, List.setIfInBounds_toArray, List.set_cons_succ, List.set_cons_zero]
      refine wq_val (o := ⟨some 15, _, _, _, _, _⟩) (v := .string s1) rfl (fun w' hC => by go_simp) ?_
      simp only [Act.put, List.setIfInBounds_toArray, List.set_cons_succ, List.set_cons_zero]
      refine wq_val (o := ⟨some 16, _, _, _, _, _⟩) (v := .string s2) rfl (fun w' hC => by go_simp) ?_
      simp only [Act.put, List.setIfInBounds_toArray, List.set_cons_succ, List.set_cons_zero]
      refine wq_val (o := ⟨some 17, _, _, _, _, _⟩) (v := .int .i64 z) rfl (fun w' hC => by go_simp) ?_
      simp only [Act.put, List.setIfInBounds_toArray, List.set_cons_succ, List.set_cons_zero]
      refine wq_call (f := 29) (args := #[.int .i64 z]) (v := .string sw) rfl (fun w' _ => by go_simp) (fun w' hC => C.out.2.2 w') ?_
      simp only [Act.put, List.setIfInBounds_toArray, List.set_cons_succ, List.set_cons_zero]
      refine wq_val (o := ⟨some 19, _, _, _, _, _⟩) (v := .string s3) rfl (fun w' hC => by go_simp) ?_
      simp only [Act.put, List.setIfInBounds_toArray, List.set_cons_succ, List.set_cons_zero]
      refine wq_val (o := ⟨some 20, _, _, _, _, _⟩) (v := .string s4) rfl (fun w' hC => by go_simp) ?_
      simp only [Act.put, List.setIfInBounds_toArray, List.set_cons_succ, List.set_cons_zero]
      refine wq_val (o := ⟨some 21, _, _, _, _, _⟩) (v := .pointer (some ⟨w.heap.size, 1, none⟩)) rfl (fun w' hC => by go_simp) ?_
      simp only [Act.put, List.setIfInBounds_toArray, List.set_cons_succ, List.set_cons_zero]
      refine wq_val (o := ⟨some 22, _, _, _, _, _⟩) (v := .slice A n c) rfl (fun w' hC => by have x1 := ((Blk.new w 24 [.int .i64 z, .slice A n c, .bool false]).grow hC).cell 1; simp only [List.getElem?_cons_zero, List.getElem?_cons_succ] at x1; go_simp) ?_
      simp only [Act.put, List.setIfInBounds_toArray, List.set_cons_succ, List.set_cons_zero]
      refine wq_val (o := ⟨some 23, _, _, _, _, _⟩) (v := .int .i64 n) rfl (fun w' hC => by go_simp) ?_
      simp only [Act.put, List.setIfInBounds_toArray, List.set_cons_succ, List.set_cons_zero]
      refine wq_call (f := 28) (args := #[.int .i64 n]) (v := .string se) rfl (fun w' _ => by go_simp) (fun w' hC => C.out.2.1 w') ?_
      simp only [Act.put, List.setIfInBounds_toArray, List.set_cons_succ, List.set_cons_zero]
      refine wq_val (o := ⟨some 25, _, _, _, _, _⟩) (v := .string s5) rfl (fun w' hC => by go_simp) ?_
      simp only [Act.put, List.setIfInBounds_toArray, List.set_cons_succ, List.set_cons_zero]
      refine wq_val (o := ⟨some 26, _, _, _, _, _⟩) (v := .string s6) rfl (fun w' hC => by go_simp) ?_
      simp only [Act.put, List.setIfInBounds_toArray, List.set_cons_succ, List.set_cons_zero]
      refine wq_val (o := ⟨some 4, _, _, _, _, _⟩) (v := .string s6) rfl (fun w' hC => by go_simp) ?_
      simp only [Act.put, List.setIfInBounds_toArray, List.set_cons_succ, List.set_cons_zero]
      refine wpQuiet_nil ?_
      intro w3 hC3
      have B3 := Lib.hid ((Blk.new w 24 [.int .i64 z, .slice A n c, .bool false]).grow hC3)
      have D3 := Lib.hid (gt (ga (gr w) _) hC3)
      have c2 := B3.out.cell 2
      simp only [List.getElem?_cons_zero, List.getElem?_cons_succ] at c2
      clear hC3
      go_wp2_with (first
        | ((with_reducible show wpList _ _ _ (⟨some 33, _, _, _, _, _⟩ :: _) _ _)
           go_must (refine wpList_conv (o := ⟨some 33, _, _, _, _, _⟩) rfl (.tmp 32) rfl ((wH ++ d ++ [32] ++ wd ++ (crlf ++ wCT) ++ d2 ++ crlf) ++ crlf) (by rw [← S.out.2]; rfl) (by have := LL.out; unfold maxLen; simp [wH, wCT, wCl, crlf]; omega) ?_)
           intro v4 w4 ho4 hb4
           have c1 := (B3.out.grow hb4).cell 1
           simp only [List.getElem?_cons_zero, List.getElem?_cons_succ] at c1)
        | ((with_reducible show wpList _ _ _ (⟨some 36, _, _, _, _, _⟩ :: _) _ _)
           go_must (refine wpList_appBB (o := ⟨some 36, _, _, _, _, _⟩) rfl (.tmp 33) (.tmp 35) rfl Tryd.underlying22 infB rfl ho4 hb4.size A n c l rfl H0.out.2.1 ((H0.out.1.below D3.out).below hb4) (by have := LL.out; have := H0.out.2.1; simp [wH, wCT, wCl, crlf]; omega) ?_)
           intro v9 w9 ho9 hg9
           have D9 := ho4.below hb4 hg9 hb4.size))
      go_ret
      refine ⟨_, rfl, ?_, gt D3.out D9⟩
      have ho := OwnB.low ho9 D3.out.size
      simpa using ho
    · go_enter Tryd.func13, Tryd.ntmps13
      go_upto_region 4 with fail
      try simp only [Act.put, List.setIfInBounds_toArray, List.set_cons_succ, List.set_cons_zero]
      refine wp_region_qb (by kernel_rfl) (by kernel_rfl) ?_
      refine wq_val (o := ⟨some 13, _, _, _, _, _⟩) (v := .int .i64 z) rfl (fun w' hC => by go_simp) ?_
      simp only [Act.put, List.setIfInBounds_toArray, List.set_cons_succ, List.set_cons_zero]
      refine wq_call (f := 28) (args := #[.int .i64 z]) (v := .string sd) rfl (fun w' _ => by go_simp) (fun w' hC => C.out.1 w') ?_
      simp only [Act.put, List.setIfInBounds_toArray, List.set_cons_succ, List.set_cons_zero]
      refine wq_val (o := ⟨some 15, _, _, _, _, _⟩) (v := .string s1) rfl (fun w' hC => by go_simp) ?_
      simp only [Act.put, List.setIfInBounds_toArray, List.set_cons_succ, List.set_cons_zero]
      refine wq_val (o := ⟨some 16, _, _, _, _, _⟩) (v := .string s2) rfl (fun w' hC => by go_simp) ?_
      simp only [Act.put, List.setIfInBounds_toArray, List.set_cons_succ, List.set_cons_zero]
      refine wq_val (o := ⟨some 17, _, _, _, _, _⟩) (v := .int .i64 z) rfl (fun w' hC => by go_simp) ?_
      simp only [Act.put, List.setIfInBounds_toArray, List.set_cons_succ, List.set_cons_zero]
      refine wq_call (f := 29) (args := #[.int .i64 z]) (v := .string sw) rfl (fun w' _ => by go_simp) (fun w' hC => C.out.2.2 w') ?_
      simp only [Act.put, List.setIfInBounds_toArray, List.set_cons_succ, List.set_cons_zero]
      refine wq_val (o := ⟨some 19, _, _, _, _, _⟩) (v := .string s3) rfl (fun w' hC => by go_simp) ?_
      simp only [Act.put, List.setIfInBounds_toArray, List.set_cons_succ, List.set_cons_zero]
      refine wq_val (o := ⟨some 20, _, _, _, _, _⟩) (v := .string s4) rfl (fun w' hC => by go_simp) ?_
      simp only [Act.put, List.setIfInBounds_toArray, List.set_cons_succ, List.set_cons_zero]
      refine wq_val (o := ⟨some 21, _, _, _, _, _⟩) (v := .pointer (some ⟨w.heap.size, 1, none⟩)) rfl (fun w' hC => by go_simp) ?_
      simp only [Act.put, List.setIfInBounds_toArray, List.set_cons_succ, List.set_cons_zero]
      refine wq_val (o := ⟨some 22, _, _, _, _, _⟩) (v := .slice A n c) rfl (fun w' hC => by have x1 := ((Blk.new w 24 [.int .i64 z, .slice A n c, .bool true]).grow hC).cell 1; simp only [List.getElem?_cons_zero, List.getElem?_cons_succ] at x1; go_simp) ?_
      simp only [Act.put, List.setIfInBounds_toArray, List.set_cons_succ, List.set_cons_zero]
      refine wq_val (o := ⟨some 23, _, _, _, _, _⟩) (v := .int .i64 n) rfl (fun w' hC => by go_simp) ?_
      simp only [Act.put, List.setIfInBounds_toArray, List.set_cons_succ, List.set_cons_zero]
      refine wq_call (f := 28) (args := #[.int .i64 n]) (v := .string se) rfl (fun w' _ => by go_simp) (fun w' hC => C.out.2.1 w') ?_
      simp only [Act.put, List.setIfInBounds_toArray, List.set_cons_succ, List.set_cons_zero]
      refine wq_val (o := ⟨some 25, _, _, _, _, _⟩) (v := .string s5) rfl (fun w' hC => by go_simp) ?_
      simp only [Act.put, List.setIfInBounds_toArray, List.set_cons_succ, List.set_cons_zero]
      refine wq_val (o := ⟨some 26, _, _, _, _, _⟩) (v := .string s6) rfl (fun w' hC => by go_simp) ?_
      simp only [Act.put, List.setIfInBounds_toArray, List.set_cons_succ, List.set_cons_zero]
      refine wq_val (o := ⟨some 4, _, _, _, _, _⟩) (v := .string s6) rfl (fun w' hC => by go_simp) ?_
      simp only [Act.put, List.setIfInBounds_toArray, List.set_cons_succ, List.set_cons_zero]
      refine wpQuiet_nil ?_
      intro w3 hC3
      have B3 := Lib.hid ((Blk.new w 24 [.int .i64 z, .slice A n c, .bool true]).grow hC3)
      have D3 := Lib.hid (gt (ga (gr w) _) hC3)
      have c2 := B3.out.cell 2
      simp only [List.getElem?_cons_zero, List.getElem?_cons_succ] at c2
      clear hC3
      go_wp2_with (first
        | ((with_reducible show wpList _ _ _ (⟨some 33, _, _, _, _, _⟩ :: _) _ _)
           go_must (refine wpList_conv (o := ⟨some 33, _, _, _, _, _⟩) rfl (.tmp 32) rfl ((wH ++ d ++ [32] ++ wd ++ (crlf ++ wCT) ++ d2 ++ crlf) ++ wCl ++ crlf) (by rw [← S.out.1]; rfl) (by have := LL.out; unfold maxLen; simp [wH, wCT, wCl, crlf]; omega) ?_)
           intro v4 w4 ho4 hb4
           have c1 := (B3.out.grow hb4).cell 1
           simp only [List.getElem?_cons_zero, List.getElem?_cons_succ] at c1)
        | ((with_reducible show wpList _ _ _ (⟨some 36, _, _, _, _, _⟩ :: _) _ _)
           go_must (refine wpList_appBB (o := ⟨some 36, _, _, _, _, _⟩) rfl (.tmp 33) (.tmp 35) rfl Tryd.underlying22 infB rfl ho4 hb4.size A n c l rfl H0.out.2.1 ((H0.out.1.below D3.out).below hb4) (by have := LL.out; have := H0.out.2.1; simp [wH, wCT, wCl, crlf]; omega) ?_)
           intro v9 w9 ho9 hg9
           have D9 := ho4.below hb4 hg9 hb4.size))
      go_ret
      refine ⟨_, rfl, ?_, gt D3.out D9⟩
      have ho := OwnB.low ho9 D3.out.size
      simpa using ho
end Go.Proofs.YtojemdggbcklkaaDoor.WireW
