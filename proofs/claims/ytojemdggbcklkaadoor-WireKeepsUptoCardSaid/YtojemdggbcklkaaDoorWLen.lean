/- weirref28.length: a told length. -/
import Derived.Test.YtojemdggbcklkaaDoorWFields
import Derived.Test.YtojemdggbcklkaaDoorWPure

/- ref.line, ref.lines: the reference's lines. -/
namespace Go.Proofs.YtojemdggbcklkaaDoor.WireR
open Go.RowKit Go.Proofs.YtojemdggbcklkaaDoor.Mem Go.Proofs.YtojemdggbcklkaaDoor.Wire Go.Proofs.YtojemdggbcklkaaDoor.Strs Go.Proofs.YtojemdggbcklkaaDoor.Heads
set_option linter.unusedVariables false
set_option linter.unusedSimpArgs false
set_option maxRecDepth 4000

def RLinePost (s : List UInt8) (r : Res Bytes) (e : Ending) : Prop :=
  match r with
  | .ok x b => e = .returned (.tuple #[.string ⟨x.toArray⟩, .int .i64 ((s.length - b.length : Nat) : Int), .bool true])
  | .err er => if er = 283 then e = .returned (.tuple #[.string ⟨#[]⟩, .int .i64 0, .bool false]) else ∃ k : Nat, 0 < k ∧ e = .returned (.tuple #[.string ⟨#[]⟩, .int .i64 (k : Int), .bool false])
theorem ext_drop (s : List UInt8) (p : Nat) : (⟨s.toArray⟩ : ByteArray).extract p s.length = ⟨(s.drop p).toArray⟩ := by
  rw [Lib.extract_eq]
  show (⟨((s.drop p).take _).toArray⟩ : ByteArray) = _
  rw [List.take_of_length_le (by rw [List.length_drop]; omega)]

theorem w64 {x y : Int} (e : x = y) (h0 : 0 ≤ y) (h1 : y ≤ 2147483648) : wrap64 x = y := by
  subst e
  unfold wrap64
  omega
set_option maxHeartbeats 4000000 in
theorem rline_any (s : List UInt8) (p : Nat) (w : World) (hp : p ≤ s.length) (hl : s.length ≤ 1073741824) (bad : Nat) (hbad : 280 ≤ bad ∧ bad ≤ 282) :
    Calls Tryd.prog 39 #[.string ⟨s.toArray⟩, .int .i64 (p : Int)] w fun e w' => RLinePost s (lineS bad (s.drop p)) e ∧ w = w' := by
  obtain ⟨n, hn⟩ : ∃ n, n = s.length := ⟨_, rfl⟩
  obtain ⟨S, hS⟩ : ∃ S, S = (⟨s.toArray⟩ : ByteArray) := ⟨_, rfl⟩
  have hsz : S.size = n := by rw [hS, hn]; simp [ByteArray.size]
  have hni : (n : Int) ≤ 1073741824 := by omega
  have hpi : (p : Int) ≤ (n : Int) := by omega
  have hpn : ¬ n < p := by omega
  have hext := ext_drop s p
  obtain ⟨T, hT⟩ : ∃ T, T = (⟨(s.drop p).toArray⟩ : ByteArray) := ⟨_, rfl⟩
  rw [← hS, ← hT, ← hn] at hext
  have c1 := fun w => find_any (s.drop p) 10 w (by rw [List.length_drop]; omega)
  rw [← hT] at c1
  have HS := Lib.hid (And.intro hn (And.intro hS hbad))
  rw [← hS]
  clear hT hbad
  cases hcut : cutL 10 (s.drop p) with
  | none =>
    have hi : Lib.indexByte (s.drop p) 10 = -1 := by rw [indexByte_cut, hcut]
    rw [hi] at c1
    have C1 := Lib.hid c1
    have HL := Lib.hid (lineS_end (cutL_none hcut) bad)
    clear c1 hi hcut hS hn hp hl
    go_enter Tryd.func39, Tryd.ntmps39
    go_wp2_with (first
      | (go_at_call 62; go_must (refine (C1.out _).mono ?_); rintro e w' ⟨rfl, rfl⟩))
    go_ret3
    exact ⟨by rw [HL.out]; rfl, rfl⟩
  | some ab =>
    obtain ⟨a, b⟩ := ab
    have hi : Lib.indexByte (s.drop p) 10 = (a.length : Int) := by rw [indexByte_cut, hcut]
    have hlen := cutL_len hcut
    rw [List.length_drop] at hlen
    obtain ⟨m, hm⟩ : ∃ m, m = a.length := ⟨_, rfl⟩
    rw [hi, ← hm] at c1
    obtain ⟨i, hi2⟩ : ∃ i, i = p + m := ⟨_, rfl⟩
    have his : i < s.length := by omega
    obtain ⟨hdec, hno⟩ := cutL_some hcut
    have htk : (s.drop p).take (i - p) = a := by rw [hdec, show i - p = a.length by omega]; simp
    have h10 : s[i] = 10 := by
      have h1 : (s.drop p)[m]? = some 10 := by rw [hdec, hm]; simp
      rw [List.getElem?_drop, ← hi2, List.getElem?_eq_getElem his] at h1
      injection h1
    have hhit := lineS_hit (s := s) (p := p) (i := i) (show p ≤ i by omega) his h10 (by rw [htk]; exact hno) bad
    have hbl : s.length - b.length = i + 1 := by omega
    have hsum : (p : Int) + (m : Int) = (i : Int) := by omega
    have hin : (i : Int) + 1 ≤ (n : Int) := by omega
    have hm0 : (0 : Int) ≤ (m : Int) := by omega
    have hi0 : (0 : Int) ≤ (i : Int) := by omega
    have hi1 : (i : Int) ≤ 2147483648 := by omega
    have hi2' : (0 : Int) ≤ (i : Int) + 1 := by omega
    have hi3 : (i : Int) + 1 ≤ 2147483648 := by omega
    have C1 := Lib.hid c1
    by_cases h0 : m = 0
    · have hl2 : lineS bad (s.drop p) = .err bad := by rw [hhit, dif_neg (by omega)]
      have HL := Lib.hid hl2
      have b0 : ((m : Int) == 0) = true := by simp; omega
      have hsw := w64 hsum hi0 hi1
      have hiw := w64 rfl hi2' hi3
      clear c1 hi hcut hS hn hp hl hlen hi2 hdec hno htk h10 hhit hbl hl2 h0 hm his hsum hi1 hi2' hi3
      go_enter Tryd.func39, Tryd.ntmps39
      go_wp2_with (first
        | (go_at_call 62; go_must (refine (C1.out _).mono ?_); rintro e w' ⟨rfl, rfl⟩))
      go_ret3
      refine ⟨?_, rfl⟩
      rw [HL.out]
      unfold RLinePost
      simp only
      rw [if_neg (by have := HS.out.2.2; omega)]
      exact ⟨i + 1, by omega, rfl⟩
    · have b0 : ((m : Int) == 0) = false := by simp; omega
      obtain ⟨j, hj⟩ : ∃ j, j = i - 1 := ⟨_, rfl⟩
      have hji : (i : Int) - 1 = (j : Int) := by omega
      have hj1 : (j : Int) ≤ 2147483648 := by omega
      have hj0 : (0 : Int) ≤ (j : Int) := by omega
      have hjn : (j : Int) < (n : Int) := by omega
      have hpj : (p : Int) ≤ (j : Int) := by omega
      have hjs : j < S.size := by omega
      obtain ⟨y, hy⟩ : ∃ y, y = s[i - 1] := ⟨_, rfl⟩
      have hyj : S[j] = y := by
        have : ∀ s' : ByteArray, s' = (⟨s.toArray⟩ : ByteArray) → ∀ h, s'[j]'h = s[i - 1] := fun s' e h => by
          subst e
          show s.toArray[j]'_ = _
          simp [hj]
        rw [hy]; exact this S hS hjs
      rw [dif_pos (by omega)] at hhit
      by_cases h13 : y = 13
      · have hl2 : lineS bad (s.drop p) = .ok ((s.drop p).take (j - p)) (s.drop (i + 1)) := by rw [hhit, if_pos (by rw [← hy]; exact h13), hj]
        have b1 : ((y.toNat : Int) == 13) = true := by rw [h13]; rfl
        have hex2 : S.extract p j = (⟨((s.drop p).take (j - p)).toArray⟩ : ByteArray) := by rw [hS, Lib.extract_eq]
        have hq : s.length - (s.drop (i + 1)).length = i + 1 := by rw [List.length_drop]; omega
        have hpj2 : ¬ j < p := by omega
        have hjn2 : ¬ n < j := by omega
        obtain ⟨X, hX⟩ : ∃ X, X = (⟨((s.drop p).take (j - p)).toArray⟩ : ByteArray) := ⟨_, rfl⟩
        rw [← hX] at hex2
        have HL := Lib.hid (And.intro hl2 (And.intro hq hX))
        have hsw := w64 hsum hi0 hi1
        have hiw := w64 rfl hi2' hi3
        have hjw := w64 hji hj0 hj1
        clear c1 hi hcut hS hn hp hl hlen hi2 hdec hno htk h10 hhit hbl hl2 h0 hm his hj hy h13 hq hX hsum hi1 hi2' hi3 hj1
        go_enter Tryd.func39, Tryd.ntmps39
        go_wp2_with (first
          | (go_at_call 62; go_must (refine (C1.out _).mono ?_); rintro e w' ⟨rfl, rfl⟩))
        go_ret3
        refine ⟨?_, rfl⟩
        rw [HL.out.1]
        unfold RLinePost
        simp only
        rw [HL.out.2.1, ← HL.out.2.2]
        rfl
      · have hl2 : lineS bad (s.drop p) = .err bad := by rw [hhit, if_neg (by rw [← hy]; exact h13)]
        have HL := Lib.hid hl2
        have b1 : ((y.toNat : Int) == 13) = false := by
          rw [beq_eq_false_iff_ne]; intro h
          exact h13 (UInt8.toNat_inj.1 (by simpa using (by omega : y.toNat = 13)))
        have hsw := w64 hsum hi0 hi1
        have hiw := w64 rfl hi2' hi3
        have hjw := w64 hji hj0 hj1
        clear c1 hi hcut hS hn hp hl hlen hi2 hdec hno htk h10 hhit hbl hl2 h0 hm his hj hy h13 hsum hi1 hi2' hi3 hj1
        go_enter Tryd.func39, Tryd.ntmps39
        go_wp2_with (first
          | (go_at_call 62; go_must (refine (C1.out _).mono ?_); rintro e w' ⟨rfl, rfl⟩))
        go_ret3
        refine ⟨?_, rfl⟩
        rw [HL.out]
        unfold RLinePost
        simp only
        rw [if_neg (by have := HS.out.2.2; omega)]
        exact ⟨i + 1, by omega, rfl⟩
end Go.Proofs.YtojemdggbcklkaaDoor.WireR

/- ref.lines: the reference's header lines. -/
namespace Go.Proofs.YtojemdggbcklkaaDoor.WireR
open Go.RowKit Go.Proofs.YtojemdggbcklkaaDoor.Mem Go.Proofs.YtojemdggbcklkaaDoor.Wire Go.Proofs.YtojemdggbcklkaaDoor.Strs Go.Proofs.YtojemdggbcklkaaDoor.Heads
set_option linter.unusedVariables false
set_option linter.unusedSimpArgs false
set_option maxRecDepth 4000

theorem lineS_err2 {bad er : Nat} {t : Bytes} (h : lineS bad t = .err er) : er = 283 ∨ er = bad := by
  unfold lineS at h
  cases hc : cutL 10 t with
  | none => rw [hc] at h; injection h with h; exact .inl h.symm
  | some p =>
    obtain ⟨a, b'⟩ := p
    rw [hc] at h
    simp only at h
    cases hi : inner a with
    | none => rw [hi] at h; injection h with h; exact .inr h.symm
    | some c' => rw [hi] at h; cases h
structure RState (w wr : World) (s : List UInt8) (bad p : Nat) (v : Value) (q : Nat) (hs : List HD) : Prop where
  own : wr.ownsRow w.heap.size 58 2 v hs.length (hs.flatMap HD.cells)
  fr : Below w.heap.size w wr
  eq : fieldsS bad (s.drop p) = (fieldsS bad (s.drop q)).map (hs ++ ·)
  ge : hs.length + p ≤ q
  le : q ≤ s.length
def RLinesPost (w : World) (s : List UInt8) (r : Res (List HD)) (e : Ending) (w' : World) : Prop :=
  Below w.heap.size w w' ∧ match r with
  | .ok hs b => ∃ A k, e = .returned (.tuple #[.slice A hs.length k, .int .i64 ((s.length - b.length : Nat) : Int), .int .i64 0]) ∧ w'.ownsRow w.heap.size 58 2 (.slice A hs.length k) hs.length (hs.flatMap HD.cells)
  | .err er => e = .returned (.tuple #[.slice none 0 0, .int .i64 0, .int .i64 (er : Int)])

set_option maxHeartbeats 8000000 in
theorem rlines_any (s : List UInt8) (p : Nat) (w : World) (hp : p ≤ s.length) (hl : s.length ≤ 65536) (bad : Nat) (hbad : 280 ≤ bad ∧ bad ≤ 282) :
    Calls Tryd.prog 41 #[.string ⟨s.toArray⟩, .int .i64 (p : Int), .int .i64 (bad : Int)] w (RLinesPost w s (fieldsS bad (s.drop p))) := by
  obtain ⟨S, hS⟩ : ∃ S, S = (⟨s.toArray⟩ : ByteArray) := ⟨_, rfl⟩
  have c0 := fun q h W => rline_any s q W h (by omega) bad hbad
  rw [← hS] at c0 ⊢
  have C0 := Lib.hid c0
  have HB := Lib.hid (And.intro hbad (And.intro hp hl))
  clear c0 hbad hp hl hS
  go_enter Tryd.func41, Tryd.ntmps41
  go_wp2
  go_loopw [1, 9] (fun a v wr => ∃ (q : Nat) (hs : List HD) (m : Nat) (A : Option Addr) (k : Nat), a = .int .i64 q ∧ v = .slice A m k ∧ m = hs.length ∧ RState w wr s bad p (.slice A m k) q hs) (fun a _ _ => s.length - (intOf a).toNat)
  case atStart => exact ⟨p, [], 0, none, 0, rfl, rfl, rfl, ⟨⟨rfl, .inl ⟨rfl, rfl⟩⟩, gr w, by cases fieldsS bad (s.drop p) <;> rfl, by simp, HB.out.2.1⟩⟩
  case round =>
    obtain ⟨q, hs, m, A, k, rfl, rfl, hm, FS⟩ := hrel
    replace FS := Lib.hid (And.intro hm FS)
    clear hm
    have c1 := C0.out q FS.out.2.le wr
    cases hl : lineS bad (s.drop q) with
    | err er =>
      rw [hl] at c1
      have hf : fieldsS bad (s.drop q) = .err er := by rw [fieldsS_eq, hl]
      have HF := Lib.hid hf
      unfold RLinePost at c1
      simp only at c1
      by_cases h3 : er = 283
      · simp only [if_pos h3] at c1
        have C1 := Lib.hid c1
        have HE := Lib.hid h3
        clear c1 hl hf h3
        go_wp2_with (first
          | (go_at_call 39; go_must (refine (C1.out).mono ?_); rintro e w1 ⟨rfl, rfl⟩))
        go_ret3
        unfold RLinesPost
        rw [FS.out.2.eq, HF.out, HE.out]
        exact ⟨FS.out.2.fr, rfl⟩
      · simp only [if_neg h3] at c1
        have C1 := Lib.hid c1
        have HE := Lib.hid ((lineS_err2 hl).resolve_left h3)
        have c2 := fun W => rheader_any [] W (by simp)
        unfold FieldPost at c2
        simp only [show hdrOf [] = none from rfl] at c2
        have C2 := Lib.hid c2
        clear c1 hl hf h3 c2
        go_wp2_with (first
          | (go_at_call 39; go_must (refine (C1.out).mono ?_); rintro e w1 ⟨⟨j, hj0, rfl⟩, rfl⟩; have b0 : ((j : Int) == 0) = false := by rw [beq_eq_false_iff_ne]; omega)
          | (go_at_call 64; go_must (refine (C2.out _).mono ?_); rintro e w2 hp2; obtain ⟨rfl, hb2⟩ := hp2; have H2 := Lib.hid hb2; clear hb2)
          | ((with_reducible show wpList _ _ _ (⟨some 13, _, _, _, _, _⟩ :: _) _ _); go_must (refine wpList_allocB AH rfl rfl w2.heap.size rfl ?_); intro w3 hB3 hb3 hz3; have H3 := Lib.hid (And.intro hB3 hb3); clear hB3 hb3 hz3)
          | ((with_reducible show wpList _ _ _ (⟨none, _, _, _, _, _⟩ :: _) _ _); go_must (refine wpList_storeB AH rfl (.tmp 13) (.tmp 34) rfl w2.heap.size 0 rfl [.string ⟨#[]⟩, .string ⟨#[]⟩] rfl rfl _ _ H3.out.1 (by simp) (by simp [Value.oneCell']) ?_); intro w4 hB4 hg4 hz4; have H4 := Lib.hid (And.intro hB4 (And.intro hg4 hz4)); clear hB4 hg4 hz4))
        go_ret3
        unfold RLinesPost
        rw [FS.out.2.eq, HF.out, HE.out]
        have B4 := (gt H2.out H3.out.2).grown H4.out.2.1 (by have := H2.out.size; have := H3.out.2.size; omega) (fun k hk => by injection hk with hk; have := H2.out.size; omega)
        exact ⟨FS.out.2.fr.trans (B4.mono FS.out.2.fr.size), rfl⟩
    | ok x b =>
      rw [hl] at c1
      unfold RLinePost at c1
      simp only at c1
      obtain ⟨u, hu⟩ := lineS_suf hl
      have hbs := drop_suf hu FS.out.2.le
      have hbl := lineS_len hl
      rw [List.length_drop] at hbl
      obtain ⟨q2, hq2⟩ : ∃ q2, q2 = s.length - b.length := ⟨_, rfl⟩
      rw [← hq2] at hbs c1
      have hqq : q < q2 := by have := FS.out.2.le; omega
      have hq2n : q2 ≤ s.length := by omega
      have hf := fieldsS_eq bad (s.drop q)
      rw [hl] at hf
      simp only at hf
      have hxl : x.length ≤ 65536 := by
        have h2 : x.length ≤ (s.drop q).length := lineS_le hl
        rw [List.length_drop] at h2
        have := HB.out.2.2
        omega
      obtain ⟨sx, hsx⟩ : ∃ sx, sx = (⟨x.toArray⟩ : ByteArray) := ⟨_, rfl⟩
      rw [← hsx] at c1
      have C1 := Lib.hid c1
      have HQ := Lib.hid (And.intro hq2 (And.intro hqq (And.intro hq2n hbs)))
      have b0 : ((q2 : Int) == 0) = false := by rw [beq_eq_false_iff_ne]; omega
      clear c1 hl hu hbl hq2 hqq hq2n
      by_cases hx : x = []
      · rw [if_pos hx] at hf
        have HF := Lib.hid hf
        have hem : sx.toList.isEmpty = true := by rw [hsx, hx, ByteArray.toList_eq]; rfl
        clear hf hx hsx hbs hxl
        go_wp2_with (first
          | (go_at_call 39; go_must (refine (C1.out).mono ?_); rintro e w1 ⟨rfl, rfl⟩))
        go_ret3
        unfold RLinesPost
        rw [FS.out.2.eq, HF.out]
        refine ⟨FS.out.2.fr, A, k, ?_, ?_⟩
        · simp only [List.append_nil]; rw [← FS.out.1, ← HQ.out.1]; rfl
        · simp only [List.append_nil]; rw [← FS.out.1]
          have := FS.out.2.own
          rw [← FS.out.1] at this
          exact this
      · rw [if_neg hx] at hf
        have hem : sx.toList.isEmpty = false := by rw [hsx, ByteArray.toList_eq]; cases x with | nil => exact absurd rfl hx | cons a r => rfl
        have c2 := fun W => rheader_any x W (by omega)
        rw [← hsx] at c2
        unfold FieldPost at c2
        cases hh : hdrOf x with
        | none =>
          rw [hh] at hf
          simp only [hh] at c2
          have HF := Lib.hid hf
          have C2 := Lib.hid c2
          clear hf hx hsx hbs hxl c2 hh
          go_wp2_with (first
            | (go_at_call 39; go_must (refine (C1.out).mono ?_); rintro e w1 ⟨rfl, rfl⟩)
            | (go_at_call 64; go_must (refine (C2.out _).mono ?_); rintro e w2 hp2; obtain ⟨rfl, hb2⟩ := hp2; have H2 := Lib.hid hb2; clear hb2)
            | ((with_reducible show wpList _ _ _ (⟨some 13, _, _, _, _, _⟩ :: _) _ _); go_must (refine wpList_allocB AH rfl rfl w2.heap.size rfl ?_); intro w3 hB3 hb3 hz3; have H3 := Lib.hid (And.intro hB3 hb3); clear hB3 hb3 hz3)
            | ((with_reducible show wpList _ _ _ (⟨none, _, _, _, _, _⟩ :: _) _ _); go_must (refine wpList_storeB AH rfl (.tmp 13) (.tmp 34) rfl w2.heap.size 0 rfl [.string ⟨#[]⟩, .string ⟨#[]⟩] rfl rfl _ _ H3.out.1 (by simp) (by simp [Value.oneCell']) ?_); intro w4 hB4 hg4 hz4; have H4 := Lib.hid (And.intro hB4 (And.intro hg4 hz4)); clear hB4 hg4 hz4))
          go_ret3
          unfold RLinesPost
          rw [FS.out.2.eq, HF.out]
          have B4 := (gt H2.out H3.out.2).grown H4.out.2.1 (by have := H2.out.size; have := H3.out.2.size; omega) (fun k hk => by injection hk with hk; have := H2.out.size; omega)
          exact ⟨FS.out.2.fr.trans (B4.mono FS.out.2.fr.size), rfl⟩
        | some hd =>
          rw [hh] at hf
          simp only [hh] at c2
          obtain ⟨hn, hv⟩ := hd
          obtain ⟨sn, hsn⟩ : ∃ x, x = (⟨hn.toArray⟩ : ByteArray) := ⟨_, rfl⟩
          obtain ⟨sv, hsv⟩ : ∃ x, x = (⟨hv.toArray⟩ : ByteArray) := ⟨_, rfl⟩
          have hcs : HD.cells (hn, hv) = [.string sn, .string sv] := by rw [hsn, hsv]; rfl
          rw [hcs] at c2
          have HF := Lib.hid (And.intro hf hcs)
          have C2 := Lib.hid c2
          clear hf hx hsx hbs hxl c2 hh hcs hsn hsv
          go_wp2_with (first
            | (go_at_call 39; go_must (refine (C1.out).mono ?_); rintro e w1 ⟨rfl, rfl⟩)
            | (go_at_call 64; go_must (refine (C2.out _).mono ?_); rintro e w2 hp2; obtain ⟨rfl, hb2⟩ := hp2; have H2 := Lib.hid hb2; clear hb2)
            | ((with_reducible show wpList _ _ _ (⟨some 13, _, _, _, _, _⟩ :: _) _ _); go_must (refine wpList_allocB AH rfl rfl w2.heap.size rfl ?_); intro w3 hB3 hb3 hz3; have H3 := Lib.hid (And.intro hB3 hb3); clear hB3 hb3 hz3)
            | ((with_reducible show wpList _ _ _ (⟨none, _, _, _, _, _⟩ :: _) _ _); go_must (refine wpList_storeB AH rfl (.tmp 13) (.tmp 34) rfl w2.heap.size 0 rfl [.string sn, .string sv] rfl rfl _ _ H3.out.1 (by simp) (by simp [Value.oneCell']) ?_); intro w4 hB4 hg4 hz4; have H4 := Lib.hid (And.intro hB4 (And.intro hg4 hz4)); clear hB4 hg4 hz4)
            | ((with_reducible show wpList _ _ _ (⟨some 44, _, _, _, _, _⟩ :: _) _ _); go_must (refine wpList_loadB AH rfl (.tmp 13) rfl w2.heap.size 0 rfl _ _ H4.out.1 [.string sn, .string sv] (by simp [splice]) rfl ?_))
            | ((with_reducible show wpList _ _ _ (⟨some 45, _, _, _, _, _⟩ :: _) _ _); go_must (refine wpList_build1 EH rfl (.tmp 44) rfl (by simp) [.string sn, .string sv] rfl rfl w4.heap.size rfl ?_); intro w5 hB5 hb5 hz5
               have B4 := (gt H2.out H3.out.2).grown H4.out.2.1 (by have := H2.out.size; have := H3.out.2.size; omega) (fun k hk => by injection hk with hk; have := H2.out.size; omega)
               have H5 := Lib.hid (And.intro hB5 (gt B4 hb5)); clear hB5 hb5 hz5 B4)
            | ((with_reducible show wpList _ _ _ (⟨some 46, _, _, _, _, _⟩ :: _) _ _); go_must (refine wpList_app EH rfl (.tmp 43) (.tmp 45) rfl w.heap.size (.slice A m k) hs.length (hs.flatMap HD.cells) rfl (own_below' FS.out.2.own H5.out.2) (some ⟨w4.heap.size, 0, none⟩) 1 1 [.string sn, .string sv] rfl H5.out.1.rv rfl (by intro u hu; simp at hu; rcases hu with rfl | rfl <;> rfl) (by have := FS.out.2.ge; have := FS.out.2.le; have := HB.out.2.2; unfold maxLen; omega) (by have := FS.out.2.ge; have := FS.out.2.le; have := HB.out.2.2; omega) (by have := FS.out.2.fr.size; have := H5.out.2.size; omega) ?_); intro v' w6 hown6 hg6 ho6
               have B6 := below_own (H5.out.2.mono FS.out.2.fr.size) (own_below' FS.out.2.own H5.out.2) hg6 (by have := FS.out.2.fr.size; have := H5.out.2.size; omega)
               have H6 := Lib.hid (And.intro hown6 B6); clear hown6 hg6 ho6 B6))
          obtain ⟨A2, k2, hv2, _⟩ := own_slice H6.out.1
          subst hv2
          have hfl : (hs ++ [(hn, hv)]).flatMap HD.cells = hs.flatMap HD.cells ++ [.string sn, .string sv] := by simp [HF.out.2]
          refine ⟨⟨q2, hs ++ [(hn, hv)], hs.length + 1, A2, k2, rfl, rfl, by simp, ?_, FS.out.2.fr.trans H6.out.2, ?_, ?_, HQ.out.2.2.1⟩, ?_⟩
          · rw [hfl, List.length_append]; exact H6.out.1
          · rw [FS.out.2.eq, HF.out.1, HQ.out.2.2.2, Res.map_map]
            congr 1
            funext z
            simp
          · have := FS.out.2.ge; have := HQ.out.2.1; simp; omega
          · have := HQ.out.2.1; have := HQ.out.2.2.1; simp [intOf]; omega
end Go.Proofs.YtojemdggbcklkaaDoor.WireR

/- named: the program's values under a name. -/

/- ref.values, named: the values under a name. (The first is as in Heads2.) -/
namespace Go.Proofs.YtojemdggbcklkaaDoor.Heads
open Go.RowKit Go.Proofs.YtojemdggbcklkaaDoor.Mem Go.Proofs.YtojemdggbcklkaaDoor.Seal
set_option linter.unusedVariables false
set_option linter.unusedSimpArgs false

def HD.ok (h : HD) : Prop := h.1.length ≤ 1048576 ∧ h.2.length ≤ 1048576
theorem flat_at' {α : Type} (f : α → List Value) (size : Nat) : ∀ (l : List α) (k j : Nat) (h : k < l.length), (∀ a ∈ l, (f a).length = size) → j < size → (l.flatMap f)[k * size + j]? = (f l[k])[j]?
  | [], k, j, h, _, _ => absurd h (by simp)
  | a :: r, 0, j, h, hf, hj => by
    have := hf a List.mem_cons_self
    simp only [Nat.zero_mul, Nat.zero_add, List.flatMap_cons, List.getElem_cons_zero]
    rw [List.getElem?_append_left (by omega)]
  | a :: r, k + 1, j, h, hf, hj => by
    have h1 := hf a List.mem_cons_self
    have h2 := flat_at' f size r k j (by simpa using h) (fun b hb => hf b (List.mem_cons_of_mem _ hb)) hj
    simp only [List.flatMap_cons, List.getElem_cons_succ]
    rw [List.getElem?_append_right (by rw [h1, Nat.add_mul]; omega), h1, ← h2]
    congr 1
    rw [Nat.add_mul]; omega

theorem E32 : Elt Tryd.prog 85 9 [.string ⟨#[]⟩] 16 := Elt.mk1 Tryd.underlying85 (by kernel_rfl) rfl
def strV (s : List UInt8) : Value := .string ⟨s.toArray⟩
set_option maxRecDepth 4000 in
set_option maxHeartbeats 1600000 in
theorem values_any (A : Option Addr) (n c : Nat) (hs : List HD) (name : List UInt8) (w : World) (hA : RV w A (hs.flatMap HD.cells)) (hn : n = hs.length) (hok : ∀ h ∈ hs, HD.ok h)
    (hl : n ≤ 1048576) (hnm : name.length ≤ 1048576) :
    Calls Tryd.prog 42 #[.slice A n c, .string ⟨name.toArray⟩] w fun e w' => ∃ v, e = .returned v ∧ w'.ownsRow w.heap.size 9 1 v (vals hs name).length ((vals hs name).map strV) ∧ Below w.heap.size w w' := by
  have HA := Lib.hid (And.intro hA (And.intro hn (And.intro hok hnm)))
  obtain ⟨sn, hsn⟩ : ∃ x, x = (⟨name.toArray⟩ : ByteArray) := ⟨_, rfl⟩
  have hni : (n : Int) ≤ 1048576 := by omega
  rw [← hsn]
  have HN := Lib.hid hsn
  clear hA hn hok hnm hsn hl
  go_enter Tryd.func42, Tryd.ntmps42
  go_wp2_with fail
  go_loopw [5, 6] (fun v5 v wr => ∃ k : Nat, k ≤ n ∧ v = .int .i64 k ∧ wr.ownsRow w.heap.size 9 1 v5 (vals (hs.take k) name).length ((vals (hs.take k) name).map strV) ∧ Below w.heap.size w wr) (fun _ v _ => n - (intOf v).toNat)
  case atStart => exact ⟨0, by omega, rfl, World.ownsRow_nil w _ _ _, gr w⟩
  case round =>
    obtain ⟨k, hk, rfl, hown, hb⟩ := hrel
    obtain ⟨A5, n5, c5, rfl, hn5⟩ := own_form hown
    clear hn5
    by_cases hlt : k < n
    · have hkr : k < hs.length := by have := HA.out.2.1; omega
      have h0 : (hs.flatMap HD.cells)[k * 2]? = some (.string ⟨(hs[k].1).toArray⟩) := by
        have := flat_at' HD.cells 2 hs k 0 hkr (fun _ _ => rfl) (by omega)
        simpa [HD.cells] using this
      have h1 : (hs.flatMap HD.cells)[k * 2 + 1]? = some (.string ⟨(hs[k].2).toArray⟩) := by
        have := flat_at' HD.cells 2 hs k 1 hkr (fun _ _ => rfl) (by omega)
        simpa [HD.cells] using this
      obtain ⟨hd, hhd⟩ : ∃ x, x = hs[k] := ⟨_, rfl⟩
      have hok := HA.out.2.2.1 hd (by rw [hhd]; exact List.getElem_mem _)
      have hst := vals_take (name := name) hkr
      rw [← hhd] at h0 h1 hst
      obtain ⟨ad, hA', cc0⟩ := HA.out.1 (k * 2) (List.getElem?_eq_some_iff.1 h0).1
      have hrv := HA.out.1.below hb
      have a0 : wr.cell? (ad.add (k * 2)) = some (.string ⟨hd.1.toArray⟩) := hrv.cells hA' _ _ h0
      have a1 : wr.cell? ⟨(ad.add (k * 2)).block, (ad.add (k * 2)).off + 1, none⟩ = some (.string ⟨hd.2.toArray⟩) := cell_next (n := k * 2) (j := 0) (hrv.cells hA' _ _ h1)
      have hki : (k : Int) < (n : Int) := by omega
      have hk0 : (0 : Int) ≤ (k : Int) := by omega
      have hvl : (vals (hs.take k) name).length ≤ 1048576 := by
        have h2 : (vals (hs.take k) name).length ≤ (hs.take k).length := by unfold vals; rw [List.length_map]; exact List.length_filter_le _ _
        rw [List.length_take] at h2
        omega
      have cS := Lib.hid (fun W => rsame_any hd.1 name W (by have := hok.1; omega) (by have := HA.out.2.2.2; omega))
      rw [← HN.out] at cS
      obtain ⟨vk, hvk⟩ : ∃ x, x = vals (hs.take k) name := ⟨_, rfl⟩
      rw [← hvk] at hst hown hvl
      obtain ⟨h1s, h2s⟩ := hd
      have HV := Lib.hid (And.intro hst (And.intro hown hb))
      subst hA'
      clear cc0 h0 h1 hok hst hown hb hlt hkr hhd hrv hvk
      simp only at a0 a1 cS
      cases hh : hit name (h1s, h2s) with
      | true =>
        have hdec : decide (low h1s = low name) = true := hh
        rw [hdec] at cS
        have hv1 := HV.out.1
        rw [hh, if_pos rfl] at hv1
        have HH := Lib.hid hv1
        clear hh hdec hv1
        go_upto_region 6 with (first
          | (go_at_call 43; go_must (refine (cS.out _).mono ?_); rintro e w3 ⟨rfl, hb3⟩))
        replace a1 := cell_grow a1 hb3
        have HW3 := Lib.hid (And.intro (own_belowB HV.out.2.1 hb3) (gt HV.out.2.2 hb3))
        clear hb3 a0
        go_wp2_with (first
          | ((with_reducible show wpList _ _ _ (⟨some 26, _, _, _, _, _⟩ :: _) _ _); go_must (refine wpList_one E32 rfl (.tmp 25) rfl (by decide) [strV h2s] rfl rfl w3.heap.size rfl ?_); intro w4 hB4 hb4)
          | ((with_reducible show wpList _ _ _ (⟨some 27, _, _, _, _, _⟩ :: _) _ _); go_must (refine wpList_app E32 rfl (.tmp 20) (.tmp 26) rfl w.heap.size (.slice A5 n5 c5) vk.length (vk.map strV) rfl (own_belowB HW3.out.1 hb4) (some ⟨w3.heap.size, 0, none⟩) 1 1 [strV h2s] rfl hB4.rv rfl (by intro u hu; simp at hu; subst hu; rfl) (by unfold maxLen; omega) (by omega) (gt HW3.out.2 hb4).size ?_); intro v' w5 hown5 hg5 _))
        refine ⟨⟨k + 1, by omega, by go_num, ?_, below_own (gt HW3.out.2 hb4) (own_belowB HW3.out.1 hb4) hg5 (gt HW3.out.2 hb4).size⟩, by simp [intOf]; omega⟩
        rw [HH.out, List.length_append, List.map_append]
        exact hown5
      | false =>
        have hdec : decide (low h1s = low name) = false := hh
        rw [hdec] at cS
        have hv1 := HV.out.1
        rw [hh, if_neg (by decide), List.append_nil] at hv1
        have HH := Lib.hid hv1
        clear hh hdec hv1
        go_wp2_with (first
          | (go_at_call 43; go_must (refine (cS.out _).mono ?_); rintro e w3 ⟨rfl, hb3⟩))
        exact ⟨⟨k + 1, by omega, by go_num, by rw [HH.out]; exact own_belowB HV.out.2.1 hb3, gt HV.out.2.2 hb3⟩, by simp [intOf]; omega⟩
    · obtain rfl : k = n := by omega
      rw [List.take_of_length_le (by have := HA.out.2.1; omega)] at hown
      have HF := Lib.hid (And.intro hown hb)
      have hkk : ¬ (k : Int) < (k : Int) := by omega
      clear hown hb hlt
      go_wp2_with fail
      go_ret
      exact ⟨_, rfl, HF.out.1, HF.out.2⟩

end Go.Proofs.YtojemdggbcklkaaDoor.Heads
namespace Go.Proofs.YtojemdggbcklkaaDoor.Heads
open Go.RowKit Go.Proofs.YtojemdggbcklkaaDoor.Mem Go.Proofs.YtojemdggbcklkaaDoor.Seal
set_option linter.unusedVariables false
set_option linter.unusedSimpArgs false
set_option maxRecDepth 4000 in
set_option maxHeartbeats 1600000 in
theorem named_any (A : Option Addr) (n c : Nat) (hs : List HD) (name : List UInt8) (w : World) (hA : RV w A (hs.flatMap HD.cells)) (hn : n = hs.length) (hok : ∀ h ∈ hs, HD.ok h)
    (hl : n ≤ 1048576) (hnm : name.length ≤ 1048576) :
    Calls Tryd.prog 54 #[.slice A n c, .string ⟨name.toArray⟩] w fun e w' => ∃ v, e = .returned v ∧ w'.ownsRow w.heap.size 9 1 v (vals hs name).length ((vals hs name).map strV) ∧ Below w.heap.size w w' := by
  have HA := Lib.hid (And.intro hA (And.intro hn (And.intro hok hnm)))
  obtain ⟨sn, hsn⟩ : ∃ x, x = (⟨name.toArray⟩ : ByteArray) := ⟨_, rfl⟩
  have hni : (n : Int) ≤ 1048576 := by omega
  rw [← hsn]
  have HN := Lib.hid hsn
  clear hA hn hok hnm hsn hl
  go_enter Tryd.func54, Tryd.ntmps54
  go_wp2_with fail
  go_loopw [5, 10] (fun v5 v wr => ∃ k : Nat, k ≤ n ∧ v = .int .i64 k ∧ wr.ownsRow w.heap.size 9 1 v5 (vals (hs.take k) name).length ((vals (hs.take k) name).map strV) ∧ Below w.heap.size w wr) (fun _ v _ => n - (intOf v).toNat)
  case atStart => exact ⟨0, by omega, rfl, World.ownsRow_nil w _ _ _, gr w⟩
  case round =>
    obtain ⟨k, hk, rfl, hown, hb⟩ := hrel
    obtain ⟨A5, n5, c5, rfl, hn5⟩ := own_form hown
    clear hn5
    by_cases hlt : k < n
    · have hkr : k < hs.length := by have := HA.out.2.1; omega
      have h0 : (hs.flatMap HD.cells)[k * 2]? = some (.string ⟨(hs[k].1).toArray⟩) := by
        have := flat_at' HD.cells 2 hs k 0 hkr (fun _ _ => rfl) (by omega)
        simpa [HD.cells] using this
      have h1 : (hs.flatMap HD.cells)[k * 2 + 1]? = some (.string ⟨(hs[k].2).toArray⟩) := by
        have := flat_at' HD.cells 2 hs k 1 hkr (fun _ _ => rfl) (by omega)
        simpa [HD.cells] using this
      obtain ⟨hd, hhd⟩ : ∃ x, x = hs[k] := ⟨_, rfl⟩
      have hok := HA.out.2.2.1 hd (by rw [hhd]; exact List.getElem_mem _)
      have hst := vals_take (name := name) hkr
      rw [← hhd] at h0 h1 hst
      obtain ⟨ad, hA', cc0⟩ := HA.out.1 (k * 2) (List.getElem?_eq_some_iff.1 h0).1
      have hrv := HA.out.1.below hb
      have a0 : wr.cell? (ad.add (k * 2)) = some (.string ⟨hd.1.toArray⟩) := hrv.cells hA' _ _ h0
      have a1 : wr.cell? ⟨(ad.add (k * 2)).block, (ad.add (k * 2)).off + 1, none⟩ = some (.string ⟨hd.2.toArray⟩) := cell_next (n := k * 2) (j := 0) (hrv.cells hA' _ _ h1)
      have hki : (k : Int) < (n : Int) := by omega
      have hk0 : (0 : Int) ≤ (k : Int) := by omega
      have hvl : (vals (hs.take k) name).length ≤ 1048576 := by
        have h2 : (vals (hs.take k) name).length ≤ (hs.take k).length := by unfold vals; rw [List.length_map]; exact List.length_filter_le _ _
        rw [List.length_take] at h2
        omega
      have cS := Lib.hid (fun W => same_any hd.1 name W (by have := hok.1; omega) (by have := HA.out.2.2.2; omega))
      rw [← HN.out] at cS
      obtain ⟨vk, hvk⟩ : ∃ x, x = vals (hs.take k) name := ⟨_, rfl⟩
      rw [← hvk] at hst hown hvl
      obtain ⟨h1s, h2s⟩ := hd
      have HV := Lib.hid (And.intro hst (And.intro hown hb))
      subst hA'
      clear cc0 h0 h1 hok hst hown hb hlt hkr hhd hrv hvk
      simp only at a0 a1 cS
      go_upto_region 5 with fail
      obtain ⟨w2, hw2⟩ : ∃ x, x = wr.alloc (.cells #[.string ⟨h1s.toArray⟩, .string ⟨h2s.toArray⟩] 58) := ⟨_, rfl⟩
      rw [← hw2]
      have hb2 : Below wr.heap.size wr w2 := hw2 ▸ ga (gr wr) _
      have hB2 : Blk w2 wr.heap.size 58 [.string ⟨h1s.toArray⟩, .string ⟨h2s.toArray⟩] := hw2 ▸ Blk.new wr _ _
      have HW2 := Lib.hid (And.intro (gt HV.out.2.2 hb2) (And.intro (own_belowB HV.out.2.1 hb2) hB2))
      generalize wr.heap.size = g7 at *
      clear a0 a1 hb2 hB2 hw2
      have d0 := HW2.out.2.2.cell 0
      simp only [List.getElem?_cons_zero] at d0
      cases hh : hit name (h1s, h2s) with
      | true =>
        have hdec : decide (low h1s = low name) = true := hh
        rw [hdec] at cS
        have hv1 := HV.out.1
        rw [hh, if_pos rfl] at hv1
        have HH := Lib.hid hv1
        clear hh hdec hv1
        go_upto_region 6 with (first
          | (go_at_call 56; go_must (refine (cS.out _).mono ?_); rintro e w3 ⟨rfl, hb3⟩))
        have d1 := (HW2.out.2.2.grow hb3).cell 1
        simp only [List.getElem?_cons_zero, List.getElem?_cons_succ] at d1
        have HW3 := Lib.hid (And.intro (own_belowB HW2.out.2.1 hb3) (gt HW2.out.1 hb3))
        clear hb3 d0
        go_wp2_with (first
          | ((with_reducible show wpList _ _ _ (⟨some 21, _, _, _, _, _⟩ :: _) _ _); go_must (refine wpList_one E32 rfl (.tmp 20) rfl (by decide) [strV h2s] rfl rfl w3.heap.size rfl ?_); intro w4 hB4 hb4)
          | ((with_reducible show wpList _ _ _ (⟨some 22, _, _, _, _, _⟩ :: _) _ _); go_must (refine wpList_app E32 rfl (.tmp 18) (.tmp 21) rfl w.heap.size (.slice A5 n5 c5) vk.length (vk.map strV) rfl (own_belowB HW3.out.1 hb4) (some ⟨w3.heap.size, 0, none⟩) 1 1 [strV h2s] rfl hB4.rv rfl (by intro u hu; simp at hu; subst hu; rfl) (by unfold maxLen; omega) (by omega) (gt HW3.out.2 hb4).size ?_); intro v' w5 hown5 hg5 _))
        refine ⟨⟨k + 1, by omega, by go_num, ?_, below_own (gt HW3.out.2 hb4) (own_belowB HW3.out.1 hb4) hg5 (gt HW3.out.2 hb4).size⟩, by simp [intOf]; omega⟩
        rw [HH.out, List.length_append, List.map_append]
        exact hown5
      | false =>
        have hdec : decide (low h1s = low name) = false := hh
        rw [hdec] at cS
        have hv1 := HV.out.1
        rw [hh, if_neg (by decide), List.append_nil] at hv1
        have HH := Lib.hid hv1
        clear hh hdec hv1
        go_wp2_with (first
          | (go_at_call 56; go_must (refine (cS.out _).mono ?_); rintro e w3 ⟨rfl, hb3⟩))
        exact ⟨⟨k + 1, by omega, by go_num, by rw [HH.out]; exact own_belowB HW2.out.2.1 hb3, gt HW2.out.1 hb3⟩, by simp [intOf]; omega⟩
    · obtain rfl : k = n := by omega
      rw [List.take_of_length_le (by have := HA.out.2.1; omega)] at hown
      have HF := Lib.hid (And.intro hown hb)
      have hkk : ¬ (k : Int) < (k : Int) := by omega
      clear hown hb hlt
      go_wp2_with fail
      go_ret
      exact ⟨_, rfl, HF.out.1, HF.out.2⟩

end Go.Proofs.YtojemdggbcklkaaDoor.Heads

/- size: a chunk's number. (Printed by mkwsize.py.) -/
namespace Go.Proofs.YtojemdggbcklkaaDoor.WireR
open Go.RowKit Go.Proofs.YtojemdggbcklkaaDoor.Mem Go.Proofs.YtojemdggbcklkaaDoor.Wire Go.Proofs.YtojemdggbcklkaaDoor.Strs Go.Proofs.YtojemdggbcklkaaDoor.Heads
set_option linter.unusedVariables false
set_option linter.unusedSimpArgs false
set_option maxRecDepth 4000

theorem hex_at (c : UInt8) : Lib.indexByte (⟨#[48, 49, 50, 51, 52, 53, 54, 55, 56, 57, 97, 98, 99, 100, 101, 102]⟩ : ByteArray).data.toList (lowB c) = if hexV c.toNat = 16 then -1 else (hexV c.toNat : Int) := by
  have h3 : ∀ c : UInt8, ((List.range 256).all fun n => Lib.indexByte (⟨#[48, 49, 50, 51, 52, 53, 54, 55, 56, 57, 97, 98, 99, 100, 101, 102]⟩ : ByteArray).data.toList (lowB (UInt8.ofNat n)) == if hexV n = 16 then -1 else (hexV n : Int)) = true := fun _ => by decide +kernel
  have h2 := List.all_eq_true.1 (h3 c) c.toNat (List.mem_range.2 c.toNat_lt)
  simpa using h2
theorem hexV_lt (c : Nat) : hexV c ≤ 16 := by unfold hexV; repeat' split
                                              all_goals omega
theorem hexS_step {l : List UInt8} {k : Nat} (h : k < l.length) : hexS (l.take (k + 1)) = hexS (l.take k) * 16 + hexV l[k].toNat := by
  unfold hexS
  rw [List.take_succ_eq_append_getElem h, List.foldl_append]
  rfl
theorem hexS_lt : ∀ (k : Nat) (l : List UInt8), k ≤ l.length → (l.take k).all hexB = true → hexS (l.take k) < 16 ^ k
  | 0, l, _, _ => by simp [hexS]
  | k + 1, l, h, ha => by
    rw [all_step (by omega), Bool.and_eq_true] at ha
    have ih := hexS_lt k l (by omega) ha.1
    have hx := ha.2
    unfold hexB at hx
    have h1 := hexV_lt (l[k]'(by omega)).toNat
    have h2 : hexV (l[k]'(by omega)).toNat ≠ 16 := by simpa using hx
    rw [hexS_step (by omega), Nat.pow_succ]
    omega
def SizePost (r : Option Nat) (e : Ending) : Prop :=
  match r with
  | none => e = .returned (.tuple #[.int .i64 0, .bool false])
  | some n => e = .returned (.tuple #[.int .i64 (n : Int), .bool true])
theorem size_none {c : Bytes} (h : cutL 59 c = none) : sizeS c = if 1 ≤ c.length ∧ c.length ≤ 8 ∧ c.all hexB = true then some (hexS c) else none := by unfold sizeS; rw [h]
theorem size_some {c d x : Bytes} (h : cutL 59 c = some (d, x)) : sizeS c = if 1 ≤ d.length ∧ d.length ≤ 8 ∧ d.all hexB = true ∧ x.all valB = true then some (hexS d) else none := by unfold sizeS; rw [h]

theorem w64b {x y : Int} (e : x = y) (h0 : 0 ≤ y) (h1 : y ≤ 1152921504606846976) : wrap64 x = y := by
  subst e
  unfold wrap64
  omega
set_option maxHeartbeats 4000000 in
theorem size_any (l : List UInt8) (w : World) (hl : l.length ≤ 1073741824) :
    Calls Tryd.prog 57 #[.string ⟨l.toArray⟩] w fun e w' => SizePost (sizeS l) e ∧ w = w' := by
  obtain ⟨n, hn⟩ : ∃ n, n = l.length := ⟨_, rfl⟩
  obtain ⟨s, hs⟩ : ∃ s, s = (⟨l.toArray⟩ : ByteArray) := ⟨_, rfl⟩
  have hsz : s.size = n := by rw [hs, hn]; simp [ByteArray.size]
  have hni : (n : Int) ≤ 1073741824 := by omega
  obtain ⟨i, hi⟩ : ∃ i, i = Lib.indexByte l 59 := ⟨_, rfl⟩
  have c1 := fun w => Tryd.strings_IndexByte ⟨l.toArray⟩ 59 w
  rw [show (Lib.indexByte (⟨l.toArray⟩ : ByteArray).data.toList (59 : Int).toNat.toUInt8) = i from hi.symm] at c1
  rw [← hs] at c1 ⊢
  have C1 := Lib.hid c1
  clear c1
  cases hcut : cutL 59 l with
  | none =>
    have d0 : decide (0 ≤ i) = false := by rw [hi, indexByte_cut, hcut]; rfl
    have d1 : ¬ 0 ≤ i := of_decide_eq_false d0
    obtain ⟨d, hdl⟩ : ∃ d, d = l := ⟨_, rfl⟩
    have HD := Lib.hid (And.intro (by rw [hdl]; exact hn : n = d.length) (by rw [hdl]; exact hs : s = (⟨d.toArray⟩ : ByteArray)))
    have hp := size_none hcut
    rw [← hn] at hp
    have HP := Lib.hid (by rw [hp, hdl] : sizeS l = if 1 ≤ n ∧ n ≤ 8 ∧ d.all hexB = true then some (hexS d) else none)
    clear hp hcut hi hn hs hl hdl
    by_cases hlen : 1 ≤ n ∧ n ≤ 8
    · have b1 : decide ((n : Int) < 1) = false := by rw [decide_eq_false_iff_not]; omega
      have b2 : decide ((8 : Int) < (n : Int)) = false := by rw [decide_eq_false_iff_not]; omega
      have HL := Lib.hid hlen
      clear hlen
      go_enter Tryd.func57, Tryd.ntmps57
      go_wp2_with (first
        | (go_at_call 48; go_must (refine (C1.out _).mono ?_); rintro e w' ⟨rfl, hw'⟩; rw [hw']; clear hw' w'))
      go_loopw [5, 6] (fun a v wr => ∃ k : Nat, k ≤ n ∧ v = .int .i64 k ∧ a = .int .i64 ((hexS (d.take k) : Nat) : Int) ∧ (d.take k).all hexB = true ∧ wr = w) (fun _ v _ => n - (intOf v).toNat)
      case atStart => exact ⟨0, by omega, rfl, rfl, rfl, rfl⟩
      case round =>
        obtain ⟨k, hk, rfl, rfl, hall, rfl⟩ := hrel
        obtain ⟨V, hV⟩ : ∃ V, V = hexS (d.take k) := ⟨_, rfl⟩
        rw [← hV]
        by_cases hlt : k < n
        · have hkd : k < d.length := by have := HD.out.1; omega
          obtain ⟨x, hx⟩ : ∃ x, x = d[k] := ⟨_, rfl⟩
          have hks : k < s.size := by omega
          have hsx : s[k] = x := by
            have : ∀ s' : ByteArray, s' = (⟨d.toArray⟩ : ByteArray) → ∀ h, s'[k]'h = d[k] := fun s' e h => by subst e; rfl
            rw [hx]; exact this s HD.out.2 hks
          have hVlt : V < 4294967296 := by
            have h1 := hexS_lt k d (by omega) hall
            have h2 : 16 ^ k ≤ 16 ^ 8 := Nat.pow_le_pow_right (by decide) (by have := HL.out.2; omega)
            rw [hV]
            exact Nat.lt_of_lt_of_le h1 h2
          obtain ⟨y, hy⟩ : ∃ y, y = (lowB x).toNat := ⟨_, rfl⟩
          have c4 := fun W => small_any x W
          rw [← hy] at c4
          have c5 := fun W => Tryd.strings_IndexByte ⟨#[48, 49, 50, 51, 52, 53, 54, 55, 56, 57, 97, 98, 99, 100, 101, 102]⟩ (y : Int) W
          rw [show ((y : Int)).toNat.toUInt8 = lowB x by rw [hy, Int.toNat_natCast]; simp, hex_at] at c5
          have hst := all_step (p := hexB) hkd
          have hno := all_not (p := hexB) hkd
          have hsum := hexS_step hkd
          rw [← hx] at hst hno hsum
          rw [hall, Bool.true_and] at hst
          rw [← hV] at hsum
          obtain ⟨z, hz⟩ : ∃ z, z = hexV x.toNat := ⟨_, rfl⟩
          have hz16 : z ≤ 16 := hz ▸ hexV_lt _
          have hzb : hexB x = (z != 16) := by rw [hz]; rfl
          rw [← hz] at c5 hsum
          rw [hzb] at hst hno
          have C4 := Lib.hid c4
          have hki : (k : Int) < (n : Int) := by omega
          have hk0 : (0 : Int) ≤ (k : Int) := by omega
          by_cases h16 : z = 16
          · rw [if_pos h16] at c5
            have C5 := Lib.hid c5
            have hf : d.all hexB = false := hno (by rw [h16]; rfl)
            have HF := Lib.hid hf
            clear c4 c5 hst hno hsum hz hzb hz16 h16 hx hy hall hV hlt hkd hf hVlt
            go_wp2_with (first
              | (go_at_call 71; go_must (refine (C4.out _).mono ?_); rintro e w' ⟨rfl, rfl⟩)
              | (go_at_call 48; go_must (refine (C5.out _).mono ?_); rintro e w' ⟨rfl, rfl⟩))
            go_ret2
            refine ⟨?_, rfl⟩
            rw [HP.out, if_neg (by rw [HF.out]; simp)]
            rfl
          · rw [if_neg h16] at c5
            have C5 := Lib.hid c5
            have HS := Lib.hid (And.intro (hst.trans (show (z != 16) = true by simpa using h16)) hsum)
            obtain ⟨V2, hV2⟩ : ∃ V2 : Nat, V2 = V * 16 + z := ⟨_, rfl⟩
            obtain ⟨V16, hV16⟩ : ∃ V16 : Nat, V16 = V * 16 := ⟨_, rfl⟩
            have e16 : (V : Int) * 16 = (V16 : Int) := by omega
            have e2 : (V16 : Int) + (z : Int) = (V2 : Int) := by omega
            have b16 : (V16 : Int) ≤ 68719476736 := by omega
            have b22 : (V2 : Int) ≤ 68719476752 := by omega
            have b60 : (0 : Int) ≤ (V16 : Int) := by omega
            have b20 : (0 : Int) ≤ (V2 : Int) := by omega
            have bz : decide ((z : Int) < 0) = false := by rw [decide_eq_false_iff_not]; omega
            have bz' : ¬ (z : Int) < 0 := by omega
            have HV := Lib.hid hV2
            have q1 : wrap64 ((V : Int) * 16) = (V16 : Int) := w64b e16 b60 (by omega)
            have q2 : wrap64 ((V16 : Int) + (z : Int)) = (V2 : Int) := w64b e2 b20 (by exact Int.le_trans b22 (by decide))
            clear c4 c5 hst hno hsum hz hzb hz16 h16 hx hy hall hV hlt hkd hVlt hV2 hV16 e16 e2 b16 b22 b60 b20
            go_wp2_with (first
              | (go_at_call 71; go_must (refine (C4.out _).mono ?_); rintro e w' ⟨rfl, rfl⟩)
              | (go_at_call 48; go_must (refine (C5.out _).mono ?_); rintro e w' ⟨rfl, rfl⟩))
            exact ⟨⟨k + 1, by omega, by go_num, by rw [HS.out.2, ← HV.out, q2], HS.out.1, trivial⟩, by simp [intOf]; omega⟩
        · obtain rfl : k = n := by omega
          have hd : d.take k = d := List.take_of_length_le (by have := HD.out.1; omega)
          rw [hd] at hall hV
          have HF := Lib.hid (And.intro hall hV)
          clear hall hV hd hlt
          go_wp2
          go_ret2
          refine ⟨?_, rfl⟩
          rw [HP.out, if_pos ⟨HL.out.1, HL.out.2, HF.out.1⟩, ← HF.out.2]
          rfl
    · have hp2 : sizeS l = none := by rw [HP.out, if_neg (fun h => hlen ⟨h.1, h.2.1⟩)]
      have HQ := Lib.hid hp2
      clear hp2
      by_cases hl1 : n < 1
      · have b1 : decide ((n : Int) < 1) = true := by rw [decide_eq_true_iff]; omega
        clear hlen hl1
        go_enter Tryd.func57, Tryd.ntmps57
        go_wp2_with (first
          | (go_at_call 48; go_must (refine (C1.out _).mono ?_); rintro e w' ⟨rfl, hw'⟩; rw [hw']; clear hw' w'))
        go_ret2
        exact ⟨by rw [HQ.out]; rfl, rfl⟩
      · have b1 : decide ((n : Int) < 1) = false := by rw [decide_eq_false_iff_not]; omega
        have b2 : decide ((8 : Int) < (n : Int)) = true := by rw [decide_eq_true_iff]; omega
        clear hlen hl1
        go_enter Tryd.func57, Tryd.ntmps57
        go_wp2_with (first
          | (go_at_call 48; go_must (refine (C1.out _).mono ?_); rintro e w' ⟨rfl, hw'⟩; rw [hw']; clear hw' w'))
        go_ret2
        exact ⟨by rw [HQ.out]; rfl, rfl⟩
  | some ab =>
    obtain ⟨d, b⟩ := ab
    have him : i = (d.length : Int) := by rw [hi, indexByte_cut, hcut]
    have hlen := cutL_len hcut
    obtain ⟨e1, e2⟩ := ext_two hcut
    obtain ⟨m, hm⟩ : ∃ m, m = d.length := ⟨_, rfl⟩
    obtain ⟨sa, hsa⟩ : ∃ x, x = (⟨d.toArray⟩ : ByteArray) := ⟨_, rfl⟩
    obtain ⟨sb, hsb⟩ : ∃ x, x = (⟨b.toArray⟩ : ByteArray) := ⟨_, rfl⟩
    have hsaz : sa.size = m := by rw [hsa, hm]; simp [ByteArray.size]
    rw [← hs, ← hm, ← hsa] at e1
    rw [← hs, ← hm, ← hsb, ← hn] at e2
    have hbl : b.length ≤ 1073741824 := by omega
    have hmi : (m : Int) + 1 ≤ (n : Int) := by omega
    have hmn : (m : Int) ≤ 1073741824 := by omega
    have hmw : wrap64 ((m : Int) + 1) = (m : Int) + 1 := by unfold wrap64; omega
    have hnm : ¬ n < m := by clear hmw; omega
    have hnm1 : ¬ n < m + 1 := by clear hmw; omega
    obtain rfl : i = (m : Int) := by rw [him, hm]
    have hp := size_some hcut
    rw [← hm] at hp
    have d0 : decide ((0 : Int) ≤ (m : Int)) = true := by simp
    have d1 : (0 : Int) ≤ (m : Int) := Int.natCast_nonneg m
    obtain ⟨bb, hbb⟩ : ∃ x, x = b.all valB := ⟨_, rfl⟩
    have c3 := fun W => allOf_val b W hbl
    rw [← hbb, ← hsb] at c3
    rw [← hbb] at hp
    have C3 := Lib.hid c3
    have HD := Lib.hid (And.intro hm hsa)
    cases bb
    · have hp2 : sizeS l = none := by rw [hp, if_neg (fun h => Bool.noConfusion h.2.2.2)]
      have HQ := Lib.hid hp2
      clear hp hp2 c3 hbb hi him hcut hn hs hl hlen hm hsa hsb hbl
      go_enter Tryd.func57, Tryd.ntmps57
      go_wp2_with (first
        | (go_at_call 48; go_must (refine (C1.out _).mono ?_); rintro e w' ⟨rfl, hw'⟩; rw [hw']; clear hw' w')
        | (go_at_call 50; go_must (refine (C3.out _).mono ?_); rintro e w' ⟨rfl, rfl⟩))
      go_ret2
      exact ⟨by rw [HQ.out]; rfl, rfl⟩
    · have HP := Lib.hid (by rw [hp]; simp : sizeS l = if 1 ≤ m ∧ m ≤ 8 ∧ d.all hexB = true then some (hexS d) else none)
      clear hp c3 hbb hi him hcut hn hs hl hlen hm hsa hsb hbl
      by_cases hlen : 1 ≤ m ∧ m ≤ 8
      · have b1 : decide ((m : Int) < 1) = false := by rw [decide_eq_false_iff_not]; omega
        have b2 : decide ((8 : Int) < (m : Int)) = false := by rw [decide_eq_false_iff_not]; omega
        have HL := Lib.hid hlen
        clear hlen
        go_enter Tryd.func57, Tryd.ntmps57
        go_wp2_with (first
          | (go_at_call 48; go_must (refine (C1.out _).mono ?_); rintro e w' ⟨rfl, hw'⟩; rw [hw']; clear hw' w')
          | (go_at_call 50; go_must (refine (C3.out _).mono ?_); rintro e w' ⟨rfl, rfl⟩))
        go_loopw [5, 6] (fun a v wr => ∃ k : Nat, k ≤ m ∧ v = .int .i64 k ∧ a = .int .i64 ((hexS (d.take k) : Nat) : Int) ∧ (d.take k).all hexB = true ∧ wr = w) (fun _ v _ => m - (intOf v).toNat)
        case atStart => exact ⟨0, by omega, rfl, rfl, rfl, rfl⟩
        case round =>
          obtain ⟨k, hk, rfl, rfl, hall, rfl⟩ := hrel
          obtain ⟨V, hV⟩ : ∃ V, V = hexS (d.take k) := ⟨_, rfl⟩
          rw [← hV]
          by_cases hlt : k < m
          · have hkd : k < d.length := by have := HD.out.1; omega
            obtain ⟨x, hx⟩ : ∃ x, x = d[k] := ⟨_, rfl⟩
            have hks : k < sa.size := by omega
            have hsx : sa[k] = x := by
              have : ∀ s' : ByteArray, s' = (⟨d.toArray⟩ : ByteArray) → ∀ h, s'[k]'h = d[k] := fun s' e h => by subst e; rfl
              rw [hx]; exact this sa HD.out.2 hks
            have hVlt : V < 4294967296 := by
              have h1 := hexS_lt k d (by omega) hall
              have h2 : 16 ^ k ≤ 16 ^ 8 := Nat.pow_le_pow_right (by decide) (by have := HL.out.2; omega)
              rw [hV]
              exact Nat.lt_of_lt_of_le h1 h2
            obtain ⟨y, hy⟩ : ∃ y, y = (lowB x).toNat := ⟨_, rfl⟩
            have c4 := fun W => small_any x W
            rw [← hy] at c4
            have c5 := fun W => Tryd.strings_IndexByte ⟨#[48, 49, 50, 51, 52, 53, 54, 55, 56, 57, 97, 98, 99, 100, 101, 102]⟩ (y : Int) W
            rw [show ((y : Int)).toNat.toUInt8 = lowB x by rw [hy, Int.toNat_natCast]; simp, hex_at] at c5
            have hst := all_step (p := hexB) hkd
            have hno := all_not (p := hexB) hkd
            have hsum := hexS_step hkd
            rw [← hx] at hst hno hsum
            rw [hall, Bool.true_and] at hst
            rw [← hV] at hsum
            obtain ⟨z, hz⟩ : ∃ z, z = hexV x.toNat := ⟨_, rfl⟩
            have hz16 : z ≤ 16 := hz ▸ hexV_lt _
            have hzb : hexB x = (z != 16) := by rw [hz]; rfl
            rw [← hz] at c5 hsum
            rw [hzb] at hst hno
            have C4 := Lib.hid c4
            have hki : (k : Int) < (m : Int) := by omega
            have hk0 : (0 : Int) ≤ (k : Int) := by omega
            by_cases h16 : z = 16
            · rw [if_pos h16] at c5
              have C5 := Lib.hid c5
              have hf : d.all hexB = false := hno (by rw [h16]; rfl)
              have HF := Lib.hid hf
              clear c4 c5 hst hno hsum hz hzb hz16 h16 hx hy hall hV hlt hkd hf hVlt
              go_wp2_with (first
                | (go_at_call 71; go_must (refine (C4.out _).mono ?_); rintro e w' ⟨rfl, rfl⟩)
                | (go_at_call 48; go_must (refine (C5.out _).mono ?_); rintro e w' ⟨rfl, rfl⟩))
              go_ret2
              refine ⟨?_, rfl⟩
              rw [HP.out, if_neg (by rw [HF.out]; simp)]
              rfl
            · rw [if_neg h16] at c5
              have C5 := Lib.hid c5
              have HS := Lib.hid (And.intro (hst.trans (show (z != 16) = true by simpa using h16)) hsum)
              obtain ⟨V2, hV2⟩ : ∃ V2 : Nat, V2 = V * 16 + z := ⟨_, rfl⟩
              obtain ⟨V16, hV16⟩ : ∃ V16 : Nat, V16 = V * 16 := ⟨_, rfl⟩
              have e16 : (V : Int) * 16 = (V16 : Int) := by omega
              have e2 : (V16 : Int) + (z : Int) = (V2 : Int) := by omega
              have b16 : (V16 : Int) ≤ 68719476736 := by omega
              have b22 : (V2 : Int) ≤ 68719476752 := by omega
              have b60 : (0 : Int) ≤ (V16 : Int) := by omega
              have b20 : (0 : Int) ≤ (V2 : Int) := by omega
              have bz : decide ((z : Int) < 0) = false := by rw [decide_eq_false_iff_not]; omega
              have bz' : ¬ (z : Int) < 0 := by omega
              have HV := Lib.hid hV2
              have q1 : wrap64 ((V : Int) * 16) = (V16 : Int) := w64b e16 b60 (by omega)
              have q2 : wrap64 ((V16 : Int) + (z : Int)) = (V2 : Int) := w64b e2 b20 (by exact Int.le_trans b22 (by decide))
              clear c4 c5 hst hno hsum hz hzb hz16 h16 hx hy hall hV hlt hkd hVlt hV2 hV16 e16 e2 b16 b22 b60 b20
              go_wp2_with (first
                | (go_at_call 71; go_must (refine (C4.out _).mono ?_); rintro e w' ⟨rfl, rfl⟩)
                | (go_at_call 48; go_must (refine (C5.out _).mono ?_); rintro e w' ⟨rfl, rfl⟩))
              exact ⟨⟨k + 1, by omega, by go_num, by rw [HS.out.2, ← HV.out, q2], HS.out.1, trivial⟩, by simp [intOf]; omega⟩
          · obtain rfl : k = m := by omega
            have hd : d.take k = d := List.take_of_length_le (by have := HD.out.1; omega)
            rw [hd] at hall hV
            have HF := Lib.hid (And.intro hall hV)
            clear hall hV hd hlt
            go_wp2
            go_ret2
            refine ⟨?_, rfl⟩
            rw [HP.out, if_pos ⟨HL.out.1, HL.out.2, HF.out.1⟩, ← HF.out.2]
            rfl
      · have hp2 : sizeS l = none := by rw [HP.out, if_neg (fun h => hlen ⟨h.1, h.2.1⟩)]
        have HQ := Lib.hid hp2
        clear hp2
        by_cases hl1 : m < 1
        · have b1 : decide ((m : Int) < 1) = true := by rw [decide_eq_true_iff]; omega
          clear hlen hl1
          go_enter Tryd.func57, Tryd.ntmps57
          go_wp2_with (first
            | (go_at_call 48; go_must (refine (C1.out _).mono ?_); rintro e w' ⟨rfl, hw'⟩; rw [hw']; clear hw' w')
            | (go_at_call 50; go_must (refine (C3.out _).mono ?_); rintro e w' ⟨rfl, rfl⟩))
          go_ret2
          exact ⟨by rw [HQ.out]; rfl, rfl⟩
        · have b1 : decide ((m : Int) < 1) = false := by rw [decide_eq_false_iff_not]; omega
          have b2 : decide ((8 : Int) < (m : Int)) = true := by rw [decide_eq_true_iff]; omega
          clear hlen hl1
          go_enter Tryd.func57, Tryd.ntmps57
          go_wp2_with (first
            | (go_at_call 48; go_must (refine (C1.out _).mono ?_); rintro e w' ⟨rfl, hw'⟩; rw [hw']; clear hw' w')
            | (go_at_call 50; go_must (refine (C3.out _).mono ?_); rintro e w' ⟨rfl, rfl⟩))
          go_ret2
          exact ⟨by rw [HQ.out]; rfl, rfl⟩
end Go.Proofs.YtojemdggbcklkaaDoor.WireR

/- weirref28.chunk: a chunk's number. (Printed by mkwchunk.py.) -/
namespace Go.Proofs.YtojemdggbcklkaaDoor.WireR
open Go.RowKit Go.Proofs.YtojemdggbcklkaaDoor.Mem Go.Proofs.YtojemdggbcklkaaDoor.Wire Go.Proofs.YtojemdggbcklkaaDoor.Strs Go.Proofs.YtojemdggbcklkaaDoor.Heads
set_option linter.unusedVariables false
set_option linter.unusedSimpArgs false
set_option maxRecDepth 4000

theorem hex_no59 {l : Bytes} (h : l.all hexB = true) : (59 : UInt8) ∉ l := fun hm => by
  have := List.all_eq_true.1 h 59 hm
  revert this
  decide
theorem hex_low (c : Nat) : hexV c = if 48 ≤ lowN c ∧ lowN c ≤ 57 then lowN c - 48 else if 97 ≤ lowN c ∧ lowN c ≤ 102 then lowN c - 97 + 10 else 16 := by
  unfold hexV lowN
  repeat' split
  all_goals omega
theorem size_at {l : Bytes} {k : Nat} (hk : k ≤ l.length) (hall : (l.take k).all hexB = true) (hend : k = l.length ∨ 8 < k ∨ ∃ h : k < l.length, hexB l[k] = false) :
    sizeS l = if 1 ≤ k ∧ k ≤ 8 ∧ (∀ h : k < l.length, l[k] = 59) ∧ (l.drop k).all valB = true then some (hexS (l.take k)) else none := by
  have hno := hex_no59 hall
  have hge : ∀ {d x : Bytes}, cutL 59 l = some (d, x) → k ≤ d.length := fun {d x} h => by
    rcases Nat.lt_or_ge d.length k with h1 | h1
    · exfalso
      apply hno
      have e := (cutL_some h).1
      have h2 : l[d.length]? = some 59 := by rw [e, List.getElem?_append_right (Nat.le_refl _)]; simp
      have h3 : (l.take k)[d.length]? = some 59 := by rw [List.getElem?_take_of_lt h1]; exact h2
      exact List.mem_of_getElem? h3
    · exact h1
  by_cases h8 : 8 < k
  · rw [if_neg (fun h => by omega)]
    cases hc : cutL 59 l with
    | none => rw [size_none hc, if_neg (fun h => by omega)]
    | some p => obtain ⟨d, x⟩ := p; rw [size_some hc, if_neg (fun h => by have := hge hc; omega)]
  · rcases hend with h | h | ⟨h, hx⟩
    · have ht : l.take k = l := List.take_of_length_le (by omega)
      rw [ht] at hall hno ⊢
      rw [size_none (cutL_not hno)]
      have hd : l.drop k = [] := List.drop_of_length_le (by omega)
      rw [hd]
      by_cases h1 : 1 ≤ k
      · rw [if_pos ⟨by omega, by omega, hall⟩, if_pos ⟨h1, by omega, fun h => by omega, rfl⟩]
      · rw [if_neg (fun h => by omega), if_neg (fun h => h1 h.1)]
    · omega
    · have e : l = l.take k ++ l[k] :: l.drop (k + 1) := by rw [← List.drop_eq_getElem_cons h, List.take_append_drop]
      have hdk : l.drop k = l[k] :: l.drop (k + 1) := List.drop_eq_getElem_cons h
      have hlk : (l.take k).length = k := by rw [List.length_take]; omega
      by_cases h59 : l[k] = 59
      · have hc : cutL 59 l = some (l.take k, l.drop (k + 1)) := by
          have h2 := cutL_of (c := 59) (b := l.drop (k + 1)) hno
          rw [h59] at e
          rwa [← e] at h2
        rw [size_some hc, hlk, hdk, List.all_cons, h59]
        have hv : valB 59 = true := by decide
        rw [hv, Bool.true_and]
        by_cases hh : 1 ≤ k ∧ k ≤ 8 ∧ (l.drop (k + 1)).all valB = true
        · rw [if_pos ⟨hh.1, hh.2.1, hall, hh.2.2⟩, if_pos ⟨hh.1, hh.2.1, fun _ => h59, hh.2.2⟩]
        · rw [if_neg (fun h => hh ⟨h.1, h.2.1, h.2.2.2⟩), if_neg (fun h => hh ⟨h.1, h.2.1, h.2.2.2⟩)]
      · rw [if_neg (fun h2 => h59 (h2.2.2.1 h))]
        cases hc : cutL 59 l with
        | none => rw [size_none hc, if_neg (fun h2 => by rw [all_not h hx] at h2; exact absurd h2.2.2 (by simp))]
        | some p =>
          obtain ⟨d, x⟩ := p
          rw [size_some hc, if_neg]
          intro h2
          have hd := hge hc
          have e2 := (cutL_some hc).1
          rcases Nat.lt_or_ge k d.length with h3 | h3
          · have h4 : l[k]? = some d[k] := by rw [e2, List.getElem?_append_left h3, List.getElem?_eq_getElem h3]
            have h5 : l[k] = d[k] := by rw [List.getElem?_eq_getElem h] at h4; injection h4
            rw [h5] at hx
            rw [all_not h3 hx] at h2
            exact absurd h2.2.2.1 (by simp)
          · have h6 : k = d.length := by omega
            have h4 : l[k]? = some 59 := by rw [e2, h6, List.getElem?_append_right (Nat.le_refl _)]; simp
            apply h59
            rw [List.getElem?_eq_getElem h] at h4
            injection h4
def ChunkPost (r : Option Nat) (e : Ending) : Prop :=
  match r with
  | none => e = .returned (.int .i64 (-1))
  | some n => e = .returned (.int .i64 (n : Int))
theorem cp_none {r : Option Nat} {e : Ending} (h : r = none) (he : e = .returned (.int .i64 (-1))) : ChunkPost r e := by rw [h]; exact he
theorem cp_some {r : Option Nat} {n : Nat} {e : Ending} (h : r = some n) (he : e = .returned (.int .i64 (n : Int))) : ChunkPost r e := by rw [h]; exact he
theorem u8sub {y z m : Nat} (h : y = z + m) (hy : y < 256) : IntKind.u8.wrap ((y : Int) - (m : Int)) = (z : Int) := by
  simp [IntKind.wrap, IntKind.bits, IntKind.signed]; omega
theorem size_mod {y z m : Nat} (h : y = z + m) (hy : y < 256) : ((y : Int) - (m : Int)) % 256 = (z : Int) := by omega
set_option maxHeartbeats 8000000 in
theorem chunk_any (l : List UInt8) (w : World) (hl : l.length ≤ 65536) :
    Calls Tryd.prog 66 #[.string ⟨l.toArray⟩] w fun e w' => ChunkPost (sizeS l) e ∧ w = w' := by
  obtain ⟨n, hn⟩ : ∃ n, n = l.length := ⟨_, rfl⟩
  obtain ⟨s, hs⟩ : ∃ s, s = (⟨l.toArray⟩ : ByteArray) := ⟨_, rfl⟩
  have hsz : s.size = n := by rw [hs, hn]; simp [ByteArray.size]
  have hni : (n : Int) ≤ 65536 := by omega
  have HD := Lib.hid (And.intro hn (And.intro hs hl))
  rw [← hs]
  clear hn hs hl
  go_enter Tryd.func66, Tryd.ntmps66
  go_wp2
  go_loopw [3, 4] (fun a v wr => ∃ k : Nat, k ≤ n ∧ k ≤ 9 ∧ v = .int .i64 k ∧ a = .int .i64 ((hexS (l.take k) : Nat) : Int) ∧ (l.take k).all hexB = true ∧ wr = w) (fun _ v _ => n - (intOf v).toNat)
  case atStart => exact ⟨0, by omega, by omega, rfl, rfl, rfl, rfl⟩
  case round =>
    obtain ⟨k, hk, hk9, rfl, rfl, hall, rfl⟩ := hrel
    have hval : Calls Tryd.prog 79 #[.string ⟨(l.drop k).toArray⟩] wr fun e w' => e = .returned (.bool ((l.drop k).all valB)) ∧ wr = w' := rvalue_any (l.drop k) wr (by rw [List.length_drop]; have := HD.out; omega)
    obtain ⟨bv, hbv⟩ : ∃ b, b = (l.drop k).all valB := ⟨_, rfl⟩
    obtain ⟨sd, hsd⟩ : ∃ x, x = (⟨(l.drop k).toArray⟩ : ByteArray) := ⟨_, rfl⟩
    have hsl : s.extract k n = sd := by rw [HD.out.2.1, HD.out.1, ext_drop, hsd]
    rw [← hbv, ← hsd] at hval
    have HV := Lib.hid hval
    clear hval
    obtain ⟨V, hV⟩ : ∃ V, V = hexS (l.take k) := ⟨_, rfl⟩
    rw [← hV]
    have hk0 : (0 : Int) ≤ (k : Int) := by omega
    have hnk : ¬ n < k := by omega
    by_cases hlt : k < n
    · have hkl : k < l.length := by have := HD.out.1; omega
      obtain ⟨x, hx⟩ : ∃ x, x = l[k] := ⟨_, rfl⟩
      have hks : k < s.size := by omega
      have hsx : s[k] = x := by
        have : ∀ s' : ByteArray, s' = (⟨l.toArray⟩ : ByteArray) → ∀ h, s'[k]'h = l[k] := fun s' e h => by subst e; rfl
        rw [hx]; exact this s HD.out.2.1 hks
      have hki : (k : Int) < (n : Int) := by omega
      have bkn : decide ((k : Int) < (n : Int)) = true := decide_eq_true hki
      by_cases h9 : k < 9
      · have b9 : decide ((k : Int) < 9) = true := by rw [decide_eq_true_iff]; omega
        obtain ⟨y, hy⟩ : ∃ y, y = (lowB x).toNat := ⟨_, rfl⟩
        have c4 := fun W => lower_any x W
        rw [← hy] at c4
        have C4 := Lib.hid c4
        have hy2 : y = lowN x.toNat := by rw [hy, lowB_toNat]
        have hhx := hex_low x.toNat
        rw [← hy2] at hhx
        have hy256 : y < 256 := by rw [hy]; exact (lowB x).toNat_lt
        have hst := all_step (p := hexB) hkl
        have hsum := hexS_step hkl
        rw [← hx] at hst hsum
        rw [hall, Bool.true_and] at hst
        rw [← hV] at hsum
        have hVlt : V < 16 ^ 9 := by
          have h1 := hexS_lt k l (by omega) hall
          have h2 : 16 ^ k ≤ 16 ^ 9 := Nat.pow_le_pow_right (by decide) (by omega)
          rw [hV]
          exact Nat.lt_of_lt_of_le h1 h2
        have hVlt2 : V < 68719476736 := by simpa using hVlt
        clear hVlt c4
        obtain ⟨g1, hg1⟩ : ∃ b, decide ((48 : Int) ≤ (y : Int)) = b := ⟨_, rfl⟩
        obtain ⟨g2, hg2⟩ : ∃ b, decide ((y : Int) ≤ 57) = b := ⟨_, rfl⟩
        obtain ⟨g3, hg3⟩ : ∃ b, decide ((97 : Int) ≤ (y : Int)) = b := ⟨_, rfl⟩
        obtain ⟨g4, hg4⟩ : ∃ b, decide ((y : Int) ≤ 102) = b := ⟨_, rfl⟩
        obtain ⟨V16, hV16⟩ : ∃ V16 : Nat, V16 = V * 16 := ⟨_, rfl⟩
        have e16 : (V : Int) * 16 = (V16 : Int) := by omega
        have b60 : (0 : Int) ≤ (V16 : Int) := by omega
        have b16 : (V16 : Int) ≤ 1152921504606846976 := by omega
        have q1 := w64b e16 b60 b16
        by_cases hdig : 48 ≤ y ∧ y ≤ 57
        · rw [if_pos hdig] at hhx
          obtain rfl : g1 = true := by rw [← hg1, decide_eq_true_iff]; clear q1; omega
          obtain rfl : g2 = true := by rw [← hg2, decide_eq_true_iff]; clear q1; omega
          obtain ⟨z, hz⟩ : ∃ z, z = y - 48 := ⟨_, rfl⟩
          rw [← hz] at hhx
          have hzy : y = z + 48 := by clear q1; omega
          have hz16 : z < 16 := by clear q1; omega
          have hhex : hexB x = true := by unfold hexB; rw [hhx]; simp; clear q1; omega
          rw [hhx] at hsum
          have HS := Lib.hid (And.intro (hst.trans hhex) hsum)
          obtain ⟨V2, hV2⟩ : ∃ V2 : Nat, V2 = V * 16 + z := ⟨_, rfl⟩
          have e2 : (V16 : Int) + (z : Int) = (V2 : Int) := by clear q1; omega
          have b20 : (0 : Int) ≤ (V2 : Int) := by clear q1; omega
          have b22 : (V2 : Int) ≤ 1152921504606846976 := by clear q1; omega
          have q2 := w64b e2 b20 b22
          have q3 : IntKind.u8.wrap ((y : Int) - 48) = (z : Int) := u8sub (m := 48) hzy hy256
          have q4 : ((y : Int) - 48) % 256 = (z : Int) := size_mod (m := 48) hzy hy256
          have HQ := Lib.hid (And.intro hV2 (And.intro hlt h9))
          clear hg3 hg4 hy hy2 hhx hy256 hst hsum hVlt2 hV16 e16 b60 b16 hzy hz16 hhex hV2 e2 b20 b22 hV hbv hsd hsl hx hdig hz hall hlt hkl h9
          go_wp2_with (first
            | (go_at_call 65; go_must (refine (C4.out _).mono ?_); rintro e w' ⟨rfl, rfl⟩))
          exact ⟨⟨k + 1, by have := HQ.out.2; omega, by have := HQ.out.2; omega, by go_num, by rw [HS.out.2, ← HQ.out.1, q2], HS.out.1, trivial⟩, by simp [intOf]; omega⟩
        · rw [if_neg hdig] at hhx
          by_cases hlet : 97 ≤ y ∧ y ≤ 102
          · rw [if_pos hlet] at hhx
            obtain rfl : g3 = true := by rw [← hg3, decide_eq_true_iff]; clear q1; omega
            obtain rfl : g4 = true := by rw [← hg4, decide_eq_true_iff]; clear q1; omega
            obtain rfl : g1 = true := by rw [← hg1, decide_eq_true_iff]; clear q1; omega
            obtain rfl : g2 = false := by rw [← hg2, decide_eq_false_iff_not]; clear q1; omega
            obtain ⟨z, hz⟩ : ∃ z, z = y - 97 := ⟨_, rfl⟩
            rw [← hz] at hhx
            have hzy : y = z + 97 := by clear q1; omega
            have hz16 : z < 6 := by clear q1; omega
            have hhex : hexB x = true := by unfold hexB; rw [hhx]; simp; clear q1; omega
            rw [hhx] at hsum
            have HS := Lib.hid (And.intro (hst.trans hhex) hsum)
            obtain ⟨V2, hV2⟩ : ∃ V2 : Nat, V2 = V16 + z := ⟨_, rfl⟩
            obtain ⟨V3, hV3⟩ : ∃ V3 : Nat, V3 = V2 + 10 := ⟨_, rfl⟩
            have e2 : (V16 : Int) + (z : Int) = (V2 : Int) := by clear q1; omega
            have b20 : (0 : Int) ≤ (V2 : Int) := by clear q1; omega
            have b22 : (V2 : Int) ≤ 1152921504606846976 := by clear q1; omega
            have e3 : (V2 : Int) + 10 = (V3 : Int) := by clear q1; omega
            have b30 : (0 : Int) ≤ (V3 : Int) := by clear q1; omega
            have b32 : (V3 : Int) ≤ 1152921504606846976 := by clear q1; omega
            have HQ := Lib.hid (And.intro (show V3 = V * 16 + (z + 10) by clear q1; omega) (And.intro hlt h9))
            have q2 := w64b e2 b20 b22
            have q5 := w64b e3 b30 b32
            have q3 : IntKind.u8.wrap ((y : Int) - 97) = (z : Int) := u8sub (m := 97) hzy hy256
            have q4 : ((y : Int) - 97) % 256 = (z : Int) := size_mod (m := 97) hzy hy256
            clear hy hy2 hhx hy256 hst hsum hVlt2 hV16 e16 b60 b16 hzy hz16 hhex hV2 e2 b20 b22 hV hbv hsd hsl hx hdig hlet hz hall hlt hkl h9 hV3 e3 b30 b32
            go_wp2_with (first
              | (go_at_call 65; go_must (refine (C4.out _).mono ?_); rintro e w' ⟨rfl, rfl⟩))
            exact ⟨⟨k + 1, by have := HQ.out.2; omega, by have := HQ.out.2; omega, by go_num, by rw [HS.out.2, ← HQ.out.1, q5], HS.out.1, trivial⟩, by simp [intOf]; omega⟩
          · rw [if_neg hlet] at hhx
            have hnh : hexB x = false := by unfold hexB; rw [hhx]; rfl
            have HP := Lib.hid (size_at (by omega) hall (.inr (.inr ⟨hkl, by rw [← hx]; exact hnh⟩)))
            have q1 : (g1 && g2) = false := by
              rw [← hg1, ← hg2, Bool.and_eq_false_iff, decide_eq_false_iff_not, decide_eq_false_iff_not]; clear q1; omega
            have q2 : (g3 && g4) = false := by
              rw [← hg3, ← hg4, Bool.and_eq_false_iff, decide_eq_false_iff_not, decide_eq_false_iff_not]; clear q1; omega
            have hk8 : k ≤ 8 := by omega
            clear hhx hnh hdig hlet hy hy2 hy256 hst hsum hVlt2 hV16 e16 b60 b16 h9 hlt
            cases g1 <;> cases g2 <;> cases g3 <;> cases g4 <;> first | (exact absurd q1 (by decide)) | (exact absurd q2 (by decide)) | skip
            all_goals clear q1 q2
            all_goals (
              by_cases h0 : k = 0
              · have b0 : ((k : Int) == 0) = true := by simp; omega
                have HN := Lib.hid (show sizeS l = none by rw [HP.out, if_neg (fun h => by omega)])
                clear hV hbv hsd hall hx hkl h0 hk8
                go_wp2_with (first
                  | (go_at_call 65; go_must (refine (C4.out _).mono ?_); rintro e w' ⟨rfl, hw'⟩; rw [← hw']; clear hw' w')
                  | (go_at_call 79; go_must (refine (HV.out).mono ?_); rintro e w' ⟨rfl, hw'⟩; rw [← hw']; clear hw' w'))
                go_ret
                exact ⟨cp_none HN.out rfl, rfl⟩
              · have b0 : ((k : Int) == 0) = false := by rw [beq_eq_false_iff_ne]; omega
                have b8 : decide ((8 : Int) < (k : Int)) = false := by rw [decide_eq_false_iff_not]; omega
                by_cases h59 : x = 59
                · have b59 : ((x.toNat : Int) != 59) = false := by rw [h59]; rfl
                  have HX := Lib.hid (show ∀ h : k < l.length, l[k] = 59 from fun h => by rw [← hx, h59])
                  cases bv
                  · have HN := Lib.hid (show sizeS l = none by rw [HP.out, if_neg (fun h => by rw [← hbv] at h; exact absurd h.2.2.2 (by simp))])
                    clear hV hbv hsd hall hx hkl h0 hk8 h59
                    go_wp2_with (first
                      | (go_at_call 65; go_must (refine (C4.out _).mono ?_); rintro e w' ⟨rfl, hw'⟩; rw [← hw']; clear hw' w')
                      | (go_at_call 79; go_must (refine (HV.out).mono ?_); rintro e w' ⟨rfl, hw'⟩; rw [← hw']; clear hw' w'))
                    go_ret
                    exact ⟨cp_none HN.out rfl, rfl⟩
                  · have HN := Lib.hid (show sizeS l = some V by rw [HP.out, if_pos ⟨by omega, by omega, HX.out, hbv.symm⟩, hV])
                    clear hV hbv hsd hall hx hkl h0 hk8 h59
                    go_wp2_with (first
                      | (go_at_call 65; go_must (refine (C4.out _).mono ?_); rintro e w' ⟨rfl, hw'⟩; rw [← hw']; clear hw' w')
                      | (go_at_call 79; go_must (refine (HV.out).mono ?_); rintro e w' ⟨rfl, hw'⟩; rw [← hw']; clear hw' w'))
                    go_ret
                    exact ⟨cp_some HN.out rfl, rfl⟩
                · have b59 : ((x.toNat : Int) != 59) = true := by
                    rw [bne_iff_ne]; intro h; exact h59 (UInt8.toNat_inj.1 (by show x.toNat = 59; omega))
                  have HN := Lib.hid (show sizeS l = none by rw [HP.out, if_neg (fun h => h59 (by rw [hx]; exact h.2.2.1 hkl))])
                  clear hV hbv hsd hall hx hkl h0 hk8 h59
                  go_wp2_with (first
                    | (go_at_call 65; go_must (refine (C4.out _).mono ?_); rintro e w' ⟨rfl, hw'⟩; rw [← hw']; clear hw' w')
                    | (go_at_call 79; go_must (refine (HV.out).mono ?_); rintro e w' ⟨rfl, hw'⟩; rw [← hw']; clear hw' w'))
                  go_ret
                  exact ⟨cp_none HN.out rfl, rfl⟩
              )
      · have b9 : decide ((k : Int) < 9) = false := by rw [decide_eq_false_iff_not]; omega
        have HP := Lib.hid (size_at (by omega) hall (.inr (.inl (by omega))))
        have b0 : ((k : Int) == 0) = false := by rw [beq_eq_false_iff_ne]; omega
        have b8 : decide ((8 : Int) < (k : Int)) = true := by rw [decide_eq_true_iff]; omega
        have HN := Lib.hid (show sizeS l = none by rw [HP.out, if_neg (fun h => by omega)])
        clear hV hbv hsd hall hx hkl h9 hlt
        go_wp2_with (first
          | (go_at_call 79; go_must (refine (HV.out).mono ?_); rintro e w' ⟨rfl, hw'⟩; rw [← hw']; clear hw' w'))
        go_ret
        exact ⟨cp_none HN.out rfl, rfl⟩
    · obtain rfl : k = n := by omega
      have bkn : decide ((k : Int) < (k : Int)) = false := by simp
      have HP := Lib.hid (size_at (by have := HD.out.1; omega) hall (.inl HD.out.1))
      have HX := Lib.hid (show ∀ h : k < l.length, l[k] = 59 from fun h => by have := HD.out.1; omega)
      have hse : sd = ByteArray.empty := by rw [← hsl]; simp
      have hse2 : sd = (⟨#[]⟩ : ByteArray) := by rw [hse]; rfl
      have hv1 := HV.out
      have hv2 := HV.out
      rw [hse] at hv1
      rw [hse2] at hv2
      have HV1 := Lib.hid hv1
      have HV2 := Lib.hid hv2
      clear hlt hnk hse hse2 hv1 hv2 hsl
      by_cases h0 : k = 0
      · have b0 : ((k : Int) == 0) = true := by simp; omega
        have HN := Lib.hid (show sizeS l = none by rw [HP.out, if_neg (fun h => by omega)])
        clear hV hbv hsd hall h0
        go_wp2_with (first
          | (go_at_call 79; (with_reducible show Calls _ _ #[.string ByteArray.empty] _ _); go_must (refine (HV1.out).mono ?_); rintro e w' ⟨rfl, hw'⟩; rw [← hw']; clear hw' w')
          | (go_at_call 79; go_must (refine (HV2.out).mono ?_); rintro e w' ⟨rfl, hw'⟩; rw [← hw']; clear hw' w'))
        go_ret
        exact ⟨cp_none HN.out rfl, rfl⟩
      · have b0 : ((k : Int) == 0) = false := by rw [beq_eq_false_iff_ne]; omega
        by_cases h8 : 8 < k
        · have b8 : decide ((8 : Int) < (k : Int)) = true := by rw [decide_eq_true_iff]; omega
          have HN := Lib.hid (show sizeS l = none by rw [HP.out, if_neg (fun h => by omega)])
          clear hV hbv hsd hall h0 h8
          go_wp2_with (first
            | (go_at_call 79; (with_reducible show Calls _ _ #[.string ByteArray.empty] _ _); go_must (refine (HV1.out).mono ?_); rintro e w' ⟨rfl, hw'⟩; rw [← hw']; clear hw' w')
            | (go_at_call 79; go_must (refine (HV2.out).mono ?_); rintro e w' ⟨rfl, hw'⟩; rw [← hw']; clear hw' w'))
          go_ret
          exact ⟨cp_none HN.out rfl, rfl⟩
        · have b8 : decide ((8 : Int) < (k : Int)) = false := by rw [decide_eq_false_iff_not]; omega
          cases bv
          · have HN := Lib.hid (show sizeS l = none by rw [HP.out, if_neg (fun h => by rw [← hbv] at h; exact absurd h.2.2.2 (by simp))])
            clear hV hbv hsd hall h0 h8
            go_wp2_with (first
              | (go_at_call 79; (with_reducible show Calls _ _ #[.string ByteArray.empty] _ _); go_must (refine (HV1.out).mono ?_); rintro e w' ⟨rfl, hw'⟩; rw [← hw']; clear hw' w')
              | (go_at_call 79; go_must (refine (HV2.out).mono ?_); rintro e w' ⟨rfl, hw'⟩; rw [← hw']; clear hw' w'))
            go_ret
            exact ⟨cp_none HN.out rfl, rfl⟩
          · have HN := Lib.hid (show sizeS l = some V by rw [HP.out, if_pos ⟨by omega, by omega, HX.out, hbv.symm⟩, hV])
            clear hV hbv hsd hall h0 h8
            go_wp2_with (first
              | (go_at_call 79; (with_reducible show Calls _ _ #[.string ByteArray.empty] _ _); go_must (refine (HV1.out).mono ?_); rintro e w' ⟨rfl, hw'⟩; rw [← hw']; clear hw' w')
              | (go_at_call 79; go_must (refine (HV2.out).mono ?_); rintro e w' ⟨rfl, hw'⟩; rw [← hw']; clear hw' w'))
            go_ret
            exact ⟨cp_some HN.out rfl, rfl⟩
end Go.Proofs.YtojemdggbcklkaaDoor.WireR

/- A number's digits: the running value never falls. Plain Lean. -/
namespace Go.Proofs.YtojemdggbcklkaaDoor.Wire
set_option linter.unusedVariables false
set_option linter.unusedSimpArgs false
theorem numS_step {l : Bytes} {k : Nat} (h : k < l.length) : numS (l.take (k + 1)) = numS (l.take k) * 10 + (l[k].toNat - 48) := by
  unfold numS
  rw [List.take_succ_eq_append_getElem h, List.foldl_append]
  rfl
theorem numS_le {l : Bytes} : ∀ {j k : Nat}, j ≤ k → k ≤ l.length → numS (l.take j) ≤ numS (l.take k)
  | j, 0, h, hk => by obtain rfl : j = 0 := by omega
                      exact Nat.le_refl _
  | j, k + 1, h, hk => by
    rcases Nat.lt_or_ge k j with h1 | h1
    · obtain rfl : j = k + 1 := by omega
      exact Nat.le_refl _
    · have := numS_le (l := l) h1 (by omega)
      rw [numS_step (by omega)]
      omega
theorem numS_whole {l : Bytes} {k : Nat} (hk : k ≤ l.length) : numS (l.take k) ≤ numS l := by
  have := numS_le (l := l) hk (Nat.le_refl _)
  rwa [List.take_length] at this
end Go.Proofs.YtojemdggbcklkaaDoor.Wire
namespace Go.Proofs.YtojemdggbcklkaaDoor.WireR
open Go.RowKit Go.Proofs.YtojemdggbcklkaaDoor.Mem Go.Proofs.YtojemdggbcklkaaDoor.Wire Go.Proofs.YtojemdggbcklkaaDoor.Strs Go.Proofs.YtojemdggbcklkaaDoor.Heads
set_option linter.unusedVariables false
set_option linter.unusedSimpArgs false
set_option maxRecDepth 4000

def lenS (l : Bytes) : Int := if l ≠ [] ∧ l.all digB = true then ((min (numS l) 65537 : Nat) : Int) else -1
theorem dig_all {l : Bytes} {k : Nat} (h : k < l.length) (hx : digB l[k] = false) : lenS l = -1 := by
  unfold lenS
  rw [if_neg]
  intro h2
  rw [all_not h hx] at h2
  exact absurd h2.2 (by simp)
set_option maxHeartbeats 4000000 in
theorem length_any (l : List UInt8) (w : World) (hl : l.length ≤ 65536) :
    Calls Tryd.prog 44 #[.string ⟨l.toArray⟩] w fun e w' => e = .returned (.int .i64 (lenS l)) ∧ w = w' := by
  obtain ⟨n, hn⟩ : ∃ n, n = l.length := ⟨_, rfl⟩
  obtain ⟨s, hs⟩ : ∃ s, s = (⟨l.toArray⟩ : ByteArray) := ⟨_, rfl⟩
  have hsz : s.size = n := by rw [hs, hn]; simp [ByteArray.size]
  have hni : (n : Int) ≤ 65536 := by omega
  by_cases h0 : l = []
  · have HE := Lib.hid (show lenS l = -1 by unfold lenS; rw [if_neg (fun h => h.1 h0)])
    have k0 : s.toList.isEmpty = true := by rw [hs, h0, ByteArray.toList_eq]; rfl
    rw [← hs]
    clear hn hs hl h0
    go_enter Tryd.func44, Tryd.ntmps44
    go_wp2
    go_ret
    exact ⟨by rw [HE.out]; rfl, rfl⟩
  · have k0 : s.toList.isEmpty = false := by rw [hs, ByteArray.toList_eq]; cases l with | nil => exact absurd rfl h0 | cons a r => rfl
    have HD := Lib.hid (And.intro hn (And.intro hs (And.intro hl h0)))
    rw [← hs]
    clear hn hs hl h0
    go_enter Tryd.func44, Tryd.ntmps44
    go_wp2
    go_loopw [3, 4] (fun a v wr => ∃ k M : Nat, k ≤ n ∧ v = .int .i64 k ∧ a = .int .i64 M ∧ M = min (numS (l.take k)) 65537 ∧ (l.take k).all digB = true ∧ wr = w) (fun _ v _ => n - (intOf v).toNat)
    case atStart => exact ⟨0, 0, by omega, rfl, rfl, by simp [numS], rfl, rfl⟩
    case round =>
      obtain ⟨k, M, hk, rfl, rfl, hM, hall, rfl⟩ := hrel
      have hk0 : (0 : Int) ≤ (k : Int) := by omega
      by_cases hlt : k < n
      · have hkl : k < l.length := by have := HD.out.1; omega
        obtain ⟨x, hx⟩ : ∃ x, x = l[k] := ⟨_, rfl⟩
        have hks : k < s.size := by omega
        have hsx : s[k] = x := by
          have : ∀ s' : ByteArray, s' = (⟨l.toArray⟩ : ByteArray) → ∀ h, s'[k]'h = l[k] := fun s' e h => by subst e; rfl
          rw [hx]; exact this s HD.out.2.1 hks
        have hki : (k : Int) < (n : Int) := by omega
        have hst := all_step (p := digB) hkl
        have hsum := numS_step hkl
        rw [← hx] at hst hsum
        rw [hall, Bool.true_and] at hst
        obtain ⟨g1, hg1⟩ : ∃ b, decide ((x.toNat : Int) < 48) = b := ⟨_, rfl⟩
        obtain ⟨g2, hg2⟩ : ∃ b, decide ((57 : Int) < (x.toNat : Int)) = b := ⟨_, rfl⟩
        have hd : digB x = (!g1 && !g2) := by
          rw [← hg1, ← hg2]
          unfold digB digN
          rw [Bool.eq_iff_iff]
          simp
          omega
        have hx256 : x.toNat < 256 := x.toNat_lt
        cases g1
        · cases g2
          · obtain ⟨z, hz⟩ : ∃ z, z = x.toNat - 48 := ⟨_, rfl⟩
            have h48 : ¬ (x.toNat : Int) < 48 := of_decide_eq_false hg1
            have h57 : ¬ (57 : Int) < (x.toNat : Int) := of_decide_eq_false hg2
            have hzy : x.toNat = z + 48 := by omega
            rw [← hz] at hsum
            have hM7 : M ≤ 65537 := by omega
            have hz9 : z ≤ 9 := by omega
            obtain ⟨M10, hM10⟩ : ∃ M10, M10 = M * 10 := ⟨_, rfl⟩
            obtain ⟨M2, hM2⟩ : ∃ M2, M2 = M10 + z := ⟨_, rfl⟩
            obtain ⟨M3, hM3⟩ : ∃ M3, M3 = min M2 65537 := ⟨_, rfl⟩
            have e10 : (M : Int) * 10 = (M10 : Int) := by omega
            have b10 : (0 : Int) ≤ (M10 : Int) := by omega
            have b11 : (M10 : Int) ≤ 1152921504606846976 := by omega
            have e2 : (M10 : Int) + (z : Int) = (M2 : Int) := by omega
            have b20 : (0 : Int) ≤ (M2 : Int) := by omega
            have b21 : (M2 : Int) ≤ 1152921504606846976 := by omega
            have e3 : min (M2 : Int) 65537 = (M3 : Int) := by omega
            have HM := Lib.hid (And.intro (show M3 = min (numS (l.take (k + 1))) 65537 by rw [hsum, hM3, hM2, hM10, hM]; clear hM2 hM3 hM10; omega) (And.intro (hst.trans (by rw [hd])) hlt))
            have q1 := w64b e10 b10 b11
            have q2 := w64b e2 b20 b21
            have q3 : IntKind.u8.wrap ((x.toNat : Int) - 48) = (z : Int) := u8sub (m := 48) hzy hx256
            have q4 : ((x.toNat : Int) - 48) % 256 = (z : Int) := size_mod (m := 48) hzy hx256
            clear hz h48 h57 hzy hM7 hz9 hM10 hM2 hM3 e10 b10 b11 e2 b20 b21 hsum hst hd hx256 hM hall hlt hkl hx
            go_wp2
            exact ⟨⟨k + 1, M3, by have := HM.out.2.2; omega, by go_num, rfl, HM.out.1, HM.out.2.1, trivial⟩, by simp [intOf]; try omega⟩
          · have HE := Lib.hid (dig_all hkl (by rw [← hx, hd]; rfl))
            clear hd hst hsum hall hM hx hx256 hkl
            go_wp2
            go_ret
            exact ⟨by rw [HE.out]; rfl, rfl⟩
        · have HE := Lib.hid (dig_all hkl (by rw [← hx, hd]; rfl))
          clear hd hst hsum hall hM hx hx256 hkl
          go_wp2
          go_ret
          exact ⟨by rw [HE.out]; rfl, rfl⟩
      · obtain rfl : k = n := by omega
        have ht : l.take k = l := List.take_of_length_le (by have := HD.out.1; omega)
        rw [ht] at hall hM
        have HE := Lib.hid (show lenS l = (M : Int) by unfold lenS; rw [if_pos ⟨HD.out.2.2.2, hall⟩, hM])
        clear hlt ht hall hM
        go_wp2
        go_ret
        exact ⟨by rw [HE.out]; rfl, rfl⟩
end Go.Proofs.YtojemdggbcklkaaDoor.WireR
