/- ref.lines: the reference's header lines. -/
import Derived.Test.YtojemdggbcklkaaDoorWRLines
namespace Go.Proofs.YtojemdggbcklkaaDoor.WireR
open Go.RowKit Go.Proofs.YtojemdggbcklkaaDoor.Mem Go.Proofs.YtojemdggbcklkaaDoor.Wire Go.Proofs.YtojemdggbcklkaaDoor.Strs Go.Proofs.YtojemdggbcklkaaDoor.Heads
set_option linter.unusedVariables false
set_option linter.unusedSimpArgs false
set_option maxRecDepth 4000

theorem lineS_err2 {bad er : Nat} {t : Bytes} (h : lineS bad t = .err er) : er = 283 ∨ er = bad := by
  unfold lineS at h
  cases hc : cutL 10 t with
  | none => rw [hc] at h; injection h with h; exact .inl h.symm
  | some p =>
    obtain ⟨a, b'⟩ := p
    rw [hc] at h
    simp only at h
    cases hi : inner a with
    | none => rw [hi] at h; injection h with h; exact .inr h.symm
    | some c' => rw [hi] at h; cases h
structure RState (w wr : World) (s : List UInt8) (bad p : Nat) (v : Value) (q : Nat) (hs : List HD) : Prop where
  own : wr.ownsRow w.heap.size 58 2 v hs.length (hs.flatMap HD.cells)
  fr : Below w.heap.size w wr
  eq : fieldsS bad (s.drop p) = (fieldsS bad (s.drop q)).map (hs ++ ·)
  ge : hs.length + p ≤ q
  le : q ≤ s.length
def RLinesPost (w : World) (s : List UInt8) (r : Res (List HD)) (e : Ending) (w' : World) : Prop :=
  Below w.heap.size w w' ∧ match r with
  | .ok hs b => ∃ A k, e = .returned (.tuple #[.slice A hs.length k, .int .i64 ((s.length - b.length : Nat) : Int), .int .i64 0]) ∧ w'.ownsRow w.heap.size 58 2 (.slice A hs.length k) hs.length (hs.flatMap HD.cells)
  | .err er => e = .returned (.tuple #[.slice none 0 0, .int .i64 0, .int .i64 (er : Int)])

set_option maxHeartbeats 8000000 in
theorem rlines_any (s : List UInt8) (p : Nat) (w : World) (hp : p ≤ s.length) (hl : s.length ≤ 65536) (bad : Nat) (hbad : 280 ≤ bad ∧ bad ≤ 282) :
    Calls Tryd.prog 41 #[.string ⟨s.toArray⟩, .int .i64 (p : Int), .int .i64 (bad : Int)] w (RLinesPost w s (fieldsS bad (s.drop p))) := by
  obtain ⟨S, hS⟩ : ∃ S, S = (⟨s.toArray⟩ : ByteArray) := ⟨_, rfl⟩
  have c0 := fun q h W => rline_any s q W h (by omega) bad hbad
  rw [← hS] at c0 ⊢
  have C0 := Lib.hid c0
  have HB := Lib.hid (And.intro hbad (And.intro hp hl))
  clear c0 hbad hp hl hS
  go_enter Tryd.func41, Tryd.ntmps41
  go_wp2
  go_loopw [1, 9] (fun a v wr => ∃ (q : Nat) (hs : List HD) (m : Nat) (A : Option Addr) (k : Nat), a = .int .i64 q ∧ v = .slice A m k ∧ m = hs.length ∧ RState w wr s bad p (.slice A m k) q hs) (fun a _ _ => s.length - (intOf a).toNat)
  case atStart => exact ⟨p, [], 0, none, 0, rfl, rfl, rfl, ⟨⟨rfl, .inl ⟨rfl, rfl⟩⟩, gr w, by cases fieldsS bad (s.drop p) <;> rfl, by simp, HB.out.2.1⟩⟩
  case round =>
    obtain ⟨q, hs, m, A, k, rfl, rfl, hm, FS⟩ := hrel
    replace FS := Lib.hid (And.intro hm FS)
    clear hm
    have c1 := C0.out q FS.out.2.le wr
    cases hl : lineS bad (s.drop q) with
    | err er =>
      rw [hl] at c1
      have hf : fieldsS bad (s.drop q) = .err er := by rw [fieldsS_eq, hl]
      have HF := Lib.hid hf
      unfold RLinePost at c1
      simp only at c1
      by_cases h3 : er = 283
      · simp only [if_pos h3] at c1
        have C1 := Lib.hid c1
        have HE := Lib.hid h3
        clear c1 hl hf h3
        go_wp2_with (first
          | (go_at_call 39; go_must (refine (C1.out).mono ?_); rintro e w1 ⟨rfl, rfl⟩))
        go_ret3
        unfold RLinesPost
        rw [FS.out.2.eq, HF.out, HE.out]
        exact ⟨FS.out.2.fr, rfl⟩
      · simp only [if_neg h3] at c1
        have C1 := Lib.hid c1
        have HE := Lib.hid ((lineS_err2 hl).resolve_left h3)
        have c2 := fun W => rheader_any [] W (by simp)
        unfold FieldPost at c2
        simp only [show hdrOf [] = none from rfl] at c2
        have C2 := Lib.hid c2
        clear c1 hl hf h3 c2
        go_wp2_with (first
          | (go_at_call 39; go_must (refine (C1.out).mono ?_); rintro e w1 ⟨⟨j, hj0, rfl⟩, rfl⟩; have b0 : ((j : Int) == 0) = false := by rw [beq_eq_false_iff_ne]; omega)
          | (go_at_call 64; go_must (refine (C2.out _).mono ?_); rintro e w2 hp2; obtain ⟨rfl, hb2⟩ := hp2; have H2 := Lib.hid hb2; clear hb2)
          | ((with_reducible show wpList _ _ _ (⟨some 13, _, _, _, _, _⟩ :: _) _ _); go_must (refine wpList_allocB AH rfl rfl w2.heap.size rfl ?_); intro w3 hB3 hb3 hz3; have H3 := Lib.hid (And.intro hB3 hb3); clear hB3 hb3 hz3)
          | ((with_reducible show wpList _ _ _ (⟨none, _, _, _, _, _⟩ :: _) _ _); go_must (refine wpList_storeB AH rfl (.tmp 13) (.tmp 34) rfl w2.heap.size 0 rfl [.string ⟨#[]⟩, .string ⟨#[]⟩] rfl rfl _ _ H3.out.1 (by simp) (by simp [Value.oneCell']) ?_); intro w4 hB4 hg4 hz4; have H4 := Lib.hid (And.intro hB4 (And.intro hg4 hz4)); clear hB4 hg4 hz4))
        go_ret3
        unfold RLinesPost
        rw [FS.out.2.eq, HF.out, HE.out]
        have B4 := (gt H2.out H3.out.2).grown H4.out.2.1 (by have := H2.out.size; have := H3.out.2.size; omega) (fun k hk => by injection hk with hk; have := H2.out.size; omega)
        exact ⟨FS.out.2.fr.trans (B4.mono FS.out.2.fr.size), rfl⟩
    | ok x b =>
      rw [hl] at c1
      unfold RLinePost at c1
      simp only at c1
      obtain ⟨u, hu⟩ := lineS_suf hl
      have hbs := drop_suf hu FS.out.2.le
      have hbl := lineS_len hl
      rw [List.length_drop] at hbl
      obtain ⟨q2, hq2⟩ : ∃ q2, q2 = s.length - b.length := ⟨_, rfl⟩
      rw [← hq2] at hbs c1
      have hqq : q < q2 := by have := FS.out.2.le; omega
      have hq2n : q2 ≤ s.length := by omega
      have hf := fieldsS_eq bad (s.drop q)
      rw [hl] at hf
      simp only at hf
      have hxl : x.length ≤ 65536 := by
        have h2 : x.length ≤ (s.drop q).length := lineS_le hl
        rw [List.length_drop] at h2
        have := HB.out.2.2
        omega
      obtain ⟨sx, hsx⟩ : ∃ sx, sx = (⟨x.toArray⟩ : ByteArray) := ⟨_, rfl⟩
      rw [← hsx] at c1
      have C1 := Lib.hid c1
      have HQ := Lib.hid (And.intro hq2 (And.intro hqq (And.intro hq2n hbs)))
      have b0 : ((q2 : Int) == 0) = false := by rw [beq_eq_false_iff_ne]; omega
      clear c1 hl hu hbl hq2 hqq hq2n
      by_cases hx : x = []
      · rw [if_pos hx] at hf
        have HF := Lib.hid hf
        have hem : sx.toList.isEmpty = true := by rw [hsx, hx, ByteArray.toList_eq]; rfl
        clear hf hx hsx hbs hxl
        go_wp2_with (first
          | (go_at_call 39; go_must (refine (C1.out).mono ?_); rintro e w1 ⟨rfl, rfl⟩))
        go_ret3
        unfold RLinesPost
        rw [FS.out.2.eq, HF.out]
        refine ⟨FS.out.2.fr, A, k, ?_, ?_⟩
        · simp only [List.append_nil]; rw [← FS.out.1, ← HQ.out.1]; rfl
        · simp only [List.append_nil]; rw [← FS.out.1]
          have := FS.out.2.own
          rw [← FS.out.1] at this
          exact this
      · rw [if_neg hx] at hf
        have hem : sx.toList.isEmpty = false := by rw [hsx, ByteArray.toList_eq]; cases x with | nil => exact absurd rfl hx | cons a r => rfl
        have c2 := fun W => rheader_any x W (by omega)
        rw [← hsx] at c2
        unfold FieldPost at c2
        cases hh : hdrOf x with
        | none =>
          rw [hh] at hf
          simp only [hh] at c2
          have HF := Lib.hid hf
          have C2 := Lib.hid c2
          clear hf hx hsx hbs hxl c2 hh
          go_wp2_with (first
            | (go_at_call 39; go_must (refine (C1.out).mono ?_); rintro e w1 ⟨rfl, rfl⟩)
            | (go_at_call 64; go_must (refine (C2.out _).mono ?_); rintro e w2 hp2; obtain ⟨rfl, hb2⟩ := hp2; have H2 := Lib.hid hb2; clear hb2)
            | ((with_reducible show wpList _ _ _ (⟨some 13, _, _, _, _, _⟩ :: _) _ _); go_must (refine wpList_allocB AH rfl rfl w2.heap.size rfl ?_); intro w3 hB3 hb3 hz3; have H3 := Lib.hid (And.intro hB3 hb3); clear hB3 hb3 hz3)
            | ((with_reducible show wpList _ _ _ (⟨none, _, _, _, _, _⟩ :: _) _ _); go_must (refine wpList_storeB AH rfl (.tmp 13) (.tmp 34) rfl w2.heap.size 0 rfl [.string ⟨#[]⟩, .string ⟨#[]⟩] rfl rfl _ _ H3.out.1 (by simp) (by simp [Value.oneCell']) ?_); intro w4 hB4 hg4 hz4; have H4 := Lib.hid (And.intro hB4 (And.intro hg4 hz4)); clear hB4 hg4 hz4))
          go_ret3
          unfold RLinesPost
          rw [FS.out.2.eq, HF.out]
          have B4 := (gt H2.out H3.out.2).grown H4.out.2.1 (by have := H2.out.size; have := H3.out.2.size; omega) (fun k hk => by injection hk with hk; have := H2.out.size; omega)
          exact ⟨FS.out.2.fr.trans (B4.mono FS.out.2.fr.size), rfl⟩
        | some hd =>
          rw [hh] at hf
          simp only [hh] at c2
          obtain ⟨hn, hv⟩ := hd
          obtain ⟨sn, hsn⟩ : ∃ x, x = (⟨hn.toArray⟩ : ByteArray) := ⟨_, rfl⟩
          obtain ⟨sv, hsv⟩ : ∃ x, x = (⟨hv.toArray⟩ : ByteArray) := ⟨_, rfl⟩
          have hcs : HD.cells (hn, hv) = [.string sn, .string sv] := by rw [hsn, hsv]; rfl
          rw [hcs] at c2
          have HF := Lib.hid (And.intro hf hcs)
          have C2 := Lib.hid c2
          clear hf hx hsx hbs hxl c2 hh hcs hsn hsv
          go_wp2_with (first
            | (go_at_call 39; go_must (refine (C1.out).mono ?_); rintro e w1 ⟨rfl, rfl⟩)
            | (go_at_call 64; go_must (refine (C2.out _).mono ?_); rintro e w2 hp2; obtain ⟨rfl, hb2⟩ := hp2; have H2 := Lib.hid hb2; clear hb2)
            | ((with_reducible show wpList _ _ _ (⟨some 13, _, _, _, _, _⟩ :: _) _ _); go_must (refine wpList_allocB AH rfl rfl w2.heap.size rfl ?_); intro w3 hB3 hb3 hz3; have H3 := Lib.hid (And.intro hB3 hb3); clear hB3 hb3 hz3)
            | ((with_reducible show wpList _ _ _ (⟨none, _, _, _, _, _⟩ :: _) _ _); go_must (refine wpList_storeB AH rfl (.tmp 13) (.tmp 34) rfl w2.heap.size 0 rfl [.string sn, .string sv] rfl rfl _ _ H3.out.1 (by simp) (by simp [Value.oneCell']) ?_); intro w4 hB4 hg4 hz4; have H4 := Lib.hid (And.intro hB4 (And.intro hg4 hz4)); clear hB4 hg4 hz4)
            | ((with_reducible show wpList _ _ _ (⟨some 44, _, _, _, _, _⟩ :: _) _ _); go_must (refine wpList_loadB AH rfl (.tmp 13) rfl w2.heap.size 0 rfl _ _ H4.out.1 [.string sn, .string sv] (by simp [splice]) rfl ?_))
            | ((with_reducible show wpList _ _ _ (⟨some 45, _, _, _, _, _⟩ :: _) _ _); go_must (refine wpList_build1 EH rfl (.tmp 44) rfl (by simp) [.string sn, .string sv] rfl rfl w4.heap.size rfl ?_); intro w5 hB5 hb5 hz5
               have B4 := (gt H2.out H3.out.2).grown H4.out.2.1 (by have := H2.out.size; have := H3.out.2.size; omega) (fun k hk => by injection hk with hk; have := H2.out.size; omega)
               have H5 := Lib.hid (And.intro hB5 (gt B4 hb5)); clear hB5 hb5 hz5 B4)
            | ((with_reducible show wpList _ _ _ (⟨some 46, _, _, _, _, _⟩ :: _) _ _); go_must (refine wpList_app EH rfl (.tmp 43) (.tmp 45) rfl w.heap.size (.slice A m k) hs.length (hs.flatMap HD.cells) rfl (own_below' FS.out.2.own H5.out.2) (some ⟨w4.heap.size, 0, none⟩) 1 1 [.string sn, .string sv] rfl H5.out.1.rv rfl (by intro u hu; simp at hu; rcases hu with rfl | rfl <;> rfl) (by have := FS.out.2.ge; have := FS.out.2.le; have := HB.out.2.2; unfold maxLen; omega) (by have := FS.out.2.ge; have := FS.out.2.le; have := HB.out.2.2; omega) (by have := FS.out.2.fr.size; have := H5.out.2.size; omega) ?_); intro v' w6 hown6 hg6 ho6
               have B6 := below_own (H5.out.2.mono FS.out.2.fr.size) (own_below' FS.out.2.own H5.out.2) hg6 (by have := FS.out.2.fr.size; have := H5.out.2.size; omega)
               have H6 := Lib.hid (And.intro hown6 B6); clear hown6 hg6 ho6 B6))
          obtain ⟨A2, k2, hv2, _⟩ := own_slice H6.out.1
          subst hv2
          have hfl : (hs ++ [(hn, hv)]).flatMap HD.cells = hs.flatMap HD.cells ++ [.string sn, .string sv] := by simp [HF.out.2]
          refine ⟨⟨q2, hs ++ [(hn, hv)], hs.length + 1, A2, k2, rfl, rfl, by simp, ?_, FS.out.2.fr.trans H6.out.2, ?_, ?_, HQ.out.2.2.1⟩, ?_⟩
          · rw [hfl, List.length_append]; exact H6.out.1
          · rw [FS.out.2.eq, HF.out.1, HQ.out.2.2.2, Res.map_map]
            congr 1
            funext z
            simp
          · have := FS.out.2.ge; have := HQ.out.2.1; simp; omega
          · have := HQ.out.2.1; have := HQ.out.2.2.1; simp [intOf]; omega
end Go.Proofs.YtojemdggbcklkaaDoor.WireR
