/- weirref28.chunks: a body in chunks. (Printed by mkwrchunks.py.) -/
import Derived.Test.YtojemdggbcklkaaDoorWChunks
namespace Go.Proofs.YtojemdggbcklkaaDoor.WireR
open Go.RowKit Go.Proofs.YtojemdggbcklkaaDoor.Mem Go.Proofs.YtojemdggbcklkaaDoor.Wire Go.Proofs.YtojemdggbcklkaaDoor.Strs Go.Proofs.YtojemdggbcklkaaDoor.Heads
set_option linter.unusedVariables false
set_option linter.unusedSimpArgs false
set_option maxRecDepth 4000

def RChunksPost (s : List UInt8) (r : Res Bytes) (e : Ending) : Prop :=
  match r with
  | .ok l b => e = .returned (.tuple #[.string ⟨l.toArray⟩, .int .i64 ((s.length - b.length : Nat) : Int), .int .i64 0])
  | .err er => ∃ x : ByteArray, e = .returned (.tuple #[.string x, .int .i64 0, .int .i64 (er : Int)])
theorem rcp_err {s : List UInt8} {r : Res Bytes} {er : Nat} {e : Ending} (h : r = .err er) (x : ByteArray) (he : e = .returned (.tuple #[.string x, .int .i64 0, .int .i64 (er : Int)])) : RChunksPost s r e := by rw [h]; exact ⟨x, he⟩
theorem rcp_ok {s : List UInt8} {r : Res Bytes} {l b : Bytes} {e : Ending} (h : r = .ok l b) (he : e = .returned (.tuple #[.string ⟨l.toArray⟩, .int .i64 ((s.length - b.length : Nat) : Int), .int .i64 0])) : RChunksPost s r e := by rw [h]; exact he
structure RKState (w wr : World) (s : List UInt8) (p : Nat) (q : Nat) (l : Bytes) : Prop where
  fr : Below w.heap.size w wr
  eq : chunksS p (s.drop p) = (chunksS q (s.drop q)).map (l ++ ·)
  ge : l.length + p ≤ q
  le : q ≤ s.length
set_option maxHeartbeats 16000000 in
theorem rchunks_any (s : List UInt8) (p : Nat) (w : World) (hp : p ≤ s.length) (hl : s.length ≤ 65536) :
    Calls Tryd.prog 45 #[.string ⟨s.toArray⟩, .int .i64 (p : Int)] w fun e w' => RChunksPost s (chunksS p (s.drop p)) e ∧ Below w.heap.size w w' := by
  obtain ⟨S, hS⟩ : ∃ S, S = (⟨s.toArray⟩ : ByteArray) := ⟨_, rfl⟩
  obtain ⟨sn, hsn⟩ : ∃ n, n = s.length := ⟨_, rfl⟩
  have hsz : S.size = sn := by rw [hS, hsn]; simp [ByteArray.size]
  have hsni : (sn : Int) ≤ 65536 := by omega
  have c0 := fun q h W => rline_any s q W h (by omega) 282 (by omega)
  have r0 := fun q h W => rlines_any s q W h hl 282 (by omega)
  rw [← hS] at c0 r0 ⊢
  have C0 := Lib.hid c0
  have R0 := Lib.hid r0
  have HB := Lib.hid (And.intro hp (And.intro hl (And.intro hsn hS)))
  clear c0 r0 hp hl hS hsn
  go_enter Tryd.func45, Tryd.ntmps45
  go_wp2
  go_loopw [1, 7] (fun a v wr => ∃ (q : Nat) (l : Bytes), a = .int .i64 q ∧ v = .string ⟨l.toArray⟩ ∧ RKState w wr s p q l) (fun a _ _ => s.length - (intOf a).toNat)
  case atStart => exact ⟨p, [], rfl, rfl, ⟨gr w, by cases chunksS p (s.drop p) <;> rfl, by simp, HB.out.1⟩⟩
  case round =>
    obtain ⟨q, l, rfl, rfl, FS⟩ := hrel
    replace FS := Lib.hid FS
    obtain ⟨bl, hbl⟩ : ∃ x, x = (⟨l.toArray⟩ : ByteArray) := ⟨_, rfl⟩
    rw [← hbl]
    have HL := Lib.hid hbl
    clear hbl
    have c1 := C0.out q FS.out.le wr
    cases hl : lineS 282 (s.drop q) with
    | err er =>
      rw [hl] at c1
      have hf : chunksS q (s.drop q) = .err er := by rw [chunksS_eq, hl]
      have HF := Lib.hid hf
      unfold RLinePost at c1
      simp only at c1
      by_cases h3 : er = 283
      · simp only [if_pos h3] at c1
        have C1 := Lib.hid c1
        have HE := Lib.hid h3
        clear c1 hl hf h3
        go_wp2_with (first
          | (go_at_call 39; go_must (refine (C1.out).mono ?_); rintro e w1 ⟨rfl, hw1⟩; rw [← hw1]; clear hw1 w1))
        go_ret3
        exact ⟨rcp_err (er := 283) (by rw [FS.out.eq, HF.out, HE.out]; rfl) _ rfl, FS.out.fr⟩
      · simp only [if_neg h3] at c1
        have C1 := Lib.hid c1
        have HE := Lib.hid ((lineS_err2 hl).resolve_left h3)
        clear c1 hl hf h3
        go_wp2_with (first
          | (go_at_call 39; go_must (refine (C1.out).mono ?_); rintro e w1 ⟨⟨j, hj0, rfl⟩, rfl⟩; have b0 : ((j : Int) == 0) = false := by rw [beq_eq_false_iff_ne]; omega))
        go_ret3
        exact ⟨rcp_err (er := 282) (by rw [FS.out.eq, HF.out, HE.out]; rfl) _ rfl, FS.out.fr⟩
    | ok x b =>
      rw [hl] at c1
      unfold RLinePost at c1
      simp only at c1
      obtain ⟨u, hu⟩ := lineS_suf hl
      have hbs := drop_suf hu FS.out.le
      have hbl := lineS_len hl
      rw [List.length_drop] at hbl
      obtain ⟨q2, hq2⟩ : ∃ q2, q2 = s.length - b.length := ⟨_, rfl⟩
      rw [← hq2] at hbs c1
      have hqq : q < q2 := by have := FS.out.le; omega
      have hq2n : q2 ≤ s.length := by omega
      have hq65 : q2 ≤ 65536 := by have := HB.out.2.1; omega
      have hf := chunksS_eq q (s.drop q)
      rw [hl] at hf
      simp only at hf
      rw [show q + ((s.drop q).length - b.length) = q2 by rw [List.length_drop]; omega, hbs] at hf
      have hxl : x.length ≤ 65536 := by
        have h2 : x.length ≤ (s.drop q).length := lineS_le hl
        rw [List.length_drop] at h2
        have := HB.out.2.1
        omega
      obtain ⟨sx, hsx⟩ : ∃ sx, sx = (⟨x.toArray⟩ : ByteArray) := ⟨_, rfl⟩
      rw [← hsx] at c1
      have C1 := Lib.hid c1
      have c2 := fun W => chunk_any x W hxl
      rw [← hsx] at c2
      have HQ := Lib.hid (And.intro hqq hq2n)
      have b0 : ((q2 : Int) == 0) = false := by rw [beq_eq_false_iff_ne]; omega
      clear c1 hl hu hbl hbs hqq hq2n hq2
      cases hz : sizeS x with
      | none =>
        rw [hz] at hf
        simp only at hf
        have HF := Lib.hid (hf)
        unfold ChunkPost at c2
        simp only [hz] at c2
        have C2 := Lib.hid c2
        clear hf hsx hxl c2 hz hq65
        go_wp2_with (first
          | (go_at_call 39; go_must (refine (C1.out).mono ?_); rintro e w1 ⟨rfl, hw1⟩; rw [← hw1]; clear hw1 w1)
          | (go_at_call 66; go_must (refine (C2.out _).mono ?_); rintro e w2 ⟨rfl, hw2⟩; rw [← hw2]; clear hw2 w2))
        go_ret3
        exact ⟨rcp_err (er := 282) (by rw [FS.out.eq, HF.out]; rfl) _ rfl, FS.out.fr⟩
      | some N =>
        rw [hz] at hf
        simp only at hf
        have hN := size_lt hz
        unfold ChunkPost at c2
        simp only [hz] at c2
        have C2 := Lib.hid c2
        have bneg : decide ((N : Int) < 0) = false := by rw [decide_eq_false_iff_not]; omega
        have bneg' : ¬ (N : Int) < 0 := by omega
        by_cases hN0 : N = 0
        · rw [if_pos hN0] at hf
          have bN : ((N : Int) == 0) = true := by simp; omega
          have c3 := R0.out q2 HQ.out.2
          have HF := Lib.hid hf
          cases hfl : fieldsS 282 (s.drop q2) with
          | err er =>
            simp only [hfl] at c3
            rw [hfl] at hf
            have C3 := Lib.hid c3
            have HF := Lib.hid hf
            clear c3 hfl hf hsx hxl c2 hz hN hN0 hq65
            go_wp2_with (first
              | (go_at_call 39; go_must (refine (C1.out).mono ?_); rintro e w1 ⟨rfl, hw1⟩; rw [← hw1]; clear hw1 w1)
              | (go_at_call 66; go_must (refine (C2.out _).mono ?_); rintro e w2 ⟨rfl, hw2⟩; rw [← hw2]; clear hw2 w2)
              | (go_at_call 41; go_must (refine (C3.out _).mono ?_); rintro e w3 hp3; obtain ⟨hb3, rfl⟩ := hp3; have H3 := Lib.hid hb3; clear hb3))
            go_ret3
            exact ⟨rcp_err (er := er) (by rw [FS.out.eq, HF.out]; rfl) _ rfl, FS.out.fr.trans (H3.out.mono FS.out.fr.size)⟩
          | ok hs b2 =>
            simp only [hfl] at c3
            rw [hfl] at hf
            have C3 := Lib.hid c3
            have HF := Lib.hid hf
            clear c3 hfl hf hsx hxl c2 hz hN hN0 hq65
            go_wp2_with (first
              | (go_at_call 39; go_must (refine (C1.out).mono ?_); rintro e w1 ⟨rfl, hw1⟩; rw [← hw1]; clear hw1 w1)
              | (go_at_call 66; go_must (refine (C2.out _).mono ?_); rintro e w2 ⟨rfl, hw2⟩; rw [← hw2]; clear hw2 w2)
              | (go_at_call 41; go_must (refine (C3.out _).mono ?_); rintro e w3 hp3; obtain ⟨hb3, A3, k3, rfl, _⟩ := hp3; have H3 := Lib.hid hb3; clear hb3))
            go_ret3
            exact ⟨rcp_ok (l := l) (b := b2) (by rw [FS.out.eq, HF.out]; simp [Res.map]) (by rw [← HL.out]; rfl), FS.out.fr.trans (H3.out.mono FS.out.fr.size)⟩
        · rw [if_neg hN0] at hf
          have bN : ((N : Int) == 0) = false := by rw [beq_eq_false_iff_ne]; omega
          obtain ⟨T1, hT1⟩ : ∃ t, t = q2 + N := ⟨_, rfl⟩
          obtain ⟨T2, hT2⟩ : ∃ t, t = T1 + 2 := ⟨_, rfl⟩
          rw [show q2 + N + 2 = T2 by omega] at hf
          have e1 : (q2 : Int) + (N : Int) = (T1 : Int) := by omega
          have e10 : (0 : Int) ≤ (T1 : Int) := by omega
          have e11 : (T1 : Int) ≤ 1152921504606846976 := by omega
          have e2 : (T1 : Int) + 2 = (T2 : Int) := by omega
          have e20 : (0 : Int) ≤ (T2 : Int) := by omega
          have e21 : (T2 : Int) ≤ 1152921504606846976 := by omega
          have WW := Lib.hid (And.intro (w64b e1 e10 e11) (w64b e2 e20 e21))
          have HT := Lib.hid (And.intro hT1 hT2)
          have hN1 : 1 ≤ N := by omega
          by_cases hbig : 65536 < T2
          · rw [if_pos hbig] at hf
            have bb : decide ((65536 : Int) < (T2 : Int)) = true := by rw [decide_eq_true_iff]; omega
            have HF := Lib.hid hf
            clear hf hsx hxl c2 hz hN hN0 hbig hT1 hT2 e1 e10 e11 e2 e20 e21 hN1 hq65
            have ww1 := WW.out.1
            have ww2 := WW.out.2
            go_wp2_with (first
              | (go_at_call 39; go_must (refine (C1.out).mono ?_); rintro e w1 ⟨rfl, hw1⟩; rw [← hw1]; clear hw1 w1)
              | (go_at_call 66; go_must (refine (C2.out _).mono ?_); rintro e w2 ⟨rfl, hw2⟩; rw [← hw2]; clear hw2 w2))
            go_ret3
            exact ⟨rcp_err (er := 284) (by rw [FS.out.eq, HF.out]; rfl) _ rfl, FS.out.fr⟩
          · rw [if_neg hbig] at hf
            have bb : decide ((65536 : Int) < (T2 : Int)) = false := by rw [decide_eq_false_iff_not]; omega
            have hT2i : T2 ≤ 65536 := by omega
            by_cases hshort : sn < T2
            · have bs : decide ((sn : Int) < (T2 : Int)) = true := by rw [decide_eq_true_iff]; omega
              have bsn : decide (sn < T2) = true := decide_eq_true hshort
              have bsp : sn < T2 := hshort
              rw [if_pos (by rw [List.length_drop]; have := HB.out.2.2.1; have := HQ.out.2; omega)] at hf
              have HF := Lib.hid hf
              clear hf hsx hxl c2 hz hN hN0 hbig hT1 hT2 e1 e10 e11 e2 e20 e21 hN1 hq65 hT2i hshort
              have ww1 := WW.out.1
              have ww2 := WW.out.2
              go_wp2_with (first
                | (go_at_call 39; go_must (refine (C1.out).mono ?_); rintro e w1 ⟨rfl, hw1⟩; rw [← hw1]; clear hw1 w1)
                | (go_at_call 66; go_must (refine (C2.out _).mono ?_); rintro e w2 ⟨rfl, hw2⟩; rw [← hw2]; clear hw2 w2))
              go_ret3
              exact ⟨rcp_err (er := 283) (by rw [FS.out.eq, HF.out]; rfl) _ rfl, FS.out.fr⟩
            · have bs : decide ((sn : Int) < (T1 : Int) + 2) = false := by rw [decide_eq_false_iff_not]; omega
              have bb2 : decide ((65536 : Int) < (T1 : Int) + 2) = false := by rw [decide_eq_false_iff_not]; omega
              clear bb
              have hT2s : T2 ≤ s.length := by have := HB.out.2.2.1; omega
              have hT1s : T1 + 1 < s.length := by omega
              obtain ⟨z, hz2⟩ : ∃ z, z = (s.drop q2).take N := ⟨_, rfl⟩
              obtain ⟨sz, hsz2⟩ : ∃ x, x = (⟨z.toArray⟩ : ByteArray) := ⟨_, rfl⟩
              obtain ⟨sl, hsl⟩ : ∃ x, x = (⟨(l ++ z).toArray⟩ : ByteArray) := ⟨_, rfl⟩
              have ex : S.extract q2 T1 = sz := by
                rw [HB.out.2.2.2, hsz2, hz2, Lib.extract_eq]
                show (⟨((s.drop q2).take _).toArray⟩ : ByteArray) = _
                rw [show T1 - q2 = N by omega]
              have hap : (bl ++ sz : ByteArray) = sl := by rw [HL.out, hsz2, hsl]; apply ByteArray.ext; simp
              have hbls : bl.size ≤ 65536 := by
                rw [HL.out]
                have := FS.out.ge
                have := FS.out.le
                have := HB.out.2.1
                simp [ByteArray.size]
                omega
              have hszs : sz.size ≤ 65536 := by
                rw [hsz2, hz2]
                simp [ByteArray.size]
                omega
              have hss := HB.out.2.2.1
              have hks1 : T1 < S.size := by omega
              have hks3 : T1 + 1 < S.size := by omega
              obtain ⟨x1, hx1⟩ : ∃ x, x = s[T1] := ⟨_, rfl⟩
              obtain ⟨y1, hy1⟩ : ∃ x, x = s[T1 + 1] := ⟨_, rfl⟩
              have hsx1 : S[T1] = x1 := by
                have : ∀ s' : ByteArray, s' = (⟨s.toArray⟩ : ByteArray) → ∀ h, s'[T1]'h = s[T1] := fun s' e h => by subst e; rfl
                rw [hx1]; exact this S HB.out.2.2.2 hks1
              have hsy1 : S[T1 + 1] = y1 := by
                have : ∀ s' : ByteArray, s' = (⟨s.toArray⟩ : ByteArray) → ∀ h, s'[T1 + 1]'h = s[T1 + 1] := fun s' e h => by subst e; rfl
                rw [hy1]; exact this S HB.out.2.2.2 hks3
              rw [if_neg (by rw [List.length_drop]; omega), List.drop_drop, show q2 + N = T1 from HT.out.1.symm, take_two hT1s, ← hx1, ← hy1, List.drop_drop, show q2 + (N + 2) = T2 by omega, ← hz2] at hf
              have a1 : (q2 : Int) ≤ (T1 : Int) := by omega
              have a2 : (T1 : Int) ≤ (sn : Int) := by omega
              have a3 : ¬ T1 < q2 := by omega
              have a4 : ¬ sn < T1 := by omega
              have a5 : (T1 : Int) < (sn : Int) := by omega
              have a6 : (T1 : Int) + 1 < (sn : Int) := by omega
              have HX := Lib.hid (And.intro hT2s (And.intro hT1s (And.intro hsl (show z.length = N by rw [hz2, List.length_take, List.length_drop]; omega))))
              clear hsx hxl c2 hz hN hN0 hbig hT1 hT2 e1 e11 e2 e20 e21 hN1 hq65 hT2i hshort hT2s hT1s hz2 hsz2 hsl hss hx1 hy1
              by_cases h13 : x1 = 13
              · have b13 : ((x1.toNat : Int) != 13) = false := by rw [h13]; rfl
                by_cases h10 : y1 = 10
                · have b10 : ((y1.toNat : Int) != 10) = false := by rw [h10]; rfl
                  rw [if_neg (by rw [h13, h10]; simp)] at hf
                  have HF := Lib.hid hf
                  clear hf h13 h10
                  have ww1 := WW.out.1
                  go_wp2_with (first
                    | (go_at_call 39; go_must (refine (C1.out).mono ?_); rintro e w1 ⟨rfl, hw1⟩; rw [← hw1]; clear hw1 w1)
                    | (go_at_call 66; go_must (refine (C2.out _).mono ?_); rintro e w2 ⟨rfl, hw2⟩; rw [← hw2]; clear hw2 w2))
                  refine ⟨⟨T2, l ++ z, by rw [HT.out.2]; rfl, by rw [HX.out.2.2.1], ⟨FS.out.fr, ?_, ?_, HX.out.1⟩⟩, ?_⟩
                  · rw [FS.out.eq, HF.out, Res.map_map]
                    congr 1
                    funext y
                    simp
                  · rw [List.length_append, HX.out.2.2.2]; have := FS.out.ge; have := HQ.out.1; have := HT.out; omega
                  · simp [intOf]; have := HQ.out; have := HT.out; have := HX.out.1; omega
                · have b10 : ((y1.toNat : Int) != 10) = true := by rw [bne_iff_ne]; intro h; exact h10 (UInt8.toNat_inj.1 (by show y1.toNat = 10; omega))
                  rw [if_pos (by intro h; injection h with h1 h2; injection h2 with h2; exact h10 h2)] at hf
                  have HF := Lib.hid hf
                  clear hf h13 h10
                  have ww1 := WW.out.1
                  go_wp2_with (first
                    | (go_at_call 39; go_must (refine (C1.out).mono ?_); rintro e w1 ⟨rfl, hw1⟩; rw [← hw1]; clear hw1 w1)
                    | (go_at_call 66; go_must (refine (C2.out _).mono ?_); rintro e w2 ⟨rfl, hw2⟩; rw [← hw2]; clear hw2 w2))
                  go_ret3
                  exact ⟨rcp_err (er := 282) (by rw [FS.out.eq, HF.out]; rfl) _ rfl, FS.out.fr⟩
              · have b13 : ((x1.toNat : Int) != 13) = true := by rw [bne_iff_ne]; intro h; exact h13 (UInt8.toNat_inj.1 (by show x1.toNat = 13; omega))
                rw [if_pos (by intro h; injection h with h1 h2; exact h13 h1)] at hf
                have HF := Lib.hid hf
                clear hf h13
                have ww1 := WW.out.1
                go_wp2_with (first
                  | (go_at_call 39; go_must (refine (C1.out).mono ?_); rintro e w1 ⟨rfl, hw1⟩; rw [← hw1]; clear hw1 w1)
                  | (go_at_call 66; go_must (refine (C2.out _).mono ?_); rintro e w2 ⟨rfl, hw2⟩; rw [← hw2]; clear hw2 w2))
                go_ret3
                exact ⟨rcp_err (er := 282) (by rw [FS.out.eq, HF.out]; rfl) _ rfl, FS.out.fr⟩
end Go.Proofs.YtojemdggbcklkaaDoor.WireR
