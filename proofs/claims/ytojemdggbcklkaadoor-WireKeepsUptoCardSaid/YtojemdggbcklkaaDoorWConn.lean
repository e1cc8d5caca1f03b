/- weirref28.connection: is a piece among the Connection headers? -/
import Derived.Test.YtojemdggbcklkaaDoorWChunks
import Derived.Test.YtojemdggbcklkaaDoorWCloses

/- weirref28.chunks: a body in chunks. (Printed by mkwrchunks.py.) -/
namespace Go.Proofs.YtojemdggbcklkaaDoor.WireR
open Go.RowKit Go.Proofs.YtojemdggbcklkaaDoor.Mem Go.Proofs.YtojemdggbcklkaaDoor.Wire Go.Proofs.YtojemdggbcklkaaDoor.Strs Go.Proofs.YtojemdggbcklkaaDoor.Heads
set_option linter.unusedVariables false
set_option linter.unusedSimpArgs false
set_option maxRecDepth 4000

def RChunksPost (s : List UInt8) (r : Res Bytes) (e : Ending) : Prop :=
  match r with
  | .ok l b => e = .returned (.tuple #[.string ⟨l.toArray⟩, .int .i64 ((s.length - b.length : Nat) : Int), .int .i64 0])
  | .err er => ∃ x : ByteArray, e = .returned (.tuple #[.string x, .int .i64 0, .int .i64 (er : Int)])
theorem rcp_err {s : List UInt8} {r : Res Bytes} {er : Nat} {e : Ending} (h : r = .err er) (x : ByteArray) (he : e = .returned (.tuple #[.string x, .int .i64 0, .int .i64 (er : Int)])) : RChunksPost s r e := by rw [h]; exact ⟨x, he⟩
theorem rcp_ok {s : List UInt8} {r : Res Bytes} {l b : Bytes} {e : Ending} (h : r = .ok l b) (he : e = .returned (.tuple #[.string ⟨l.toArray⟩, .int .i64 ((s.length - b.length : Nat) : Int), .int .i64 0])) : RChunksPost s r e := by rw [h]; exact he
structure RKState (w wr : World) (s : List UInt8) (p : Nat) (q : Nat) (l : Bytes) : Prop where
  fr : Below w.heap.size w wr
  eq : chunksS p (s.drop p) = (chunksS q (s.drop q)).map (l ++ ·)
  ge : l.length + p ≤ q
  le : q ≤ s.length
set_option maxHeartbeats 16000000 in
theorem rchunks_any (s : List UInt8) (p : Nat) (w : World) (hp : p ≤ s.length) (hl : s.length ≤ 65536) :
    Calls Tryd.prog 45 #[.string ⟨s.toArray⟩, .int .i64 (p : Int)] w fun e w' => RChunksPost s (chunksS p (s.drop p)) e ∧ Below w.heap.size w w' := by
  obtain ⟨S, hS⟩ : ∃ S, S = (⟨s.toArray⟩ : ByteArray) := ⟨_, rfl⟩
  obtain ⟨sn, hsn⟩ : ∃ n, n = s.length := ⟨_, rfl⟩
  have hsz : S.size = sn := by rw [hS, hsn]; simp [ByteArray.size]
  have hsni : (sn : Int) ≤ 65536 := by omega
  have c0 := fun q h W => rline_any s q W h (by omega) 282 (by omega)
  have r0 := fun q h W => rlines_any s q W h hl 282 (by omega)
  rw [← hS] at c0 r0 ⊢
  have C0 := Lib.hid c0
  have R0 := Lib.hid r0
  have HB := Lib.hid (And.intro hp (And.intro hl (And.intro hsn hS)))
  clear c0 r0 hp hl hS hsn
  go_enter Tryd.func45, Tryd.ntmps45
  go_wp2
  go_loopw [1, 7] (fun a v wr => ∃ (q : Nat) (l : Bytes), a = .int .i64 q ∧ v = .string ⟨l.toArray⟩ ∧ RKState w wr s p q l) (fun a _ _ => s.length - (intOf a).toNat)
  case atStart => exact ⟨p, [], rfl, rfl, ⟨gr w, by cases chunksS p (s.drop p) <;> rfl, by simp, HB.out.1⟩⟩
  case round =>
    obtain ⟨q, l, rfl, rfl, FS⟩ := hrel
    replace FS := Lib.hid FS
    obtain ⟨bl, hbl⟩ : ∃ x, x = (⟨l.toArray⟩ : ByteArray) := ⟨_, rfl⟩
    rw [← hbl]
    have HL := Lib.hid hbl
    clear hbl
    have c1 := C0.out q FS.out.le wr
    cases hl : lineS 282 (s.drop q) with
    | err er =>
      rw [hl] at c1
      have hf : chunksS q (s.drop q) = .err er := by rw [chunksS_eq, hl]
      have HF := Lib.hid hf
      unfold RLinePost at c1
      simp only at c1
      by_cases h3 : er = 283
      · simp only [if_pos h3] at c1
        have C1 := Lib.hid c1
        have HE := Lib.hid h3
        clear c1 hl hf h3
        go_wp2_with (first
          | (go_at_call 39; go_must (refine (C1.out).mono ?_); rintro e w1 ⟨rfl, hw1⟩; rw [← hw1]; clear hw1 w1))
        go_ret3
        exact ⟨rcp_err (er := 283) (by rw [FS.out.eq, HF.out, HE.out]; rfl) _ rfl, FS.out.fr⟩
      · simp only [if_neg h3] at c1
        have C1 := Lib.hid c1
        have HE := Lib.hid ((lineS_err2 hl).resolve_left h3)
        clear c1 hl hf h3
        go_wp2_with (first
          | (go_at_call 39; go_must (refine (C1.out).mono ?_); rintro e w1 ⟨⟨j, hj0, rfl⟩, rfl⟩; have b0 : ((j : Int) == 0) = false := by rw [beq_eq_false_iff_ne]; omega))
        go_ret3
        exact ⟨rcp_err (er := 282) (by rw [FS.out.eq, HF.out, HE.out]; rfl) _ rfl, FS.out.fr⟩
    | ok x b =>
      rw [hl] at c1
      unfold RLinePost at c1
      simp only at c1
      obtain ⟨u, hu⟩ := lineS_suf hl
      have hbs := drop_suf hu FS.out.le
      have hbl := lineS_len hl
      rw [List.length_drop] at hbl
      obtain ⟨q2, hq2⟩ : ∃ q2, q2 = s.length - b.length := ⟨_, rfl⟩
      rw [← hq2] at hbs c1
      have hqq : q < q2 := by have := FS.out.le; omega
      have hq2n : q2 ≤ s.length := by omega
      have hq65 : q2 ≤ 65536 := by have := HB.out.2.1; omega
      have hf := chunksS_eq q (s.drop q)
      rw [hl] at hf
      simp only at hf
      rw [show q + ((s.drop q).length - b.length) = q2 by rw [List.length_drop]; omega, hbs] at hf
      have hxl : x.length ≤ 65536 := by
        have h2 : x.length ≤ (s.drop q).length := lineS_le hl
        rw [List.length_drop] at h2
        have := HB.out.2.1
        omega
      obtain ⟨sx, hsx⟩ : ∃ sx, sx = (⟨x.toArray⟩ : ByteArray) := ⟨_, rfl⟩
      rw [← hsx] at c1
      have C1 := Lib.hid c1
      have c2 := fun W => chunk_any x W hxl
      rw [← hsx] at c2
      have HQ := Lib.hid (And.intro hqq hq2n)
      have b0 : ((q2 : Int) == 0) = false := by rw [beq_eq_false_iff_ne]; omega
      clear c1 hl hu hbl hbs hqq hq2n hq2
      cases hz : sizeS x with
      | none =>
        rw [hz] at hf
        simp only at hf
        have HF := Lib.hid (hf)
        unfold ChunkPost at c2
        simp only [hz] at c2
        have C2 := Lib.hid c2
        clear hf hsx hxl c2 hz hq65
        go_wp2_with (first
          | (go_at_call 39; go_must (refine (C1.out).mono ?_); rintro e w1 ⟨rfl, hw1⟩; rw [← hw1]; clear hw1 w1)
          | (go_at_call 66; go_must (refine (C2.out _).mono ?_); rintro e w2 ⟨rfl, hw2⟩; rw [← hw2]; clear hw2 w2))
        go_ret3
        exact ⟨rcp_err (er := 282) (by rw [FS.out.eq, HF.out]; rfl) _ rfl, FS.out.fr⟩
      | some N =>
        rw [hz] at hf
        simp only at hf
        have hN := size_lt hz
        unfold ChunkPost at c2
        simp only [hz] at c2
        have C2 := Lib.hid c2
        have bneg : decide ((N : Int) < 0) = false := by rw [decide_eq_false_iff_not]; omega
        have bneg' : ¬ (N : Int) < 0 := by omega
        by_cases hN0 : N = 0
        · rw [if_pos hN0] at hf
          have bN : ((N : Int) == 0) = true := by simp; omega
          have c3 := R0.out q2 HQ.out.2
          have HF := Lib.hid hf
          cases hfl : fieldsS 282 (s.drop q2) with
          | err er =>
            simp only [hfl] at c3
            rw [hfl] at hf
            have C3 := Lib.hid c3
            have HF := Lib.hid hf
            clear c3 hfl hf hsx hxl c2 hz hN hN0 hq65
            go_wp2_with (first
              | (go_at_call 39; go_must (refine (C1.out).mono ?_); rintro e w1 ⟨rfl, hw1⟩; rw [← hw1]; clear hw1 w1)
              | (go_at_call 66; go_must (refine (C2.out _).mono ?_); rintro e w2 ⟨rfl, hw2⟩; rw [← hw2]; clear hw2 w2)
              | (go_at_call 41; go_must (refine (C3.out _).mono ?_); rintro e w3 hp3; obtain ⟨hb3, rfl⟩ := hp3; have H3 := Lib.hid hb3; clear hb3))
            go_ret3
            exact ⟨rcp_err (er := er) (by rw [FS.out.eq, HF.out]; rfl) _ rfl, FS.out.fr.trans (H3.out.mono FS.out.fr.size)⟩
          | ok hs b2 =>
            simp only [hfl] at c3
            rw [hfl] at hf
            have C3 := Lib.hid c3
            have HF := Lib.hid hf
            clear c3 hfl hf hsx hxl c2 hz hN hN0 hq65
            go_wp2_with (first
              | (go_at_call 39; go_must (refine (C1.out).mono ?_); rintro e w1 ⟨rfl, hw1⟩; rw [← hw1]; clear hw1 w1)
              | (go_at_call 66; go_must (refine (C2.out _).mono ?_); rintro e w2 ⟨rfl, hw2⟩; rw [← hw2]; clear hw2 w2)
              | (go_at_call 41; go_must (refine (C3.out _).mono ?_); rintro e w3 hp3; obtain ⟨hb3, A3, k3, rfl, _⟩ := hp3; have H3 := Lib.hid hb3; clear hb3))
            go_ret3
            exact ⟨rcp_ok (l := l) (b := b2) (by rw [FS.out.eq, HF.out]; simp [Res.map]) (by rw [← HL.out]; rfl), FS.out.fr.trans (H3.out.mono FS.out.fr.size)⟩
        · rw [if_neg hN0] at hf
          have bN : ((N : Int) == 0) = false := by rw [beq_eq_false_iff_ne]; omega
          obtain ⟨T1, hT1⟩ : ∃ t, t = q2 + N := ⟨_, rfl⟩
          obtain ⟨T2, hT2⟩ : ∃ t, t = T1 + 2 := ⟨_, rfl⟩
          rw [show q2 + N + 2 = T2 by omega] at hf
          have e1 : (q2 : Int) + (N : Int) = (T1 : Int) := by omega
          have e10 : (0 : Int) ≤ (T1 : Int) := by omega
          have e11 : (T1 : Int) ≤ 1152921504606846976 := by omega
          have e2 : (T1 : Int) + 2 = (T2 : Int) := by omega
          have e20 : (0 : Int) ≤ (T2 : Int) := by omega
          have e21 : (T2 : Int) ≤ 1152921504606846976 := by omega
          have WW := Lib.hid (And.intro (w64b e1 e10 e11) (w64b e2 e20 e21))
          have HT := Lib.hid (And.intro hT1 hT2)
          have hN1 : 1 ≤ N := by omega
          by_cases hbig : 65536 < T2
          · rw [if_pos hbig] at hf
            have bb : decide ((65536 : Int) < (T2 : Int)) = true := by rw [decide_eq_true_iff]; omega
            have HF := Lib.hid hf
            clear hf hsx hxl c2 hz hN hN0 hbig hT1 hT2 e1 e10 e11 e2 e20 e21 hN1 hq65
            have ww1 := WW.out.1
            have ww2 := WW.out.2
            go_wp2_with (first
              | (go_at_call 39; go_must (refine (C1.out).mono ?_); rintro e w1 ⟨rfl, hw1⟩; rw [← hw1]; clear hw1 w1)
              | (go_at_call 66; go_must (refine (C2.out _).mono ?_); rintro e w2 ⟨rfl, hw2⟩; rw [← hw2]; clear hw2 w2))
            go_ret3
            exact ⟨rcp_err (er := 284) (by rw [FS.out.eq, HF.out]; rfl) _ rfl, FS.out.fr⟩
          · rw [if_neg hbig] at hf
            have bb : decide ((65536 : Int) < (T2 : Int)) = false := by rw [decide_eq_false_iff_not]; omega
            have hT2i : T2 ≤ 65536 := by omega
            by_cases hshort : sn < T2
            · have bs : decide ((sn : Int) < (T2 : Int)) = true := by rw [decide_eq_true_iff]; omega
              have bsn : decide (sn < T2) = true := decide_eq_true hshort
              have bsp : sn < T2 := hshort
              rw [if_pos (by rw [List.length_drop]; have := HB.out.2.2.1; have := HQ.out.2; omega)] at hf
              have HF := Lib.hid hf
              clear hf hsx hxl c2 hz hN hN0 hbig hT1 hT2 e1 e10 e11 e2 e20 e21 hN1 hq65 hT2i hshort
              have ww1 := WW.out.1
              have ww2 := WW.out.2
              go_wp2_with (first
                | (go_at_call 39; go_must (refine (C1.out).mono ?_); rintro e w1 ⟨rfl, hw1⟩; rw [← hw1]; clear hw1 w1)
                | (go_at_call 66; go_must (refine (C2.out _).mono ?_); rintro e w2 ⟨rfl, hw2⟩; rw [← hw2]; clear hw2 w2))
              go_ret3
              exact ⟨rcp_err (er := 283) (by rw [FS.out.eq, HF.out]; rfl) _ rfl, FS.out.fr⟩
            · have bs : decide ((sn : Int) < (T1 : Int) + 2) = false := by rw [decide_eq_false_iff_not]; omega
              have bb2 : decide ((65536 : Int) < (T1 : Int) + 2) = false := by rw [decide_eq_false_iff_not]; omega
              clear bb
              have hT2s : T2 ≤ s.length := by have := HB.out.2.2.1; omega
              have hT1s : T1 + 1 < s.length := by omega
              obtain ⟨z, hz2⟩ : ∃ z, z = (s.drop q2).take N := ⟨_, rfl⟩
              obtain ⟨sz, hsz2⟩ : ∃ x, x = (⟨z.toArray⟩ : ByteArray) := ⟨_, rfl⟩
              obtain ⟨sl, hsl⟩ : ∃ x, x = (⟨(l ++ z).toArray⟩ : ByteArray) := ⟨_, rfl⟩
              have ex : S.extract q2 T1 = sz := by
                rw [HB.out.2.2.2, hsz2, hz2, Lib.extract_eq]
                show (⟨((s.drop q2).take _).toArray⟩ : ByteArray) = _
                rw [show T1 - q2 = N by omega]
              have hap : (bl ++ sz : ByteArray) = sl := by rw [HL.out, hsz2, hsl]; apply ByteArray.ext; simp
              have hbls : bl.size ≤ 65536 := by
                rw [HL.out]
                have := FS.out.ge
                have := FS.out.le
                have := HB.out.2.1
                simp [ByteArray.size]
                omega
              have hszs : sz.size ≤ 65536 := by
                rw [hsz2, hz2]
                simp [ByteArray.size]
                omega
              have hss := HB.out.2.2.1
              have hks1 : T1 < S.size := by omega
              have hks3 : T1 + 1 < S.size := by omega
              obtain ⟨x1, hx1⟩ : ∃ x, x = s[T1] := ⟨_, rfl⟩
              obtain ⟨y1, hy1⟩ : ∃ x, x = s[T1 + 1] := ⟨_, rfl⟩
              have hsx1 : S[T1] = x1 := by
                have : ∀ s' : ByteArray, s' = (⟨s.toArray⟩ : ByteArray) → ∀ h, s'[T1]'h = s[T1] := fun s' e h => by subst e; rfl
                rw [hx1]; exact this S HB.out.2.2.2 hks1
              have hsy1 : S[T1 + 1] = y1 := by
                have : ∀ s' : ByteArray, s' = (⟨s.toArray⟩ : ByteArray) → ∀ h, s'[T1 + 1]'h = s[T1 + 1] := fun s' e h => by subst e; rfl
                rw [hy1]; exact this S HB.out.2.2.2 hks3
              rw [if_neg (by rw [List.length_drop]; omega), List.drop_drop, show q2 + N = T1 from HT.out.1.symm, take_two hT1s, ← hx1, ← hy1, List.drop_drop, show q2 + (N + 2) = T2 by omega, ← hz2] at hf
              have a1 : (q2 : Int) ≤ (T1 : Int) := by omega
              have a2 : (T1 : Int) ≤ (sn : Int) := by omega
              have a3 : ¬ T1 < q2 := by omega
              have a4 : ¬ sn < T1 := by omega
              have a5 : (T1 : Int) < (sn : Int) := by omega
              have a6 : (T1 : Int) + 1 < (sn : Int) := by omega
              have HX := Lib.hid (And.intro hT2s (And.intro hT1s (And.intro hsl (show z.length = N by rw [hz2, List.length_take, List.length_drop]; omega))))
              clear hsx hxl c2 hz hN hN0 hbig hT1 hT2 e1 e11 e2 e20 e21 hN1 hq65 hT2i hshort hT2s hT1s hz2 hsz2 hsl hss hx1 hy1
              by_cases h13 : x1 = 13
              · have b13 : ((x1.toNat : Int) != 13) = false := by rw [h13]; rfl
                by_cases h10 : y1 = 10
                · have b10 : ((y1.toNat : Int) != 10) = false := by rw [h10]; rfl
                  rw [if_neg (by rw [h13, h10]; simp)] at hf
                  have HF := Lib.hid hf
                  clear hf h13 h10
                  have ww1 := WW.out.1
                  go_wp2_with (first
                    | (go_at_call 39; go_must (refine (C1.out).mono ?_); rintro e w1 ⟨rfl, hw1⟩; rw [← hw1]; clear hw1 w1)
                    | (go_at_call 66; go_must (refine (C2.out _).mono ?_); rintro e w2 ⟨rfl, hw2⟩; rw [← hw2]; clear hw2 w2))
                  refine ⟨⟨T2, l ++ z, by rw [HT.out.2]; rfl, by rw [HX.out.2.2.1], ⟨FS.out.fr, ?_, ?_, HX.out.1⟩⟩, ?_⟩
                  · rw [FS.out.eq, HF.out, Res.map_map]
                    congr 1
                    funext y
                    simp
                  · rw [List.length_append, HX.out.2.2.2]; have := FS.out.ge; have := HQ.out.1; have := HT.out; omega
                  · simp [intOf]; have := HQ.out; have := HT.out; have := HX.out.1; omega
                · have b10 : ((y1.toNat : Int) != 10) = true := by rw [bne_iff_ne]; intro h; exact h10 (UInt8.toNat_inj.1 (by show y1.toNat = 10; omega))
                  rw [if_pos (by intro h; injection h with h1 h2; injection h2 with h2; exact h10 h2)] at hf
                  have HF := Lib.hid hf
                  clear hf h13 h10
                  have ww1 := WW.out.1
                  go_wp2_with (first
                    | (go_at_call 39; go_must (refine (C1.out).mono ?_); rintro e w1 ⟨rfl, hw1⟩; rw [← hw1]; clear hw1 w1)
                    | (go_at_call 66; go_must (refine (C2.out _).mono ?_); rintro e w2 ⟨rfl, hw2⟩; rw [← hw2]; clear hw2 w2))
                  go_ret3
                  exact ⟨rcp_err (er := 282) (by rw [FS.out.eq, HF.out]; rfl) _ rfl, FS.out.fr⟩
              · have b13 : ((x1.toNat : Int) != 13) = true := by rw [bne_iff_ne]; intro h; exact h13 (UInt8.toNat_inj.1 (by show x1.toNat = 13; omega))
                rw [if_pos (by intro h; injection h with h1 h2; exact h13 h1)] at hf
                have HF := Lib.hid hf
                clear hf h13
                have ww1 := WW.out.1
                go_wp2_with (first
                  | (go_at_call 39; go_must (refine (C1.out).mono ?_); rintro e w1 ⟨rfl, hw1⟩; rw [← hw1]; clear hw1 w1)
                  | (go_at_call 66; go_must (refine (C2.out _).mono ?_); rintro e w2 ⟨rfl, hw2⟩; rw [← hw2]; clear hw2 w2))
                go_ret3
                exact ⟨rcp_err (er := 282) (by rw [FS.out.eq, HF.out]; rfl) _ rfl, FS.out.fr⟩
end Go.Proofs.YtojemdggbcklkaaDoor.WireR
namespace Go.Proofs.YtojemdggbcklkaaDoor.WireR
open Go.RowKit Go.Proofs.YtojemdggbcklkaaDoor.Mem Go.Proofs.YtojemdggbcklkaaDoor.Wire Go.Proofs.YtojemdggbcklkaaDoor.Strs Go.Proofs.YtojemdggbcklkaaDoor.Split Go.Proofs.YtojemdggbcklkaaDoor.Heads
set_option linter.unusedVariables false
set_option linter.unusedSimpArgs false
set_option maxRecDepth 4000

/-- what is left of a value and its comma -/
def restAny (name r : Bytes) : Bool := if r = [] then false else (splitL 44 r.dropLast).any (isP name)
def Tailed (r : Bytes) : Prop := r = [] ∨ ∃ t, r = t ++ [44]
theorem rest_full (name v : Bytes) : restAny name (v ++ [44]) = inV name v := by
  unfold restAny inV
  rw [if_neg (by simp), List.dropLast_concat]
theorem rest_step {name r : Bytes} (h : Tailed r) (hne : r ≠ []) : ∃ a r', cutL 44 r = some (a, r') ∧ restAny name r = (isP name a || restAny name r') ∧ Tailed r' := by
  rcases h with h | ⟨t, rfl⟩
  · exact absurd h hne
  · cases hc : cutL 44 t with
    | none =>
      refine ⟨t, [], cutL_of (cutL_none hc), ?_, .inl rfl⟩
      unfold restAny
      rw [if_neg hne, if_pos rfl, List.dropLast_concat, splitL_none hc]
      simp
    | some p =>
      obtain ⟨a, b⟩ := p
      obtain ⟨e, hn⟩ := cutL_some hc
      refine ⟨a, b ++ [44], ?_, ?_, .inr ⟨b, rfl⟩⟩
      · rw [e, List.append_assoc, List.cons_append]; exact cutL_of hn
      · unfold restAny
        rw [if_neg hne, if_neg (by simp), List.dropLast_concat, List.dropLast_concat, splitL_some hc]
        simp
set_option maxHeartbeats 16000000 in
theorem connection_any (A : Option Addr) (n c : Nat) (hs : List HD) (name : Bytes) (w : World) (hA : RV w A (hs.flatMap HD.cells)) (hn : n = hs.length) (hok : ∀ h ∈ hs, HD.ok h) (hl : n ≤ 1048576) (hlow : low name = name) (hnl : name.length ≤ 1048576) :
    Calls Tryd.prog 46 #[.slice A n c, .string ⟨name.toArray⟩] w fun e w' => e = .returned (.bool (connS hs name)) ∧ Below w.heap.size w w' := by
  obtain ⟨V, hV⟩ : ∃ V, V = vals hs nConn := ⟨_, rfl⟩
  have n1 := values_any A n c hs nConn w hA hn hok hl (by decide)
  have hVm : ∀ d ∈ V, d.length ≤ 1048576 := fun d hd => vals_mem (by rw [← hV]; exact hd) hok
  have hVn : V.length ≤ n := by rw [hV, hn]; exact vals_len _ _
  rw [← hV] at n1
  obtain ⟨m, hm⟩ : ∃ m, m = V.length := ⟨_, rfl⟩
  rw [← hm] at n1
  have hmi : (m : Int) ≤ 1048576 := by omega
  have HE := Lib.hid (show connS hs name = V.any (inV name) by rw [conn_eq, hV])
  have N1 := Lib.hid n1
  have HV := Lib.hid (And.intro hm (And.intro hVm (And.intro hVn (And.intro hlow hnl))))
  obtain ⟨sn, hsn⟩ : ∃ x, x = (⟨name.toArray⟩ : ByteArray) := ⟨_, rfl⟩
  rw [← hsn]
  have HN := Lib.hid hsn
  clear n1 hA hn hok hl hVm hVn hV hm hsn hlow hnl
  go_enter Tryd.func46, Tryd.ntmps46
  go_wp2_with (first
    | (go_at_call 42; go_must (refine (N1.out).mono ?_); rintro e w2 hpost; obtain ⟨v2, rfl, ho, hb⟩ := hpost; obtain ⟨A2, c2, rfl, hc2⟩ := own_slice ho; clear hc2))
  have hrv2 := own_rv ho
  have HO := Lib.hid (And.intro hrv2 hb)
  clear ho hb hrv2
  go_loopw [6] (fun v wr => ∃ (k : Nat), k ≤ m ∧ v = .int .i64 k ∧ (V.take k).any (inV name) = false ∧ RV wr A2 (V.map Heads.strV) ∧ Below w.heap.size w wr) (fun v _ => m - (intOf v).toNat)
  case atStart => exact ⟨0, by omega, rfl, rfl, HO.out.1, HO.out.2⟩
  case round =>
    obtain ⟨k, hk, rfl, hcl, hrv, hbel⟩ := hrel
    have hk0 : (0 : Int) ≤ (k : Int) := by omega
    by_cases hlt : k < m
    · have hkm : (k : Int) < (m : Int) := by omega
      have hkV : k < V.length := by have := HV.out.1; omega
      obtain ⟨ad, hA2, hcell⟩ := str_cell hrv hkV
      subst hA2
      obtain ⟨d, hd⟩ : ∃ d, d = V[k] := ⟨_, rfl⟩
      rw [← hd] at hcell
      have hdl := HV.out.2.1 d (by rw [hd]; exact List.getElem_mem _)
      have hs2 := any_step (p := inV name) hkV
      rw [← hd] at hs2
      obtain ⟨sd, hsd⟩ : ∃ x, x = (⟨d.toArray⟩ : ByteArray) := ⟨_, rfl⟩
      obtain ⟨sx, hsx⟩ : ∃ x, x = (⟨(d ++ [44]).toArray⟩ : ByteArray) := ⟨_, rfl⟩
      have happ : (sd ++ (⟨#[44]⟩ : ByteArray) : ByteArray) = sx := by rw [hsd, hsx]; apply ByteArray.ext; simp
      have hsds : sd.size = d.length := by rw [hsd]; simp [ByteArray.size]
      have hsdi : sd.size ≤ 1048576 := by omega
      rw [← hsd] at hcell
      have HK := Lib.hid (And.intro hdl (And.intro hcl (And.intro hrv (And.intro hbel (And.intro hs2 (And.intro hlt (And.intro hsx (show inV name d = true → V.any (inV name) = true from fun h => any_yes hkV (by rw [← hd]; exact h)))))))))
      clear hcl hrv hbel hs2 hlt hkV hd hdl hsd hsds hsx
      go_wp2
      go_loopw [7] (fun v wr2 => ∃ (r : Bytes), v = .string ⟨r.toArray⟩ ∧ Tailed r ∧ inV name d = restAny name r ∧ r.length ≤ 1048577 ∧ Below wr.heap.size wr wr2) (fun v _ => strLen v)
      case atStart => exact ⟨d ++ [44], by rw [HK.out.2.2.2.2.2.2.1], .inr ⟨d, rfl⟩, (rest_full name d).symm, by rw [List.length_append]; have := HK.out.1; simp; omega, gr _⟩
      case round =>
        rename World => wi
        obtain ⟨r, rfl, hT, heq, hrl, hb3⟩ := hrel
        obtain ⟨sr, hsr⟩ : ∃ x, x = (⟨r.toArray⟩ : ByteArray) := ⟨_, rfl⟩
        rw [← hsr]
        by_cases hr0 : r = []
        · have k0 : sr.toList.isEmpty = true := by rw [hsr, hr0, ByteArray.toList_eq]; rfl
          have HJ := Lib.hid (And.intro (show (V.take (k + 1)).any (inV name) = false by rw [HK.out.2.2.2.2.1, HK.out.2.1, heq, hr0]; rfl) hb3)
          clear hT heq hrl hb3 hr0 hsr
          go_wp2
          exact ⟨⟨k + 1, by have := HK.out.2.2.2.2.2.1; omega, by go_num, HJ.out.1, HK.out.2.2.1.below HJ.out.2, gt HK.out.2.2.2.1 HJ.out.2⟩, by simp [intOf]; have := HK.out.2.2.2.2.2.1; omega⟩
        · have k0 : sr.toList.isEmpty = false := by rw [hsr, ByteArray.toList_eq]; cases r with | nil => exact absurd rfl hr0 | cons a t => rfl
          obtain ⟨a, r', hcut, hst, hT'⟩ := rest_step (name := name) hT hr0
          have hix := idx_t hcut
          have fi := fun W => find_any r 44 W (by omega)
          obtain ⟨e1, e2⟩ := ext_two hcut
          have hlen := cutL_len hcut
          obtain ⟨an, han⟩ : ∃ x, x = a.length := ⟨_, rfl⟩
          obtain ⟨rn, hrn⟩ : ∃ x, x = r.length := ⟨_, rfl⟩
          have hsz : sr.size = rn := by rw [hsr, hrn]; simp [ByteArray.size]
          have tr := fun (W : World) => rtrim_any a W (by omega)
          have htl := trim_len a
          have s1 := fun (W : World) => rsame_any (trimL a) name W (by omega) (by have := HV.out.2.2.2.2; omega)
          rw [HV.out.2.2.2.1] at s1
          obtain ⟨sa, hsa⟩ : ∃ x, x = (⟨a.toArray⟩ : ByteArray) := ⟨_, rfl⟩
          obtain ⟨sb, hsb⟩ : ∃ x, x = (⟨r'.toArray⟩ : ByteArray) := ⟨_, rfl⟩
          obtain ⟨st, hst'⟩ : ∃ x, x = (⟨(trimL a).toArray⟩ : ByteArray) := ⟨_, rfl⟩
          obtain ⟨bc, hbc⟩ : ∃ x, x = decide (low (trimL a) = name) := ⟨_, rfl⟩
          rw [hix, ← han, ← hsr] at fi
          rw [← hsr, ← han, ← hsa] at e1
          rw [← hsr, ← han, ← hsb, ← hrn] at e2
          rw [← hsa, ← hst'] at tr
          rw [← hst', ← HN.out, ← hbc] at s1
          rw [show isP name a = bc from hbc.symm] at hst
          have FI := Lib.hid fi
          have TR := Lib.hid tr
          have S1 := Lib.hid s1
          have i1 : (an : Int) + 1 ≤ (rn : Int) := by omega
          have i2 : ¬ rn < an + 1 := by omega
          have i3 : ¬ rn < an := by omega
          have i4 : (rn : Int) ≤ 1048577 := by omega
          have HJ := Lib.hid (And.intro (heq.trans hst) (And.intro hT' (And.intro hsb (show r'.length < rn ∧ r'.length ≤ 1048577 by omega))))
          have HT := Lib.hid hb3
          clear fi tr s1 hT heq hrl hb3 hr0 hsr hcut hst hT' hix hlen han hrn htl hsa hsb hst' hbc
          cases bc
          · go_wp2_with (first
              | (go_at_call 62; go_must (refine (FI.out _).mono ?_); rintro e wt ⟨rfl, hwt⟩; rw [← hwt]; clear hwt wt)
              | (go_at_call 67; go_must (refine (TR.out _).mono ?_); rintro e wt ⟨rfl, hwt⟩; rw [← hwt]; clear hwt wt)
              | (go_at_call 43; go_must (refine (S1.out _).mono ?_); rintro e wt ⟨rfl, hbt⟩; replace HT := Lib.hid (gt HT.out hbt); clear hbt))
            exact ⟨⟨r', by rw [HJ.out.2.2.1], HJ.out.2.1, by rw [HJ.out.1]; rfl, HJ.out.2.2.2.2, HT.out⟩, by exact str_less HJ.out.2.2.1 hsz HJ.out.2.2.2.1⟩
          · go_wp2_with (first
              | (go_at_call 62; go_must (refine (FI.out _).mono ?_); rintro e wt ⟨rfl, hwt⟩; rw [← hwt]; clear hwt wt)
              | (go_at_call 67; go_must (refine (TR.out _).mono ?_); rintro e wt ⟨rfl, hwt⟩; rw [← hwt]; clear hwt wt)
              | (go_at_call 43; go_must (refine (S1.out _).mono ?_); rintro e wt ⟨rfl, hbt⟩; replace HT := Lib.hid (gt HT.out hbt); clear hbt))
            go_ret
            exact ⟨by rw [HE.out, HK.out.2.2.2.2.2.2.2 (by rw [HJ.out.1]; rfl)]; rfl, gt HK.out.2.2.2.1 HT.out⟩
    · obtain rfl : k = m := by omega
      have ht : V.take k = V := List.take_of_length_le (by have := HV.out.1; omega)
      rw [ht] at hcl
      have HF := Lib.hid (And.intro hcl hbel)
      clear hcl hbel ht hlt hrv
      go_wp2
      go_ret
      exact ⟨by rw [HE.out, HF.out.1]; rfl, HF.out.2⟩
end Go.Proofs.YtojemdggbcklkaaDoor.WireR
