/- SHA-256's schedule: the reference's walk. -/
import Derived.Test.YtoemceehmiaigaaDoorShaRounds
import Derived.Test.YtoemceehmiaigaaDoorShaTurned
import Derived.Test.YtoemceehmiaigaaDoorLaws
namespace Go.Proofs.YtoemceehmiaigaaDoor.Sha
open Go.RowKit Go.Proofs.YtoemceehmiaigaaDoor.Mem

def WD (H : Nat) (w0 : World) (ws : List Value) (w : World) : Prop :=
  Blk w H 92 (col (fun _ => 0) 64) ∧ Blk w (H + 1) 92 ws ∧ Below H w0 w
theorem WD.drewN {H : Nat} {w0 w : World} {ws : List Value} (h : WD H w0 ws w) (n : Nat) : WD H w0 ws (w.drewN n) := ⟨h.1.drewN n, h.2.1.drewN n, below_drewN h.2.2 n⟩
theorem WD.drew {H : Nat} {w0 w : World} {ws : List Value} (h : WD H w0 ws w) : WD H w0 ws w.drew := ⟨h.1.drew, h.2.1.drew, h.2.2.drew⟩
theorem WD.set {H : Nat} {w0 w : World} {ws : List Value} (h : WD H w0 ws w) (i : Nat) (v : Value) : WD H w0 (ws.set i v) (w.setCell ⟨H + 1, i, none⟩ v) :=
  ⟨h.1.far (by simp) v, h.2.1.set_ i v, h.2.2.setCell (by simp) v⟩
theorem word_eq' (b : List UInt8) (p k : Nat) {c0 c1 c2 c3 : UInt8} (h0 : b[p + 4 * k]? = some c0) (h1 : b[p + 4 * k + 1]? = some c1) (h2 : b[p + 4 * k + 2]? = some c2) (h3 : b[p + 4 * k + 3]? = some c3) :
    wordAt b p k = be4 c0 c1 c2 c3 := by
  unfold wordAt
  simp only [List.getD_eq_getElem?_getD, h0, h1, h2, h3, Option.getD_some]
theorem rb_at {w : World} {ad : Addr} {l : List UInt8} (h : RB w (some ad) l) (p : Nat) (hp : p < l.length) : ∃ c, l[p]? = some c ∧ w.cell? (ad.add p) = some (bv c) := by
  obtain ⟨ad', e, hc⟩ := h p hp
  injection e with e
  subst e
  exact ⟨_, List.getElem?_eq_getElem hp, hc⟩
theorem xsum4 (a b c d : UInt32) : IntKind.u32.wrap (IntKind.u32.wrap (IntKind.u32.wrap ((a.toNat : Int) + (b.toNat : Int)) + (c.toNat : Int)) + (d.toNat : Int)) = ((a + b + c + d).toNat : Int) := by
  rw [← add32, ← add32, ← add32]

set_option maxHeartbeats 3200000 in
set_option maxRecDepth 8000 in
theorem words_any (l : List UInt8) (ad : Addr) (c p : Nat) (w : World) (ha : RB w (some ad) l) (hp : p + 64 ≤ l.length) (hl : l.length < 9223372036854775807) :
    Calls Tryd.prog 53 #[.slice (some ad) l.length c, .int .i64 (p : Int)] w fun e w' => e = .returned (.agg (col (W (wordAt l p)) 64).toArray) ∧ Below w.heap.size w w' := by
  obtain ⟨L, hL⟩ : ∃ L, L = l.length := ⟨_, rfl⟩
  rw [← hL] at hp hl ⊢
  have HL := Lib.hid hL
  clear hL
  generalize hH : w.heap.size = H
  have HA := Lib.hid ha
  clear ha
  go_enter Tryd.func53, Tryd.ntmps53
  go_wp2_with (first
    | ((with_reducible show wpList _ _ _ (⟨some 4, _, _, _, _, _⟩ :: _) _ _); go_must (refine wpList_allocB (op := ⟨some 4, _, _, _, _, _⟩) A92 rfl rfl H hH ?_); intro w1 hB1 hb1 hz1)
    | ((with_reducible show wpList _ _ _ (⟨some 5, _, _, _, _, _⟩ :: _) _ _); go_must (refine wpList_allocB (op := ⟨some 5, _, _, _, _, _⟩) A92 rfl rfl (H + 1) hz1 ?_); intro w2 hB2 hb2 hz2))
  have X : WD H w (mix (wordAt l p) (fun _ => 0) 0 64) w2 := by
    rw [mix_none]
    exact ⟨hB1.below hb2 (by omega), hB2, hb1.trans (hb2.mono (by omega))⟩
  have HX := Lib.hid X
  clear hB1 hB2 hb1 hb2 hz1 hz2 X w1
  go_loopw [6] (fun i wr => ∃ k : Nat, k ≤ 16 ∧ i = .int .i64 k ∧ WD H w (mix (wordAt l p) (fun _ => 0) k 64) wr)
    (fun i _ => 16 - (intOf i).toNat)
  case atStart => exact ⟨0, by omega, rfl, HX.out⟩
  case round =>
    clear HX
    obtain ⟨k, hk, rfl, X⟩ := hrel
    have HX := Lib.hid X
    by_cases hlt : k < 16
    -- A>
    · have hr : RB wr (some ad) l := HA.out.below (hH ▸ X.2.2)
      obtain ⟨c0, g0, q0⟩ := rb_at hr (p + 4 * k) (by have := HL.out; omega)
      obtain ⟨c1, g1, q1⟩ := rb_at hr (p + 4 * k + 1) (by have := HL.out; omega)
      obtain ⟨c2, g2, q2⟩ := rb_at hr (p + 4 * k + 2) (by have := HL.out; omega)
      obtain ⟨c3, g3, q3⟩ := rb_at hr (p + 4 * k + 3) (by have := HL.out; omega)
      have HW := Lib.hid (word_eq' l p k g0 g1 g2 g3)
      clear X hr g0 g1 g2 g3
      obtain ⟨p0, hp0⟩ : ∃ p0, p0 = p + 4 * k := ⟨_, rfl⟩
      obtain ⟨p1, hp1⟩ : ∃ p1, p1 = p + 4 * k + 1 := ⟨_, rfl⟩
      obtain ⟨p2, hp2⟩ : ∃ p2, p2 = p + 4 * k + 2 := ⟨_, rfl⟩
      obtain ⟨p3, hp3⟩ : ∃ p3, p3 = p + 4 * k + 3 := ⟨_, rfl⟩
      rw [← hp0] at q0
      rw [← hp1] at q1
      rw [← hp2] at q2
      rw [← hp3] at q3
      have m1 : IntKind.i64.wrap (p1 : Int) = (p1 : Int) := by rw [IntKind.wrap_i64]; omega
      have m2 : IntKind.i64.wrap (p2 : Int) = (p2 : Int) := by rw [IntKind.wrap_i64]; omega
      have m3 : IntKind.i64.wrap (p3 : Int) = (p3 : Int) := by rw [IntKind.wrap_i64]; omega
      have n0 : (p : Int) + 4 * (k : Int) = (p0 : Int) := by omega
      have n1 : (p0 : Int) + 1 = (p1 : Int) := by omega
      have n2 : (p0 : Int) + 2 = (p2 : Int) := by omega
      have n3 : (p0 : Int) + 3 = (p3 : Int) := by omega
      have y0 : (0 : Int) ≤ (p0 : Int) := by omega
      have y1 : (0 : Int) ≤ (p1 : Int) := by omega
      have y2 : (0 : Int) ≤ (p2 : Int) := by omega
      have y3 : (0 : Int) ≤ (p3 : Int) := by omega
      have y4 : (0 : Int) ≤ (k : Int) := by omega
      have y5 : (p0 : Int) ≤ 9223372036854775807 := by omega
      have x0 : (p0 : Int) < (L : Int) := by omega
      have x1 : (p1 : Int) < (L : Int) := by omega
      have x2 : (p2 : Int) < (L : Int) := by omega
      have x3 : (p3 : Int) < (L : Int) := by omega
      have x4 : (k : Int) < 64 := by omega
      clear hp0 hp1 hp2 hp3
      go_wp2_with fail
      go_still_tail 31, (by kernel_rfl)
      simp only [wu, shlw24, shlw16, shlw8, or32]
      rw [show (c0.toUInt32 <<< 24 ||| c1.toUInt32 <<< 16 ||| c2.toUInt32 <<< 8 ||| c3.toUInt32) = wordAt l p k from HW.out.symm]
      change wpList _ _ _ _ _ wr.drew
      obtain ⟨w2, hw2⟩ : ∃ w2, w2 = wr.drew := ⟨_, rfl⟩
      rw [← hw2]
      have HX2 := Lib.hid (hw2 ▸ HX.out.drew : WD H w (mix (wordAt l p) (fun _ => 0) k 64) w2)
      have q5 := HX2.out.2.1.cell k
      rw [mix_hi _ _ _ _ _ (Nat.le_refl _) (by omega)] at q5
      have q6 := HX2.out.2.1.frozen k
      clear HX hw2 q0 q1 q2 q3 n0 n1 n2 n3 HW m1 m2 m3
      go_wp2
      have HX3 := HX2.out.set k (w32 (wordAt l p k))
      rw [mix_set _ _ _ _ _ rfl] at HX3
      exact ⟨⟨k + 1, by omega, by go_num, HX3⟩, by simp [intOf]; omega⟩
    -- <A
    · have hk16 : k = 16 := by omega
      rw [hk16, mix_W] at X
      clear hk16
      have HX := Lib.hid X
      clear X
      go_wp2
      go_loopw [8] (fun i wr => ∃ k : Nat, 16 ≤ k ∧ k ≤ 64 ∧ i = .int .i64 k ∧ WD H w (mix (W (wordAt l p)) (fun _ => 0) k 64) wr)
        (fun i _ => 64 - (intOf i).toNat)
      case atStart => exact ⟨16, by omega, by omega, rfl, HX.out⟩
      case round =>
        clear HX
        obtain ⟨k, hk0, hk, rfl, X⟩ := hrel
        have HX := Lib.hid X
        by_cases hlt : k < 64
        -- B>
        · obtain ⟨p0, hp0⟩ : ∃ p, p = k - 16 := ⟨_, rfl⟩
          obtain ⟨p1, hp1⟩ : ∃ p, p = k - 15 := ⟨_, rfl⟩
          obtain ⟨p2, hp2⟩ : ∃ p, p = k - 7 := ⟨_, rfl⟩
          obtain ⟨p3, hp3⟩ : ∃ p, p = k - 2 := ⟨_, rfl⟩
          have HW := Lib.hid (W_of (wordAt l p) k hk0)
          obtain ⟨f, hf⟩ : ∃ f, f = W (wordAt l p) := ⟨_, rfl⟩
          rw [← hf, ← hp0, ← hp1, ← hp2, ← hp3] at HW
          have HF := Lib.hid hf
          rw [← hf] at X
          have HX := Lib.hid X
          have q0 := X.2.1.cell p0
          have q1 := X.2.1.cell p1
          have q2 := X.2.1.cell p2
          have q3 := X.2.1.cell p3
          rw [mix_lo _ _ _ _ _ (by omega) (by omega)] at q0 q1 q2 q3
          clear X hf
          have n0 : (k : Int) - 16 = (p0 : Int) := by omega
          have n1 : (k : Int) - 15 = (p1 : Int) := by omega
          have n2 : (k : Int) - 7 = (p2 : Int) := by omega
          have n3 : (k : Int) - 2 = (p3 : Int) := by omega
          have m0 : IntKind.i64.wrap (p0 : Int) = (p0 : Int) := by rw [IntKind.wrap_i64]; omega
          have m1 : IntKind.i64.wrap (p1 : Int) = (p1 : Int) := by rw [IntKind.wrap_i64]; omega
          have m2 : IntKind.i64.wrap (p2 : Int) = (p2 : Int) := by rw [IntKind.wrap_i64]; omega
          have m3 : IntKind.i64.wrap (p3 : Int) = (p3 : Int) := by rw [IntKind.wrap_i64]; omega
          have y0 : (0 : Int) ≤ (p0 : Int) := by omega
          have y1 : (0 : Int) ≤ (p1 : Int) := by omega
          have y2 : (0 : Int) ≤ (p2 : Int) := by omega
          have y3 : (0 : Int) ≤ (p3 : Int) := by omega
          have y4 : (0 : Int) ≤ (k : Int) := by omega
          have x0 : (p0 : Int) < 64 := by omega
          have x1 : (p1 : Int) < 64 := by omega
          have x2 : (p2 : Int) < 64 := by omega
          have x3 : (p3 : Int) < 64 := by omega
          have x4 : (k : Int) < 64 := by omega
          clear hp0 hp1 hp2 hp3
          obtain ⟨c0, hc0⟩ : ∃ c, c = f p0 := ⟨_, rfl⟩
          obtain ⟨c1, hc1⟩ : ∃ c, c = f p1 := ⟨_, rfl⟩
          obtain ⟨c2, hc2⟩ : ∃ c, c = f p2 := ⟨_, rfl⟩
          obtain ⟨c3, hc3⟩ : ∃ c, c = f p3 := ⟨_, rfl⟩
          rw [← hc0] at q0 HW
          rw [← hc1] at q1 HW
          rw [← hc2] at q2 HW
          rw [← hc3] at q3 HW
          replace hc0 := Lib.hid hc0
          replace hc2 := Lib.hid hc2
          clear hc1 hc3
          go_wp2_with fail
          go_quiet (fail)
          obtain ⟨w5, hw5⟩ : ∃ w5, w5 = wr.drewN nq := ⟨_, rfl⟩
          have HX5 := Lib.hid (hw5 ▸ HX.out.drewN nq : WD H w (mix f (fun _ => 0) k 64) w5)
          rw [← hw5]
          clear hw5 q0 q1 q2 q3 HX
          go_wp2_with (first
            | (go_at_call 69; first
              | ((with_reducible refine (rturned_7 c1 _).mono ?_); rintro e wa ⟨rfl, hwa⟩)
              | ((with_reducible refine (rturned_18 c1 _).mono ?_); rintro e wb ⟨rfl, hwb⟩)
              | ((with_reducible refine (rturned_17 c3 _).mono ?_); rintro e wc ⟨rfl, hwc⟩)
              | ((with_reducible refine (rturned_19 c3 _).mono ?_); rintro e wd ⟨rfl, hwd⟩)))
          simp only [shr3, shr10, xor32]
          obtain ⟨S0, hS0⟩ : ∃ t, t = rotr c1 7 ^^^ rotr c1 18 ^^^ c1 >>> 3 := ⟨_, rfl⟩
          obtain ⟨S1, hS1⟩ : ∃ t, t = rotr c3 17 ^^^ rotr c3 19 ^^^ c3 >>> 10 := ⟨_, rfl⟩
          rw [← hS0, ← hS1]
          rw [← hS0, ← hS1] at HW
          rw [show Value.int IntKind.u32 (S0.toNat : Int) = w32 S0 from rfl, show Value.int IntKind.u32 (S1.toNat : Int) = w32 S1 from rfl]
          have X6 : WD H w (mix f (fun _ => 0) k 64) wd := by
            obtain ⟨_, rfl⟩ := hwa
            obtain ⟨_, rfl⟩ := hwb
            obtain ⟨_, rfl⟩ := hwc
            obtain ⟨_, rfl⟩ := hwd
            exact (((HX5.out.drewN _).drewN _).drewN _).drewN _
          have HX6 := Lib.hid X6
          clear X6
          clear hS0 hS1 hwa hwb hwc hwd HX5
          have q0 := HX6.out.2.1.cell p0
          have q2 := HX6.out.2.1.cell p2
          rw [mix_lo _ _ _ _ _ (by omega) (by omega)] at q0 q2
          rw [← hc0.out] at q0
          rw [← hc2.out] at q2
          go_still_tail 15, (by kernel_rfl)
          simp only [xsum4]
          rw [show S1 + c2 + S0 + c0 = f k from by rw [HW.out]; ac_rfl]
          change wpList _ _ _ _ _ wd.drew
          obtain ⟨w6, hw6⟩ : ∃ w6, w6 = wd.drew := ⟨_, rfl⟩
          rw [← hw6]
          have HX7 := Lib.hid (hw6 ▸ HX6.out.drew : WD H w (mix f (fun _ => 0) k 64) w6)
          have q5 := HX7.out.2.1.cell k
          rw [mix_hi _ _ _ _ _ (Nat.le_refl _) (by omega)] at q5
          have q6 := HX7.out.2.1.frozen k
          clear HX6 hw6 q0 q2 n0 n1 n2 n3 HW m0 m1 m2 m3 hc0 hc2
          go_wp2
          have HX8 : WD H w (mix (W (wordAt l p)) (fun _ => 0) (k + 1) 64) (w6.setCell ⟨H + 1, k, none⟩ (w32 (f k))) := by
            have h := HX7.out.set k (w32 (f k))
            rw [mix_set _ _ _ _ _ rfl] at h
            rw [← HF.out]
            exact h
          exact ⟨⟨k + 1, by omega, by omega, by go_num, HX8⟩, by simp [intOf]; omega⟩
        -- <B
        · have hk64 : k = 64 := by omega
          rw [hk64, mix_full] at X
          clear hk64 HX
          obtain ⟨r, hr⟩ : ∃ r, r = col (W (wordAt l p)) 64 := ⟨_, rfl⟩
          have hrl : r.length = (col (fun _ => 0) 64).length := by rw [hr, col_length, col_length]
          have hr1 : ∀ v ∈ r, v.oneCell' = true := by rw [hr]; exact col_one _ _
          rw [← hr] at X
          have HR := Lib.hid hr
          clear hr
          obtain ⟨h1, h2, h3⟩ := X
          go_wp2_with (first
            | ((with_reducible show wpList _ _ _ (⟨some 95, _, _, _, _, _⟩ :: _) _ _); go_must (refine wpList_loadB (op := ⟨some 95, _, _, _, _, _⟩) A92 rfl _ rfl (H + 1) 0 rfl _ _ h2 r ((congrArg (List.take _) List.drop_zero).trans (List.take_of_length_le (Nat.le_of_eq hrl))) hrl ?_))
            | ((with_reducible show wpList _ _ _ (⟨none, .store 92 _ _, _, _, _, _⟩ :: _) _ _); go_must (refine wpList_storeB (op := ⟨none, _, _, _, _, _⟩) A92 rfl _ _ rfl H 0 rfl r rfl hrl _ _ h1 (Nat.le_of_eq ((Nat.zero_add _).trans hrl)) hr1 ?_); intro w10 hB10 hgr10 _))
          refine ret_cell A92 Tryd.results53 H rfl _ r (splice_all _ _ hrl ▸ hB10) hrl rfl ⟨by rw [HR.out], ?_⟩
          exact h3.grown hgr10 (by have := h1.lt; omega) (fun j hj => by simp at hj; omega)
end Go.Proofs.YtoemceehmiaigaaDoor.Sha
