/- SHA-256's block step: the program's walk. -/
import Derived.Test.YtoemceehmiaigaaDoorShaRounds
import Derived.Test.YtoemceehmiaigaaDoorShaTurned
import Derived.Test.YtoemceehmiaigaaDoorRgR
namespace Go.Proofs.YtoemceehmiaigaaDoor.Sha
open Go.RowKit Go.Proofs.YtoemceehmiaigaaDoor.Mem

/-- the four variables of a block step -/
def BC (B H : Nat) (w0 : World) (sc bc ws : List Value) (w : World) : Prop :=
  B ≤ H ∧ Blk w H 40 sc ∧ Blk w (H + 1) 41 bc ∧ Blk w (H + 2) 40 zero8.cells ∧ Blk w (H + 3) 92 ws ∧ Below B w0 w

theorem BC.drewN {B H : Nat} {w0 w : World} {sc bc ws : List Value} (h : BC B H w0 sc bc ws w) (n : Nat) : BC B H w0 sc bc ws (w.drewN n) :=
  ⟨h.1, h.2.1.drewN n, h.2.2.1.drewN n, h.2.2.2.1.drewN n, h.2.2.2.2.1.drewN n, below_drewN h.2.2.2.2.2 n⟩
theorem BC.drew {B H : Nat} {w0 w : World} {sc bc ws : List Value} (h : BC B H w0 sc bc ws w) : BC B H w0 sc bc ws w.drew :=
  ⟨h.1, h.2.1.drew, h.2.2.1.drew, h.2.2.2.1.drew, h.2.2.2.2.1.drew, h.2.2.2.2.2.drew⟩
theorem BC.set {B H : Nat} {w0 w : World} {sc bc ws : List Value} (h : BC B H w0 sc bc ws w) (i : Nat) (v : Value) : BC B H w0 sc bc (ws.set i v) (w.setCell ⟨H + 3, i, none⟩ v) :=
  ⟨h.1, h.2.1.far (by simp) v, h.2.2.1.far (by simp) v, h.2.2.2.1.far (by simp) v, h.2.2.2.2.1.set_ i v, h.2.2.2.2.2.setCell (by have := h.1; simp; omega) v⟩

/-- with the round words and the working state -/
def DC (B H g k : Nat) (w0 : World) (sc bc ws kt v : List Value) (w : World) : Prop :=
  BC B H w0 sc bc ws w ∧ H + 3 < g ∧ H + 3 < k ∧ g ≠ k ∧ Blk w k 92 kt ∧ Blk w g 40 v
theorem DC.drewN {B H g k : Nat} {w0 w : World} {sc bc ws kt v : List Value} (h : DC B H g k w0 sc bc ws kt v w) (n : Nat) : DC B H g k w0 sc bc ws kt v (w.drewN n) :=
  ⟨h.1.drewN n, h.2.1, h.2.2.1, h.2.2.2.1, h.2.2.2.2.1.drewN n, h.2.2.2.2.2.drewN n⟩
theorem DC.drew {B H g k : Nat} {w0 w : World} {sc bc ws kt v : List Value} (h : DC B H g k w0 sc bc ws kt v w) : DC B H g k w0 sc bc ws kt v w.drew :=
  ⟨h.1.drew, h.2.1, h.2.2.1, h.2.2.2.1, h.2.2.2.2.1.drew, h.2.2.2.2.2.drew⟩
theorem DC.turn {B H g k : Nat} {w0 w w' : World} {sc bc ws kt v v' : List Value} (h : DC B H g k w0 sc bc ws kt v w) (hb : w.grownBy w' (some g)) (hv : Blk w' g 40 v') : DC B H g k w0 sc bc ws kt v' w' := by
  obtain ⟨⟨h0, h1, h2, h3, h4, h5⟩, h6, h7, h8, h9, h10⟩ := h
  exact ⟨⟨h0, h1.grown hb (by simp; omega), h2.grown hb (by simp; omega), h3.grown hb (by simp; omega), h4.grown hb (by simp; omega), h5.grown hb (by have := h1.lt; omega) (fun j hj => by simp at hj; omega)⟩, h6, h7, h8, h9.grown hb (by simp; omega), hv⟩

theorem DC.facts {B H g k0 : Nat} {w0 w : World} {sc bc : List Value} {f : Nat → UInt32} {va vb vc vd ve vf vg vh : UInt32} (h : DC B H g k0 w0 sc bc (col f 64) (col K 64) (⟨va, vb, vc, vd, ve, vf, vg, vh⟩ : S8).cells w) (k : Nat) (hk : k < 64) :
    w.cell? ⟨g, 0, none⟩ = some (w32 va) ∧ w.cell? ⟨g, 1, none⟩ = some (w32 vb) ∧ w.cell? ⟨g, 2, none⟩ = some (w32 vc) ∧ w.cell? ⟨g, 3, none⟩ = some (w32 vd) ∧
    w.cell? ⟨g, 4, none⟩ = some (w32 ve) ∧ w.cell? ⟨g, 5, none⟩ = some (w32 vf) ∧ w.cell? ⟨g, 6, none⟩ = some (w32 vg) ∧ w.cell? ⟨g, 7, none⟩ = some (w32 vh) ∧
    w.cell? ⟨k0, k, none⟩ = some (w32 (K k)) ∧ w.cell? ⟨H + 3, k, none⟩ = some (w32 (f k)) := by
  obtain ⟨h1, h2, h3, h4, h5, h6⟩ := h
  refine ⟨h6.cell 0, h6.cell 1, h6.cell 2, h6.cell 3, h6.cell 4, h6.cell 5, h6.cell 6, h6.cell 7, ?_, ?_⟩
  · rw [h5.cell, col_get _ _ _ hk]
  · rw [h1.2.2.2.2.1.cell, col_get _ _ _ hk]

theorem word_eq (b : List UInt8) (k : Nat) (hk : 4 * k + 3 < b.length) (h0 : 4 * k < b.length) (h1 : 4 * k + 1 < b.length) (h2 : 4 * k + 2 < b.length) :
    wordAt b 0 k = be4 b[4 * k] b[4 * k + 1] b[4 * k + 2] b[4 * k + 3] := by
  unfold wordAt
  simp only [Nat.zero_add, List.getD_eq_getElem?_getD, List.getElem?_eq_getElem h0, List.getElem?_eq_getElem h1, List.getElem?_eq_getElem h2, List.getElem?_eq_getElem hk, Option.getD_some]

set_option maxHeartbeats 8000000 in
set_option maxRecDepth 8000 in
theorem block_any (s : S8) (b : List UInt8) (hb : b.length = 64) (w : World) :
    Calls Tryd.prog 55 #[.agg s.cells.toArray, .agg (b.map bv).toArray] w fun e w' => e = .returned (.agg (blockf s b 0).cells.toArray) ∧ Below w.heap.size w w' := by
  obtain ⟨sc, hsc⟩ : ∃ x, x = s.cells := ⟨_, rfl⟩
  rw [← hsc]
  generalize hH : w.heap.size = H
  go_enter Tryd.func55, Tryd.ntmps55
  go_wp2_with (first
    | ((with_reducible show wpList _ _ _ (⟨some 2, _, _, _, _, _⟩ :: _) _ _); refine wpList_boxB (op := ⟨some 2, _, _, _, _, _⟩) rfl _ rfl sc rfl H hH ?_; intro w1 hB1 hb1 hz1)
    | ((with_reducible show wpList _ _ _ (⟨some 3, _, _, _, _, _⟩ :: _) _ _); refine wpList_boxB (op := ⟨some 3, _, _, _, _, _⟩) rfl _ rfl (b.map bv) rfl (H + 1) hz1 ?_; intro w2 hB2 hb2 hz2)
    | ((with_reducible show wpList _ _ _ (⟨some 4, _, _, _, _, _⟩ :: _) _ _); refine wpList_allocB (op := ⟨some 4, _, _, _, _, _⟩) A40 rfl rfl (H + 2) hz2 ?_; intro w3 hB3 hb3 hz3)
    | ((with_reducible show wpList _ _ _ (⟨some 5, _, _, _, _, _⟩ :: _) _ _); refine wpList_allocB (op := ⟨some 5, _, _, _, _, _⟩) A92 rfl rfl (H + 3) hz3 ?_; intro w4 hB4 hb4 hz4))
  have X : BC H H w sc (b.map bv) (mix (wordAt b 0) (fun _ => 0) 0 64) w4 := by
    rw [mix_none]
    refine ⟨Nat.le_refl _, ((hB1.below hb2 (by omega)).below hb3 (by omega)).below hb4 (by omega), (hB2.below hb3 (by omega)).below hb4 (by omega), hB3.below hb4 (by omega), hB4, ?_⟩
    exact ((hb1.trans (hb2.mono (by omega))).trans (hb3.mono (by omega))).trans (hb4.mono (by omega))
  have HX := Lib.hid X
  clear hB1 hB2 hB3 hB4 hb1 hb2 hb3 hb4 hz1 hz2 hz3 hz4 X w1 w2 w3
  go_loopw [18] (fun i wr => ∃ k : Nat, k ≤ 16 ∧ i = .int .i64 k ∧ BC H H w sc (b.map bv) (mix (wordAt b 0) (fun _ => 0) k 64) wr)
    (fun i _ => 16 - (intOf i).toNat)
  case atStart => exact ⟨0, by omega, rfl, HX.out⟩
  case round =>
    clear HX
    obtain ⟨k, hk, rfl, X⟩ := hrel
    have HX := Lib.hid X
    by_cases hlt : k < 16
    -- A>
    · have hk1 : 4 * k + 3 < b.length := by omega
      have h0 : 4 * k < b.length := by omega
      have h1 : 4 * k + 1 < b.length := by omega
      have h2 : 4 * k + 2 < b.length := by omega
      have q0 := X.2.2.1.cell (4 * k)
      have q1 := X.2.2.1.cell (4 * k + 1)
      have q2 := X.2.2.1.cell (4 * k + 2)
      have q3 := X.2.2.1.cell (4 * k + 3)
      have q4 := X.2.2.2.2.1.cell k
      rw [List.getElem?_map, List.getElem?_eq_getElem h0] at q0
      rw [List.getElem?_map, List.getElem?_eq_getElem h1] at q1
      rw [List.getElem?_map, List.getElem?_eq_getElem h2] at q2
      rw [List.getElem?_map, List.getElem?_eq_getElem hk1] at q3
      rw [mix_hi _ _ _ _ _ (Nat.le_refl _) (by omega)] at q4
      obtain ⟨c0, e0⟩ : ∃ c, c = b[4 * k] := ⟨_, rfl⟩
      obtain ⟨c1, e1⟩ : ∃ c, c = b[4 * k + 1] := ⟨_, rfl⟩
      obtain ⟨c2, e2⟩ : ∃ c, c = b[4 * k + 2] := ⟨_, rfl⟩
      obtain ⟨c3, e3⟩ : ∃ c, c = b[4 * k + 3] := ⟨_, rfl⟩
      rw [← e0] at q0
      rw [← e1] at q1
      rw [← e2] at q2
      rw [← e3] at q3
      have hw := word_eq b k hk1 h0 h1 h2
      rw [← e0, ← e1, ← e2, ← e3] at hw
      have HW := Lib.hid hw
      simp only [Option.map_some] at q0 q1 q2 q3
      clear X hw e0 e1 e2 e3
      obtain ⟨p0, hp0⟩ : ∃ p, p = 4 * k := ⟨_, rfl⟩
      obtain ⟨p1, hp1⟩ : ∃ p, p = 4 * k + 1 := ⟨_, rfl⟩
      obtain ⟨p2, hp2⟩ : ∃ p, p = 4 * k + 2 := ⟨_, rfl⟩
      obtain ⟨p3, hp3⟩ : ∃ p, p = 4 * k + 3 := ⟨_, rfl⟩
      rw [← hp0] at q0
      rw [← hp1] at q1
      rw [← hp2] at q2
      rw [← hp3] at q3
      have m0 : IntKind.i64.wrap (p0 : Int) = (p0 : Int) := by rw [IntKind.wrap_i64]; omega
      have m1 : IntKind.i64.wrap (p1 : Int) = (p1 : Int) := by rw [IntKind.wrap_i64]; omega
      have m2 : IntKind.i64.wrap (p2 : Int) = (p2 : Int) := by rw [IntKind.wrap_i64]; omega
      have m3 : IntKind.i64.wrap (p3 : Int) = (p3 : Int) := by rw [IntKind.wrap_i64]; omega
      have n0 : 4 * (k : Int) = (p0 : Int) := by omega
      have n1 : (p0 : Int) + 1 = (p1 : Int) := by omega
      have n2 : (p0 : Int) + 2 = (p2 : Int) := by omega
      have n3 : (p0 : Int) + 3 = (p3 : Int) := by omega
      have z0 : (0 : Int) ≤ (p0 : Int) ∧ (p0 : Int) < 64 := by omega
      have z1 : (0 : Int) ≤ (p1 : Int) ∧ (p1 : Int) < 64 := by omega
      have z2 : (0 : Int) ≤ (p2 : Int) ∧ (p2 : Int) < 64 := by omega
      have z3 : (0 : Int) ≤ (p3 : Int) ∧ (p3 : Int) < 64 := by omega
      have z4 : (0 : Int) ≤ (k : Int) ∧ (k : Int) < 64 := by omega
      have y0 := z0.1
      have y1 := z1.1
      have y2 := z2.1
      have y3 := z3.1
      have y4 := z4.1
      have x0 := z0.2
      have x1 := z1.2
      have x2 := z2.2
      have x3 := z3.2
      have x4 := z4.2
      clear z0 z1 z2 z3 z4 hp0 hp1 hp2 hp3 h0 h1 h2 hk1
      go_wp2_with fail
      go_still_tail 31, (by kernel_rfl)
      simp only [wu, shlw24, shlw16, shlw8, or32]
      rw [show (c0.toUInt32 <<< 24 ||| c1.toUInt32 <<< 16 ||| c2.toUInt32 <<< 8 ||| c3.toUInt32) = wordAt b 0 k from HW.out.symm]
      change wpList _ _ _ _ _ wr.drew
      obtain ⟨w2, hw2⟩ : ∃ w2, w2 = wr.drew := ⟨_, rfl⟩
      rw [← hw2]
      have HX2 := Lib.hid (hw2 ▸ HX.out.drew : BC H H w sc (b.map bv) (mix (wordAt b 0) (fun _ => 0) k 64) w2)
      have q5 := HX2.out.2.2.2.2.1.cell k
      rw [mix_hi _ _ _ _ _ (Nat.le_refl _) (by omega)] at q5
      have q6 := HX2.out.2.2.2.2.1.frozen k
      clear HX hw2 q0 q1 q2 q3 q4 n0 n1 n2 n3 HW
      go_wp2
      have HX3 := HX2.out.set k (w32 (wordAt b 0 k))
      rw [mix_set _ _ _ _ _ rfl] at HX3
      exact ⟨⟨k + 1, by omega, by go_num, HX3⟩, by simp [intOf]; omega⟩
    -- <A
    · have hk16 : k = 16 := by omega
      rw [hk16, mix_W] at X
      clear hk16
      have HX := Lib.hid X
      clear X
      go_wp2
      go_loopw [7] (fun i wr => ∃ k : Nat, 16 ≤ k ∧ k ≤ 64 ∧ i = .int .i64 k ∧ BC H H w sc (b.map bv) (mix (W (wordAt b 0)) (fun _ => 0) k 64) wr)
        (fun i _ => 64 - (intOf i).toNat)
      case atStart => exact ⟨16, by omega, by omega, rfl, HX.out⟩
      case round =>
        clear HX
        obtain ⟨k, hk0, hk, rfl, X⟩ := hrel
        have HX := Lib.hid X
        by_cases hlt : k < 64
        -- A>
        · obtain ⟨p0, hp0⟩ : ∃ p, p = k - 16 := ⟨_, rfl⟩
          obtain ⟨p1, hp1⟩ : ∃ p, p = k - 15 := ⟨_, rfl⟩
          obtain ⟨p2, hp2⟩ : ∃ p, p = k - 7 := ⟨_, rfl⟩
          obtain ⟨p3, hp3⟩ : ∃ p, p = k - 2 := ⟨_, rfl⟩
          have HW := Lib.hid (W_of (wordAt b 0) k hk0)
          obtain ⟨f, hf⟩ : ∃ f, f = W (wordAt b 0) := ⟨_, rfl⟩
          rw [← hf, ← hp0, ← hp1, ← hp2, ← hp3] at HW
          have HF := Lib.hid hf
          rw [← hf] at X
          have HX := Lib.hid X
          have q0 := X.2.2.2.2.1.cell p0
          have q1 := X.2.2.2.2.1.cell p1
          have q2 := X.2.2.2.2.1.cell p2
          have q3 := X.2.2.2.2.1.cell p3
          rw [mix_lo _ _ _ _ _ (by omega) (by omega)] at q0 q1 q2 q3
          clear X hf
          have n0 : (k : Int) - 16 = (p0 : Int) := by omega
          have n1 : (k : Int) - 15 = (p1 : Int) := by omega
          have n2 : (k : Int) - 7 = (p2 : Int) := by omega
          have n3 : (k : Int) - 2 = (p3 : Int) := by omega
          have m0 : IntKind.i64.wrap (p0 : Int) = (p0 : Int) := by rw [IntKind.wrap_i64]; omega
          have m1 : IntKind.i64.wrap (p1 : Int) = (p1 : Int) := by rw [IntKind.wrap_i64]; omega
          have m2 : IntKind.i64.wrap (p2 : Int) = (p2 : Int) := by rw [IntKind.wrap_i64]; omega
          have m3 : IntKind.i64.wrap (p3 : Int) = (p3 : Int) := by rw [IntKind.wrap_i64]; omega
          have y0 : (0 : Int) ≤ (p0 : Int) := by omega
          have y1 : (0 : Int) ≤ (p1 : Int) := by omega
          have y2 : (0 : Int) ≤ (p2 : Int) := by omega
          have y3 : (0 : Int) ≤ (p3 : Int) := by omega
          have y4 : (0 : Int) ≤ (k : Int) := by omega
          have x0 : (p0 : Int) < 64 := by omega
          have x1 : (p1 : Int) < 64 := by omega
          have x2 : (p2 : Int) < 64 := by omega
          have x3 : (p3 : Int) < 64 := by omega
          have x4 : (k : Int) < 64 := by omega
          clear hp0 hp1 hp2 hp3
          obtain ⟨c0, hc0⟩ : ∃ c, c = f p0 := ⟨_, rfl⟩
          obtain ⟨c1, hc1⟩ : ∃ c, c = f p1 := ⟨_, rfl⟩
          obtain ⟨c2, hc2⟩ : ∃ c, c = f p2 := ⟨_, rfl⟩
          obtain ⟨c3, hc3⟩ : ∃ c, c = f p3 := ⟨_, rfl⟩
          rw [← hc0] at q0 HW
          rw [← hc1] at q1 HW
          rw [← hc2] at q2 HW
          rw [← hc3] at q3 HW
          clear hc0 hc1 hc2 hc3
          go_wp2_with fail
          go_quiet (fail)
          obtain ⟨w5, hw5⟩ : ∃ w5, w5 = wr.drewN nq := ⟨_, rfl⟩
          have HX5 := Lib.hid (hw5 ▸ HX.out.drewN nq : BC H H w sc (b.map bv) (mix f (fun _ => 0) k 64) w5)
          have r0 : w5.cell? ⟨H + 3, p0, none⟩ = some (w32 c0) := by rw [hw5]; exact q0
          have r2 : w5.cell? ⟨H + 3, p2, none⟩ = some (w32 c2) := by rw [hw5]; exact q2
          rw [← hw5]
          clear hw5 q0 q1 q2 q3 HX
          go_wp2_with fail
          go_still_tail 29, (by kernel_rfl)
          still_call (turned_7 c1 _)
          repeat still_step
          still_call (turned_18 c1 _)
          repeat still_step
          still_call (turned_17 c3 _)
          repeat still_step
          still_call (turned_19 c3 _)
          repeat still_step
          refine wpStill_nil ?_
          simp only [shr3, shr10, xor32, add32]
          rw [← HW.out]
          change wpList _ _ _ _ _ w5.drew
          obtain ⟨w6, hw6⟩ : ∃ w6, w6 = w5.drew := ⟨_, rfl⟩
          rw [← hw6]
          have HX6 := Lib.hid (hw6 ▸ HX5.out.drew : BC H H w sc (b.map bv) (mix f (fun _ => 0) k 64) w6)
          have q5 := HX6.out.2.2.2.2.1.cell k
          rw [mix_hi _ _ _ _ _ (Nat.le_refl _) (by omega)] at q5
          have q6 := HX6.out.2.2.2.2.1.frozen k
          clear HX5 hw6 r0 r2 n0 n1 n2 n3 HW m0 m1 m2 m3
          go_wp2
          have HX7 : BC H H w sc (b.map bv) (mix (W (wordAt b 0)) (fun _ => 0) (k + 1) 64) (w6.setCell ⟨H + 3, k, none⟩ (w32 (f k))) := by
            have h := HX6.out.set k (w32 (f k))
            rw [mix_set _ _ _ _ _ rfl] at h
            rw [← HF.out]
            exact h
          exact ⟨⟨k + 1, by omega, by omega, by go_num, HX7⟩, by simp [intOf]; omega⟩
        -- <A
        · have hk64 : k = 64 := by omega
          rw [hk64, mix_full] at X
          clear hk64
          have HX := Lib.hid X
          clear X
          go_wp2
          have hsl : sc.length = 8 := by rw [hsc]; rfl
          have hs1 : ∀ v ∈ sc, v.oneCell' = true := by rw [hsc]; exact cells_one s
          have hzl : (col (fun _ => 0) 64).length = 64 := col_length _ _
          have hkl : (col K 64).length = 64 := col_length _ _
          have hk1 := col_one K 64
          have hgrow : ∀ {w'}, Turns (H + 4) (.cells (col (fun _ => 0) 64).toArray 92 (0, 0)) (.cells (col K 64).toArray 92 (0, 0)) wr w' → Below (H + 4) wr w' := fun h => h.below (by have := HX.out.2.2.2.2.1.lt; omega)
          refine wp_region_rrT (Turns (H + 4) (.cells (col (fun _ => 0) 64).toArray 92 (0, 0)) (.cells (col K 64).toArray 92 (0, 0))) (fun _ _ _ => Turns.trans) (fun _ _ h => h.2.2.2.1) (fun a => Turns.of_below (gr a).drew) 5
            [.eq 94 (.agg (col K 64).toArray), .eq 95 (.agg sc.toArray),
            .new 10 (fun v W => ∃ g, v = .pointer (some ⟨g, 0, none⟩) ∧ H + 3 < g ∧ (Blk W g 92 (col (fun _ => 0) 64) ∨ Blk W g 92 (col K 64))),
            .new 11 (fun v W => ∃ g, v = .pointer (some ⟨g, 0, none⟩) ∧ H + 3 < g ∧ Blk W g 40 zero8.cells),
            .one 10 (fun v W => ∃ g, v = .pointer (some ⟨g, 0, none⟩) ∧ H + 3 < g ∧ Blk W g 92 (col K 64))]
            (by kernel_rfl) (by kernel_rfl) (by kernel_rfl) (by kernel_rfl) ?hst ?hob ?hfin
          case hst =>
            intro s hs
            simp only [List.mem_cons, List.not_mem_nil, or_false] at hs
            rcases hs with rfl | rfl | rfl | rfl | rfl
            · exact fun _ _ _ h _ => h
            · exact fun _ _ _ h _ => h
            · rintro vs w1 w2 ⟨v, rfl, g, rfl, hg, h | h⟩ ht
              · rcases ht.2.2.2.2 g h.lt with h1 | ⟨_, _, h1⟩
                · exact ⟨_, rfl, g, rfl, hg, .inl (h1.trans h)⟩
                · exact ⟨_, rfl, g, rfl, hg, .inr h1⟩
              · rcases ht.2.2.2.2 g h.lt with h1 | ⟨_, _, h1⟩
                · exact ⟨_, rfl, g, rfl, hg, .inr (h1.trans h)⟩
                · exact ⟨_, rfl, g, rfl, hg, .inr h1⟩
            · rintro vs w1 w2 ⟨v, rfl, g, rfl, hg, h⟩ ht
              rcases ht.2.2.2.2 g h.lt with h1 | ⟨_, h1, _⟩
              · exact ⟨_, rfl, g, rfl, hg, h1.trans h⟩
              · unfold Blk at h
                rw [h] at h1
                injection h1 with h1
                injection h1 with h1 h2
                cases h2
            · rintro vs w1 w2 ⟨v, rfl, g, rfl, hg, h⟩ ht
              rcases ht.2.2.2.2 g h.lt with h1 | ⟨_, _, h1⟩
              · exact ⟨_, rfl, g, rfl, hg, h1.trans h⟩
              · exact ⟨_, rfl, g, rfl, hg, h1⟩
          case hob =>
            -- A>
            simp only [List.take_succ_cons, List.take_zero]
            refine rrs_cons ?_ (rrs_cons ?_ (rrs_cons ?_ (rrs_cons ?_ (rrs_cons ?_ rrs_nil))))
            · refine rr_call (by decide) (by rfl) fun x w' A hg hp hA => ⟨48, #[], ?_, ?_⟩
              · go_simp
              · refine (rounds_any w').mono ?_
                rintro e w'' ⟨rfl, hb⟩
                exact ⟨_, rfl, Turns.of_below hb, by simp, by simp⟩
            · refine rr_wp (by decide) (by rfl) fun x w' A hg hp hA K' hK' => ?_
              have e2 := hA 2
              simp [rgDsts] at e2
              refine wp_loadB A40 _ rfl H 0 ?_ _ _ (HX.out.2.1.below (hgrow hg) (by omega)) sc ?_ hsl ?_
              · simpa [Act.eval] using e2
              · rw [List.drop_zero, List.take_of_length_le (by rw [hsl]; exact Nat.le_refl 8)]
              · exact hK' _ _ (Turns.of_below (gr _)) (by simp) (by simp)
            · refine rr_val (by decide) (by rfl) fun x w' A hg hp hA => ⟨_, _, run_allocB A92 rfl, Turns.of_below (ga (gr _) _), ?_, ?_⟩
              · simp
                have := hg.2.2.2.1
                have := HX.out.2.2.2.2.1.lt
                exact ⟨by omega, .inl (Blk.new w' _ _)⟩
              · simp [blockOf]
            · refine rr_val (by decide) (by rfl) fun x w' A hg hp hA => ⟨_, _, run_allocB A40 rfl, Turns.of_below (ga (gr _) _), ?_, ?_⟩
              · simp
                have := hg.2.2.2.1
                have := HX.out.2.2.2.2.1.lt
                exact ⟨by omega, Blk.new w' _ _⟩
              · simp [blockOf]
            · refine rr_wp (by decide) (by rfl) fun x w' A hg hp hA K' hK' => ?_
              have e10 := hA 10
              have e94 := hA 94
              simp [rgDsts] at e10 e94
              simp [RgPreds, Region.binds] at hp
              obtain ⟨⟨g, e, hg0, h⟩, h94, _⟩ := hp
              have hturn : ∀ {w'' : World} {cs : List Value}, (cs = col (fun _ => 0) 64 ∨ cs = col K 64) → Blk w' g 92 cs → Blk w'' g 92 (splice cs 0 (col K 64)) → w'.grownBy w'' (some g) →
                  K' (A.put none undef) w'' := by
                intro w'' cs hcs hB hB2 hg2
                rw [splice_all _ _ (by rcases hcs with rfl | rfl <;> simp only [col_length])] at hB2
                refine hK' undef _ ⟨hg2.os, hg2.tape, hg2.output, hg2.size, fun j hj => ?_⟩ (by simp; exact ⟨g, e, hg0, hB2⟩) (by simp)
                by_cases hjg : j = g
                · subst hjg
                  rcases hcs with rfl | rfl
                  · exact .inr ⟨by omega, hB, hB2⟩
                  · exact .inl (hB2.trans hB.symm)
                · exact .inl (hg2.block j hj (by simpa using hjg))
              rcases h with h | h
              · exact wp_storeB A92 _ _ rfl g 0 (by simpa [Act.eval, e] using e10) (col K 64) (by simpa [Act.eval, h94] using e94) (hkl.trans hzl.symm) _ _ h (by rw [hkl, hzl]; exact Nat.le_refl _) hk1 (fun w'' h1 h2 _ => hturn (.inl rfl) h h1 h2)
              · exact wp_storeB A92 _ _ rfl g 0 (by simpa [Act.eval, e] using e10) (col K 64) (by simpa [Act.eval, h94] using e94) (hkl.trans hzl.symm) _ _ h (by rw [hkl]; exact Nat.le_refl _) hk1 (fun w'' h1 h2 _ => hturn (.inr rfl) h h1 h2)
            -- <A
          case hfin =>
            intro x w5 hg hall hap
            simp only [RgAll, holds_eq, holds_new, holds_one, and_true] at hall
            obtain ⟨e94, e95, ⟨g1, e10, hg1, _⟩, ⟨g2, e11, hg2, hB2⟩, g1', e10', _, hB1⟩ := hall
            rw [e10] at e10'
            cases e10'
            simp [RgApart, e10, e11, blockOf] at hap
            simp only [rgDsts, List.take_succ_cons, List.take_zero, List.filterMap_cons, List.filterMap_nil, putMany, List.foldl_cons, List.foldl_nil, List.setIfInBounds_toArray, List.set_cons_succ, List.set_cons_zero, List.drop_succ_cons, List.drop_zero, e94, e95, e10, e11]
            obtain ⟨h0, h1, h2, h3, h4, h5⟩ := HX.out
            have hg' := hgrow hg
            have hBC : BC H H w sc (b.map bv) (col (W (wordAt b 0)) 64) w5 := ⟨h0, h1.below hg' (by omega), h2.below hg' (by omega), h3.below hg' (by omega), h4.below hg' (by omega), h5.trans (hg'.mono (by omega))⟩
            clear h0 h1 h2 h3 h4 h5 HX e94 e95 e10 e11 hg hg' hgrow
            go_wp2_with (first
              | ((with_reducible show wpList _ _ _ (⟨none, .store 40 _ _, _, _, _, _⟩ :: _) _ _); refine wpList_storeB (op := ⟨none, _, _, _, _, _⟩) A40 rfl _ _ rfl g2 0 rfl sc rfl (by rw [hsl]; rfl) _ _ hB2 (by rw [hsl]; exact Nat.le_refl 8) hs1 ?_; intro w6 hB3 hgr3 _))
            rw [splice_all _ _ (by rw [hsl]; rfl)] at hB3
            have hDC : DC H H g2 g1 w sc (b.map bv) (col (W (wordAt b 0)) 64) (col K 64) sc w6 := by
              obtain ⟨h0, h1, h2, h3, h4, h5⟩ := hBC
              exact ⟨⟨h0, h1.grown hgr3 (by simp; omega), h2.grown hgr3 (by simp; omega), h3.grown hgr3 (by simp; omega), h4.grown hgr3 (by simp; omega), h5.grown hgr3 (by have := h1.lt; omega) (fun j hj => by simp at hj; omega)⟩, hg2, hg1, by omega, hB1.grown hgr3 (by simp; omega), hB3⟩
            have HD := Lib.hid hDC
            clear hB1 hB2 hB3 hBC hDC hgr3 hs1 hzl hkl hk1
            go_loopw [96] (fun i wr => ∃ k : Nat, k ≤ 64 ∧ i = .int .i64 k ∧ DC H H g2 g1 w sc (b.map bv) (col (W (wordAt b 0)) 64) (col K 64) (runs K (W (wordAt b 0)) s k).cells wr)
              (fun i _ => 64 - (intOf i).toNat)
            case atStart => exact ⟨0, by omega, rfl, by have := HD.out; simp only [runs]; rw [← hsc]; exact this⟩
            case round =>
              clear HD
              obtain ⟨k, hk, rfl, X⟩ := hrel
              by_cases hlt : k < 64
              -- A>
              · obtain ⟨f, hf⟩ : ∃ f, f = W (wordAt b 0) := ⟨_, rfl⟩
                rw [← hf] at X
                have HR := Lib.hid (show runs K f s (k + 1) = rnd (runs K f s k) (K k) (f k) from rfl)
                obtain ⟨v, hv⟩ : ∃ v, v = runs K f s k := ⟨_, rfl⟩
                rw [← hv] at X HR
                obtain ⟨va, vb, vc, vd, ve, vf, vg, vh⟩ := v
                clear hv
                have HX := Lib.hid X
                have HF := Lib.hid hf
                obtain ⟨kk, hkk⟩ : ∃ c, c = K k := ⟨_, rfl⟩
                obtain ⟨ww, hww⟩ : ∃ c, c = f k := ⟨_, rfl⟩
                obtain ⟨q0, q1, q2, q3, q4, q5, q6, q7, qk, qw⟩ := X.facts k hlt
                rw [← hkk] at qk HR
                rw [← hww] at qw HR
                clear X hf hkk hww
                have y4 : (0 : Int) ≤ (k : Int) := by omega
                have x4 : (k : Int) < 64 := by omega
                go_wp2_with fail
                go_quiet (fail)
                obtain ⟨w7, hw7⟩ : ∃ w7, w7 = wr.drewN nq := ⟨_, rfl⟩
                have r := fun a v (h : wr.cell? a = some v) => (show w7.cell? a = some v by rw [hw7]; exact h)
                replace q0 := r _ _ q0
                replace q1 := r _ _ q1
                replace q2 := r _ _ q2
                replace q3 := r _ _ q3
                replace q5 := r _ _ q5
                replace q6 := r _ _ q6
                replace q7 := r _ _ q7
                replace qk := r _ _ qk
                replace qw := r _ _ qw
                have HX7 := Lib.hid (hw7 ▸ HX.out.drewN nq : DC H H g2 g1 w sc (b.map bv) (col f 64) (col K 64) (⟨va, vb, vc, vd, ve, vf, vg, vh⟩ : S8).cells w7)
                rw [← hw7]
                clear r hw7 HX q4
                go_wp2_with fail
                refine wp_region_still_lit (by kernel_rfl) (by kernel_rfl) ?_
                repeat still_step
                still_call (turned_6 ve _)
                repeat still_step
                still_call (turned_11 ve _)
                repeat still_step
                still_call (turned_25 ve _)
                repeat still_step
                refine wpStill_nil ?_
                simp only [notw32, xor32, and32, add32]
                obtain ⟨T1, hT1⟩ : ∃ t, t = t1 ⟨va, vb, vc, vd, ve, vf, vg, vh⟩ kk ww := ⟨_, rfl⟩
                rw [show (vh + (rotr ve 6 ^^^ rotr ve 11 ^^^ rotr ve 25) + (ve &&& vf ^^^ ~~~ve &&& vg) + kk + ww) = T1 from hT1.symm]
                rw [show Value.int IntKind.u32 (T1.toNat : Int) = w32 T1 from rfl]
                iterate 9 generalize Value.int IntKind.u32 _ = J
                have hT1' := Lib.hid hT1
                clear hT1
                obtain ⟨w8, hw8⟩ : ∃ w8, w8 = w7.drew := ⟨_, rfl⟩
                change Exit.then _ _ _ _ w7.drew
                have r := fun a v (h : w7.cell? a = some v) => (show w8.cell? a = some v by rw [hw8]; exact h)
                replace q0 := r _ _ q0
                replace q1 := r _ _ q1
                replace q2 := r _ _ q2
                replace q3 := r _ _ q3
                replace q5 := r _ _ q5
                replace q6 := r _ _ q6
                have HX8 := Lib.hid (hw8 ▸ HX7.out.drew : DC H H g2 g1 w sc (b.map bv) (col f 64) (col K 64) (⟨va, vb, vc, vd, ve, vf, vg, vh⟩ : S8).cells w8)
                rw [← hw8]
                clear r hw8 HX7 qk qw q7
                go_wp2_with fail
                refine wp_region_still_lit (by kernel_rfl) (by kernel_rfl) ?_
                repeat still_step
                still_call (turned_2 va _)
                repeat still_step
                still_call (turned_13 va _)
                repeat still_step
                still_call (turned_22 va _)
                repeat still_step
                refine wpStill_nil ?_
                simp only [xor32, and32, add32]
                obtain ⟨T2, hT2⟩ : ∃ t, t = t2 ⟨va, vb, vc, vd, ve, vf, vg, vh⟩ := ⟨_, rfl⟩
                rw [show ((rotr va 2 ^^^ rotr va 13 ^^^ rotr va 22) + (va &&& vb ^^^ va &&& vc ^^^ vb &&& vc)) = T2 from hT2.symm]
                rw [show Value.int IntKind.u32 (T2.toNat : Int) = w32 T2 from rfl]
                iterate 7 generalize Value.int IntKind.u32 _ = J
                have hT2' := Lib.hid hT2
                clear hT2
                obtain ⟨T3, hT3⟩ : ∃ t, t = T1 + T2 := ⟨_, rfl⟩
                obtain ⟨T4, hT4⟩ : ∃ t, t = vd + T1 := ⟨_, rfl⟩
                have a1 : ((T1.toNat : Int) + (T2.toNat : Int)) % 4294967296 = (T3.toNat : Int) := by rw [hT3, ← add32, IntKind.wrap_u32']
                have a2 : ((vd.toNat : Int) + (T1.toNat : Int)) % 4294967296 = (T4.toNat : Int) := by rw [hT4, ← add32, IntKind.wrap_u32']
                have hT3' := Lib.hid hT3
                have hT4' := Lib.hid hT4
                clear hT3 hT4
                obtain ⟨w9, hw9⟩ : ∃ w9, w9 = w8.drew := ⟨_, rfl⟩
                change Exit.then _ _ _ _ w8.drew
                have r := fun a v (h : w8.cell? a = some v) => (show w9.cell? a = some v by rw [hw9]; exact h)
                replace q1 := r _ _ q1
                replace q2 := r _ _ q2
                replace q3 := r _ _ q3
                replace q5 := r _ _ q5
                replace q6 := r _ _ q6
                have HX9 := Lib.hid (hw9 ▸ HX8.out.drew : DC H H g2 g1 w sc (b.map bv) (col f 64) (col K 64) (⟨va, vb, vc, vd, ve, vf, vg, vh⟩ : S8).cells w9)
                rw [← hw9]
                clear r hw9 HX8 q0
                go_wp2_with (first
                  | ((with_reducible show wpList _ _ _ (⟨none, .store 40 _ _, _, _, _, _⟩ :: _) _ _); refine wpList_storeB (op := ⟨none, _, _, _, _, _⟩) A40 rfl _ _ rfl g2 0 rfl (⟨T3, va, vb, vc, T4, ve, vf, vg⟩ : S8).cells rfl rfl _ _ HX9.out.2.2.2.2.2 (Nat.le_refl 8) (cells_one _) ?_; intro w10 hB10 hgr10 _))
                clear q1 q2 q3 q5 q6 a1 a2
                have hend : DC H H g2 g1 w sc (b.map bv) (col (W (wordAt b 0)) 64) (col K 64) (runs K (W (wordAt b 0)) s (k + 1)).cells w10 := by
                  have h := HX9.out.turn hgr10 (splice_all _ _ rfl ▸ hB10)
                  rw [← HF.out, HR.out]
                  have e : rnd ⟨va, vb, vc, vd, ve, vf, vg, vh⟩ kk ww = ⟨T3, va, vb, vc, T4, ve, vf, vg⟩ := by rw [hT3'.out, hT4'.out, hT1'.out, hT2'.out]; rfl
                  rw [e]
                  exact h
                exact ⟨⟨k + 1, by omega, by go_num, hend⟩, by simp [intOf]; omega⟩
              -- <A
              · have hk64 : k = 64 := by omega
                rw [hk64] at X
                clear hk64
                obtain ⟨v, hv⟩ : ∃ v, v = runs K (W (wordAt b 0)) s 64 := ⟨_, rfl⟩
                rw [← hv] at X
                have HV := Lib.hid hv
                have HX := Lib.hid X
                clear X hv
                go_wp2
                go_loopw [176] (fun i wr => ∃ k : Nat, k ≤ 8 ∧ i = .int .i64 k ∧ DC H H g2 g1 w (mix (fun j => s.at_ j + v.at_ j) s.at_ k 8) (b.map bv) (col (W (wordAt b 0)) 64) (col K 64) v.cells wr)
                  (fun i _ => 8 - (intOf i).toNat)
                case atStart => exact ⟨0, by omega, rfl, by rw [mix_none, col8, ← hsc]; exact HX.out⟩
                case round =>
                  clear HX
                  obtain ⟨k, hk, rfl, X⟩ := hrel
                  by_cases hlt : k < 8
                  · have q0 := X.1.2.1.cell k
                    have q1 := X.2.2.2.2.2.cell k
                    rw [mix_hi _ _ _ _ _ (Nat.le_refl _) hlt] at q0
                    rw [← col8, col_get _ _ _ hlt] at q1
                    obtain ⟨c0, hc0⟩ : ∃ c, c = s.at_ k := ⟨_, rfl⟩
                    obtain ⟨c1, hc1⟩ : ∃ c, c = v.at_ k := ⟨_, rfl⟩
                    obtain ⟨c2, hc2⟩ : ∃ c, c = c0 + c1 := ⟨_, rfl⟩
                    rw [← hc0] at q0
                    rw [← hc1] at q1
                    have HX := Lib.hid X
                    have HC := Lib.hid (show c2 = s.at_ k + v.at_ k by rw [hc2, hc0, hc1])
                    have a1 : IntKind.u32.wrap ((c0.toNat : Int) + (c1.toNat : Int)) = (c2.toNat : Int) := by rw [hc2, ← add32]
                    clear X hc0 hc1 hc2
                    have y4 : (0 : Int) ≤ (k : Int) := by omega
                    have x4 : (k : Int) < 8 := by omega
                    go_wp2_with fail
                    go_still_tail 8, (by kernel_rfl)
                    try simp only [a1]
                    change wpList _ _ _ _ _ wr.drew
                    obtain ⟨w7, hw7⟩ : ∃ w7, w7 = wr.drew := ⟨_, rfl⟩
                    have HX7 := Lib.hid (hw7 ▸ HX.out.drew : DC H H g2 g1 w (mix (fun j => s.at_ j + v.at_ j) s.at_ k 8) (b.map bv) (col (W (wordAt b 0)) 64) (col K 64) v.cells w7)
                    rw [← hw7]
                    have q2 := HX7.out.1.2.1.cell k
                    rw [mix_hi _ _ _ _ _ (Nat.le_refl _) hlt] at q2
                    have q3 := HX7.out.1.2.1.frozen k
                    clear HX hw7 q0 q1 a1
                    go_wp2
                    have hend : DC H H g2 g1 w (mix (fun j => s.at_ j + v.at_ j) s.at_ (k + 1) 8) (b.map bv) (col (W (wordAt b 0)) 64) (col K 64) v.cells (w7.setCell ⟨H, k, none⟩ (w32 c2)) := by
                      obtain ⟨⟨h0, h1, h2, h3, h4, h5⟩, h6, h7, h8, h9, h10⟩ := HX7.out
                      refine ⟨⟨h0, ?_, h2.far (by simp) _, h3.far (by simp) _, h4.far (by simp) _, h5.setCell (by simp) _⟩, h6, h7, h8, h9.far (by simp; omega) _, h10.far (by simp; omega) _⟩
                      rw [← mix_set _ _ _ _ (w32 c2) (by rw [HC.out])]
                      exact h1.set_ k _
                    exact ⟨⟨k + 1, by omega, by go_num, hend⟩, by simp [intOf]; omega⟩
                  · have hk8 : k = 8 := by omega
                    rw [hk8, mix_full, add_at] at X
                    clear hk8
                    obtain ⟨r, hr⟩ : ∃ r, r = s.add v := ⟨_, rfl⟩
                    rw [← hr] at X
                    have HX := Lib.hid X
                    clear X
                    go_wp2_with (first
                      | ((with_reducible show wpList _ _ _ (⟨some 188, _, _, _, _, _⟩ :: _) _ _); refine wpList_loadB (op := ⟨some 188, _, _, _, _, _⟩) A40 rfl _ rfl H 0 rfl _ _ HX.out.1.2.1 r.cells rfl rfl ?_)
                      | ((with_reducible show wpList _ _ _ (⟨none, .store 40 _ _, _, _, _, _⟩ :: _) _ _); refine wpList_storeB (op := ⟨none, _, _, _, _, _⟩) A40 rfl _ _ rfl (H + 2) 0 rfl r.cells rfl rfl _ _ HX.out.1.2.2.2.1 (Nat.le_refl 8) (cells_one _) ?_; intro w10 hB10 hgr10 _))
                    refine ret_cell A40 Tryd.results55 (H + 2) rfl _ r.cells (splice_all zero8.cells r.cells rfl ▸ hB10) rfl rfl ⟨?_, ?_⟩
                    · rw [hr, HV.out]; rfl
                    · exact HX.out.1.2.2.2.2.2.grown hgr10 (by have := HX.out.1.2.1.lt; omega) (fun j hj => by simp at hj; omega)
end Go.Proofs.YtoemceehmiaigaaDoor.Sha
