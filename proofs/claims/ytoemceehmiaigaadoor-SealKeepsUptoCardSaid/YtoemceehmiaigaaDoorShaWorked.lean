/- SHA-256's block step: the reference's walk. -/
import Derived.Test.YtoemceehmiaigaaDoorShaRounds
import Derived.Test.YtoemceehmiaigaaDoorShaTurned
import Derived.Deep.DeepMust
namespace Go.Proofs.YtoemceehmiaigaaDoor.Sha
open Go.RowKit Go.Proofs.YtoemceehmiaigaaDoor.Mem

def WC (B H g1 g2 : Nat) (w0 : World) (hc fc v : List Value) (w : World) : Prop :=
  B ≤ H ∧ H + 2 < g1 ∧ g1 < g2 ∧ Blk w H 40 hc ∧ Blk w (H + 1) 92 fc ∧ Blk w (H + 2) 40 zero8.cells ∧ Blk w g1 92 (col K 64) ∧ Blk w g2 40 v ∧ Below B w0 w
theorem WC.drewN {B H g1 g2 : Nat} {w0 w : World} {hc fc v : List Value} (h : WC B H g1 g2 w0 hc fc v w) (n : Nat) : WC B H g1 g2 w0 hc fc v (w.drewN n) := by
  obtain ⟨h1, h2, h3, h4, h5, h6, h7, h8, h9⟩ := h
  exact ⟨h1, h2, h3, h4.drewN n, h5.drewN n, h6.drewN n, h7.drewN n, h8.drewN n, below_drewN h9 n⟩
theorem WC.drew {B H g1 g2 : Nat} {w0 w : World} {hc fc v : List Value} (h : WC B H g1 g2 w0 hc fc v w) : WC B H g1 g2 w0 hc fc v w.drew := by
  obtain ⟨h1, h2, h3, h4, h5, h6, h7, h8, h9⟩ := h
  exact ⟨h1, h2, h3, h4.drew, h5.drew, h6.drew, h7.drew, h8.drew, h9.drew⟩
theorem WC.turn {B H g1 g2 : Nat} {w0 w w' : World} {hc fc v v' : List Value} (h : WC B H g1 g2 w0 hc fc v w) (hb : w.grownBy w' (some g2)) (hv : Blk w' g2 40 v') : WC B H g1 g2 w0 hc fc v' w' := by
  obtain ⟨h1, h2, h3, h4, h5, h6, h7, h8, h9⟩ := h
  exact ⟨h1, h2, h3, h4.grown hb (by simp; omega), h5.grown hb (by simp; omega), h6.grown hb (by simp; omega), h7.grown hb (by simp; omega), hv, h9.grown hb (by have := h4.lt; omega) (fun j hj => by simp at hj; omega)⟩
theorem WC.facts {B H g1 g2 : Nat} {w0 w : World} {hc : List Value} {f : Nat → UInt32} {va vb vc vd ve vf vg vh : UInt32} (h : WC B H g1 g2 w0 hc (col f 64) (⟨va, vb, vc, vd, ve, vf, vg, vh⟩ : S8).cells w) (k : Nat) (hk : k < 64) :
    w.cell? ⟨g2, 0, none⟩ = some (w32 va) ∧ w.cell? ⟨g2, 1, none⟩ = some (w32 vb) ∧ w.cell? ⟨g2, 2, none⟩ = some (w32 vc) ∧ w.cell? ⟨g2, 3, none⟩ = some (w32 vd) ∧
    w.cell? ⟨g2, 4, none⟩ = some (w32 ve) ∧ w.cell? ⟨g2, 5, none⟩ = some (w32 vf) ∧ w.cell? ⟨g2, 6, none⟩ = some (w32 vg) ∧ w.cell? ⟨g2, 7, none⟩ = some (w32 vh) ∧
    w.cell? ⟨g1, k, none⟩ = some (w32 (K k)) ∧ w.cell? ⟨H + 1, k, none⟩ = some (w32 (f k)) := by
  obtain ⟨h1, h2, h3, h4, h5, h6, h7, h8, h9⟩ := h
  refine ⟨h8.cell 0, h8.cell 1, h8.cell 2, h8.cell 3, h8.cell 4, h8.cell 5, h8.cell 6, h8.cell 7, ?_, ?_⟩
  · rw [h7.cell, col_get _ _ _ hk]
  · rw [h5.cell, col_get _ _ _ hk]

theorem sum5 (a b c d e : UInt32) : (((a.toNat : Int) + (b.toNat : Int) + (c.toNat : Int) + (d.toNat : Int)) % 4294967296 + (e.toNat : Int)) % 4294967296 = ((a + b + c + d + e).toNat : Int) := by
  simp only [UInt32.toNat_add]; omega
theorem sum2 (a b : UInt32) : ((a.toNat : Int) + (b.toNat : Int)) % 4294967296 = ((a + b).toNat : Int) := by
  simp only [UInt32.toNat_add]; omega
theorem WC.facts' {B H g1 g2 : Nat} {w0 w : World} {hc : List Value} {f : Nat → UInt32} {va vb vc vd ve vf vg vh : UInt32} (h : WC B H g1 g2 w0 hc (col f 64) (⟨va, vb, vc, vd, ve, vf, vg, vh⟩ : S8).cells w) (k : Nat) (hk : k < 64) {kk ww : UInt32} (h1 : kk = K k) (h2 : ww = f k) :
    w.cell? ⟨g2, 0, none⟩ = some (w32 va) ∧ w.cell? ⟨g2, 1, none⟩ = some (w32 vb) ∧ w.cell? ⟨g2, 2, none⟩ = some (w32 vc) ∧ w.cell? ⟨g2, 3, none⟩ = some (w32 vd) ∧
    w.cell? ⟨g2, 4, none⟩ = some (w32 ve) ∧ w.cell? ⟨g2, 5, none⟩ = some (w32 vf) ∧ w.cell? ⟨g2, 6, none⟩ = some (w32 vg) ∧ w.cell? ⟨g2, 7, none⟩ = some (w32 vh) ∧
    w.cell? ⟨g1, k, none⟩ = some (w32 kk) ∧ w.cell? ⟨H + 1, k, none⟩ = some (w32 ww) := by
  subst h1 h2; exact h.facts k hk

set_option maxHeartbeats 8000000 in
set_option maxRecDepth 8000 in
theorem worked_any (s : S8) (f : Nat → UInt32) (w : World) :
    Calls Tryd.prog 54 #[.agg s.cells.toArray, .agg (col f 64).toArray] w fun e w' => e = .returned (.agg ((runs K f s 64).add s).cells.toArray) ∧ Below w.heap.size w w' := by
  obtain ⟨sc, hsc⟩ : ∃ x, x = s.cells := ⟨_, rfl⟩
  obtain ⟨fc, hfc⟩ : ∃ x, x = col f 64 := ⟨_, rfl⟩
  rw [← hsc, ← hfc]
  generalize hH : w.heap.size = H
  have hsl : sc.length = 8 := by rw [hsc]; rfl
  have hs1 : ∀ v ∈ sc, v.oneCell' = true := by rw [hsc]; exact cells_one s
  have hsz : sc.length = zero8.cells.length := hsl
  have hzl : (col (fun _ => 0) 64).length = 64 := col_length _ _
  have hkl : (col K 64).length = 64 := col_length _ _
  have hk1 := col_one K 64
  go_enter Tryd.func54, Tryd.ntmps54
  go_wp2_with (first
    | (go_at_call 70; refine (rrounds_any _).mono ?_; rintro e w4 ⟨rfl, hb4⟩)
    | ((with_reducible show wpList _ _ _ (⟨some 2, _, _, _, _, _⟩ :: _) _ _); refine wpList_boxB (op := ⟨some 2, _, _, _, _, _⟩) rfl _ rfl sc rfl H hH ?_; intro w1 hB1 hb1 hz1)
    | ((with_reducible show wpList _ _ _ (⟨some 3, _, _, _, _, _⟩ :: _) _ _); refine wpList_boxB (op := ⟨some 3, _, _, _, _, _⟩) rfl _ rfl fc rfl (H + 1) hz1 ?_; intro w2 hB2 hb2 hz2)
    | ((with_reducible show wpList _ _ _ (⟨some 4, _, _, _, _, _⟩ :: _) _ _); refine wpList_allocB (op := ⟨some 4, _, _, _, _, _⟩) A40 rfl rfl (H + 2) hz2 ?_; intro w3 hB3 hb3 hz3)
    | ((with_reducible show wpList _ _ _ (⟨some 5, _, _, _, _, _⟩ :: _) _ _); refine wpList_allocB (op := ⟨some 5, _, _, _, _, _⟩) A92 rfl rfl w4.heap.size rfl ?_; intro w5 hB5 hb5 hz5)
    | ((with_reducible show wpList _ _ _ (⟨none, .store 92 _ _, _, _, _, _⟩ :: _) _ _); refine wpList_storeB (op := ⟨none, .store 92 _ _, _, _, _, _⟩) A92 rfl _ _ rfl w4.heap.size 0 rfl (col K 64) rfl (hkl.trans hzl.symm) _ _ hB5 (by rw [hkl, hzl]; exact Nat.le_refl _) hk1 ?_; intro w6 hB6 hg6 hz6)
    | ((with_reducible show wpList _ _ _ (⟨some 14, _, _, _, _, _⟩ :: _) _ _); go_must (refine wpList_loadB (op := ⟨some 14, _, _, _, _, _⟩) A40 rfl _ rfl H 0 rfl _ sc (((((hB1.below hb2 (by omega)).below hb3 (by omega)).grow (hb4)).below hb5 (by have := hb4.size; omega)).grown hg6 (by have := hb4.size; simp; omega)) sc ((congrArg (List.take _) (List.drop_zero (l := sc))).trans (List.take_of_length_le (Nat.le_of_eq hsz))) hsz ?_))
    | ((with_reducible show wpList _ _ _ (⟨some 6, _, _, _, _, _⟩ :: _) _ _); refine wpList_allocB (op := ⟨some 6, _, _, _, _, _⟩) A40 rfl rfl w6.heap.size rfl ?_; intro w7 hB7 hb7 hz7)
    | ((with_reducible show wpList _ _ _ (⟨none, .store 40 _ _, _, _, _, _⟩ :: _) _ _); refine wpList_storeB (op := ⟨none, .store 40 _ _, _, _, _, _⟩) A40 rfl _ _ rfl w6.heap.size 0 rfl sc rfl hsz _ _ hB7 (Nat.le_of_eq ((Nat.zero_add _).trans hsz)) hs1 ?_; intro w8 hB8 hg8 hz8))
  rw [splice_all _ _ (hkl.trans hzl.symm)] at hB6
  rw [splice_all _ _ hsz] at hB8
  have X : WC H H w4.heap.size w6.heap.size w sc (col f 64) sc w8 := by
    rw [← hfc]
    have z4 := hb4.size
    have c1 : ∀ {j : Nat} {T : TypeId} {cs : List Value}, j < H + 3 → Blk w3 j T cs → Blk w8 j T cs := fun hj h =>
      ((((h.grow hb4).below hb5 (by omega)).grown hg6 (by simp; omega)).below hb7 (by omega)).grown hg8 (by simp; omega)
    refine ⟨Nat.le_refl _, by omega, by omega, c1 (by omega) ((hB1.below hb2 (by omega)).below hb3 (by omega)), c1 (by omega) (hB2.below hb3 (by omega)), c1 (by omega) hB3, (hB6.below hb7 (by omega)).grown hg8 (by simp; omega), hB8, ?_⟩
    have e1 : Below H w w4 := ((hb1.trans (hb2.mono (by omega))).trans (hb3.mono (by omega))).trans (hb4.mono (by omega))
    have e2 : Below H w w6 := (e1.trans (hb5.mono (by omega))).grown hg6 (by omega) (fun j hj => by simp at hj; omega)
    exact (e2.trans (hb7.mono (by omega))).grown hg8 (by omega) (fun j hj => by simp at hj; omega)
  obtain ⟨g1, eg1⟩ : ∃ g, g = w4.heap.size := ⟨_, rfl⟩
  rw [show w6.heap.size = w4.heap.size + 1 by omega, ← eg1] at X
  rw [← eg1]
  obtain ⟨g2, eg2⟩ : ∃ g, g = g1 + 1 := ⟨_, rfl⟩
  rw [← eg2] at X ⊢
  have HX := Lib.hid X
  clear hB1 hB2 hB3 hB5 hB6 hB7 hB8 hb1 hb2 hb3 hb4 hb5 hg6 hb7 hg8 hz1 hz2 hz3 hz5 hz6 hz7 hz8 X eg1 eg2 w1 w2 w3 w4 w5 w6 w7
  go_loopw [7] (fun i wr => ∃ k : Nat, k ≤ 64 ∧ i = .int .i64 k ∧ WC H H g1 g2 w sc (col f 64) (runs K f s k).cells wr)
    (fun i _ => 64 - (intOf i).toNat)
  case atStart => exact ⟨0, by omega, rfl, by have := HX.out; simp only [runs]; rw [← hsc]; exact this⟩
  case round =>
    clear HX
    obtain ⟨k, hk, rfl, X⟩ := hrel
    by_cases hlt : k < 64
    -- A>
    · have HR := Lib.hid (show runs K f s (k + 1) = rnd (runs K f s k) (K k) (f k) from rfl)
      obtain ⟨v, hv⟩ : ∃ v, v = runs K f s k := ⟨_, rfl⟩
      rw [← hv] at X HR
      obtain ⟨va, vb, vc, vd, ve, vf, vg, vh⟩ := v
      clear hv
      have HX := Lib.hid X
      obtain ⟨kk, hkk⟩ : ∃ c, c = K k := ⟨_, rfl⟩
      obtain ⟨ww, hww⟩ : ∃ c, c = f k := ⟨_, rfl⟩
      obtain ⟨q0, q1, q2, q3, q4, q5, q6, q7, qk, qw⟩ := X.facts' k hlt hkk hww
      rw [← hkk, ← hww] at HR
      have HK := Lib.hid hkk
      have HWW := Lib.hid hww
      clear X hkk hww
      have y4 : (0 : Int) ≤ (k : Int) := by omega
      have x4 : (k : Int) < 64 := by omega
      go_wp2_with fail
      go_quiet ((go_at_call 69; first | with_reducible exact Calls.quiet_of (rturned_6 ve _) | with_reducible exact Calls.quiet_of (rturned_11 ve _) | with_reducible exact Calls.quiet_of (rturned_25 ve _)))
      simp only [notw32, xor32, and32, sum5]
      obtain ⟨T1, hT1⟩ : ∃ t, t = t1 ⟨va, vb, vc, vd, ve, vf, vg, vh⟩ kk ww := ⟨_, rfl⟩
      rw [show (vh + (rotr ve 6 ^^^ rotr ve 11 ^^^ rotr ve 25) + (ve &&& vf ^^^ ~~~ve &&& vg) + kk + ww) = T1 from hT1.symm]
      rw [show Value.int IntKind.u32 (T1.toNat : Int) = w32 T1 from rfl]
      iterate 9 generalize Value.int IntKind.u32 _ = J
      have hT1' := Lib.hid hT1
      clear hT1
      obtain ⟨w7, hw7⟩ : ∃ w7, w7 = wr.drewN nq := ⟨_, rfl⟩
      have HX7 := Lib.hid (hw7 ▸ HX.out.drewN nq : WC H H g1 g2 w sc (col f 64) (⟨va, vb, vc, vd, ve, vf, vg, vh⟩ : S8).cells w7)
      rw [← hw7]
      clear q0 q1 q2 q3 q4 q5 q6 q7 qk qw HX hw7
      obtain ⟨q0, q1, q2, q3, q4, q5, q6, q7, qk, qw⟩ := HX7.out.facts' k hlt HK.out HWW.out
      clear q3 q4 q5 q6 q7 qk qw
      go_wp2_with fail
      go_quiet ((go_at_call 69; first | with_reducible exact Calls.quiet_of (rturned_2 va _) | with_reducible exact Calls.quiet_of (rturned_13 va _) | with_reducible exact Calls.quiet_of (rturned_22 va _)))
      simp only [xor32, and32, sum2]
      obtain ⟨T2, hT2⟩ : ∃ t, t = t2 ⟨va, vb, vc, vd, ve, vf, vg, vh⟩ := ⟨_, rfl⟩
      rw [show ((rotr va 2 ^^^ rotr va 13 ^^^ rotr va 22) + (va &&& vb ^^^ va &&& vc ^^^ vb &&& vc)) = T2 from hT2.symm]
      rw [show Value.int IntKind.u32 (T2.toNat : Int) = w32 T2 from rfl]
      iterate 7 generalize Value.int IntKind.u32 _ = J
      have hT2' := Lib.hid hT2
      clear hT2
      obtain ⟨T3, hT3⟩ : ∃ t, t = T1 + T2 := ⟨_, rfl⟩
      obtain ⟨T4, hT4⟩ : ∃ t, t = vd + T1 := ⟨_, rfl⟩
      have a1 : ((T1.toNat : Int) + (T2.toNat : Int)) % 4294967296 = (T3.toNat : Int) := by rw [hT3, sum2]
      have a2 : ((vd.toNat : Int) + (T1.toNat : Int)) % 4294967296 = (T4.toNat : Int) := by rw [hT4, sum2]
      have hT3' := Lib.hid hT3
      have hT4' := Lib.hid hT4
      clear hT3 hT4
      obtain ⟨w9, hw9⟩ : ∃ w9, w9 = w7.drewN nq := ⟨_, rfl⟩
      have HX9 := Lib.hid (hw9 ▸ HX7.out.drewN nq : WC H H g1 g2 w sc (col f 64) (⟨va, vb, vc, vd, ve, vf, vg, vh⟩ : S8).cells w9)
      rw [← hw9]
      clear q0 q1 q2 HX7 hw9
      obtain ⟨q0, q1, q2, q3, q4, q5, q6, q7, qk, qw⟩ := HX9.out.facts' k hlt HK.out HWW.out
      clear q7 qk qw
      go_wp2_with (first
        | ((with_reducible show wpList _ _ _ (⟨none, .store 40 _ _, _, _, _, _⟩ :: _) _ _); go_must (refine wpList_storeB (op := ⟨none, _, _, _, _, _⟩) A40 rfl _ _ rfl g2 0 rfl (⟨T3, va, vb, vc, T4, ve, vf, vg⟩ : S8).cells rfl rfl _ _ HX9.out.2.2.2.2.2.2.2.1 (Nat.le_refl 8) (cells_one _) ?_); intro w10 hB10 hgr10 _))
      clear q0 q1 q2 q3 q4 q5 q6 a1 a2
      have hend : WC H H g1 g2 w sc (col f 64) (runs K f s (k + 1)).cells w10 := by
        have h := HX9.out.turn hgr10 (splice_all _ _ rfl ▸ hB10)
        rw [HR.out]
        have e : rnd ⟨va, vb, vc, vd, ve, vf, vg, vh⟩ kk ww = ⟨T3, va, vb, vc, T4, ve, vf, vg⟩ := by rw [hT3'.out, hT4'.out, hT1'.out, hT2'.out]; rfl
        rw [e]
        exact h
      exact ⟨⟨k + 1, by omega, by go_num, hend⟩, by simp [intOf]; omega⟩
    -- <A
    · have hk64 : k = 64 := by omega
      rw [hk64] at X
      clear hk64
      obtain ⟨v, hv⟩ : ∃ v, v = runs K f s 64 := ⟨_, rfl⟩
      rw [← hv] at X
      have HV := Lib.hid hv
      rw [hsc] at X
      have HX := Lib.hid X
      clear X hv
      go_wp2
      go_loopw [12] (fun i wr => ∃ k : Nat, k ≤ 8 ∧ i = .int .i64 k ∧ WC H H g1 g2 w s.cells (col f 64) (mix (fun j => v.at_ j + s.at_ j) v.at_ k 8) wr)
        (fun i _ => 8 - (intOf i).toNat)
      case atStart => exact ⟨0, by omega, rfl, by rw [mix_none, col8]; exact HX.out⟩
      case round =>
        clear HX
        obtain ⟨k, hk, rfl, X⟩ := hrel
        by_cases hlt : k < 8
        -- B>
        · have q0 := X.2.2.2.2.2.2.2.1.cell k
          have q1 := X.2.2.2.1.cell k
          rw [mix_hi _ _ _ _ _ (Nat.le_refl _) hlt] at q0
          rw [← col8, col_get _ _ _ hlt] at q1
          obtain ⟨c0, hc0⟩ : ∃ c, c = v.at_ k := ⟨_, rfl⟩
          obtain ⟨c1, hc1⟩ : ∃ c, c = s.at_ k := ⟨_, rfl⟩
          obtain ⟨c2, hc2⟩ : ∃ c, c = c0 + c1 := ⟨_, rfl⟩
          rw [← hc0] at q0
          rw [← hc1] at q1
          have HX := Lib.hid X
          have HC := Lib.hid (show c2 = v.at_ k + s.at_ k by rw [hc2, hc0, hc1])
          have a1 : IntKind.u32.wrap ((c0.toNat : Int) + (c1.toNat : Int)) = (c2.toNat : Int) := by rw [hc2, ← add32]
          clear X hc0 hc1 hc2
          have y4 : (0 : Int) ≤ (k : Int) := by omega
          have x4 : (k : Int) < 8 := by omega
          go_wp2_with fail
          go_still_tail 9, (by kernel_rfl)
          try simp only [a1]
          change wpList _ _ _ _ _ wr.drew
          obtain ⟨w7, hw7⟩ : ∃ w7, w7 = wr.drew := ⟨_, rfl⟩
          have HX7 := Lib.hid (hw7 ▸ HX.out.drew : WC H H g1 g2 w s.cells (col f 64) (mix (fun j => v.at_ j + s.at_ j) v.at_ k 8) w7)
          rw [← hw7]
          have q2 := HX7.out.2.2.2.2.2.2.2.1.cell k
          rw [mix_hi _ _ _ _ _ (Nat.le_refl _) hlt] at q2
          have q3 := HX7.out.2.2.2.2.2.2.2.1.frozen k
          clear HX hw7 q0 q1 a1
          go_wp2
          have hend : WC H H g1 g2 w s.cells (col f 64) (mix (fun j => v.at_ j + s.at_ j) v.at_ (k + 1) 8) (w7.setCell ⟨g2, k, none⟩ (w32 c2)) := by
            obtain ⟨h1, h2, h3, h4, h5, h6, h7, h8, h9⟩ := HX7.out
            refine ⟨h1, h2, h3, h4.far (by simp; omega) _, h5.far (by simp; omega) _, h6.far (by simp; omega) _, h7.far (by simp; omega) _, ?_, h9.setCell (by simp; omega) _⟩
            rw [← mix_set _ _ _ _ (w32 c2) (by rw [HC.out])]
            exact h8.set_ k _
          exact ⟨⟨k + 1, by omega, by go_num, hend⟩, by simp [intOf]; omega⟩
        -- <B
        · have hk8 : k = 8 := by omega
          rw [hk8, mix_full, add_at] at X
          clear hk8
          obtain ⟨r, hr⟩ : ∃ r, r = v.add s := ⟨_, rfl⟩
          rw [← hr] at X
          have HX := Lib.hid X
          have HB0 := X.2.2.2.2.2.2.2.1
          have HB1 := X.2.2.2.2.2.1
          clear X
          go_wp2_with (first
            | ((with_reducible show wpList _ _ _ (⟨some 110, _, _, _, _, _⟩ :: _) _ _); go_must (refine wpList_loadB (op := ⟨some 110, _, _, _, _, _⟩) A40 rfl _ rfl g2 0 rfl _ _ HB0 r.cells rfl rfl ?_))
            | ((with_reducible show wpList _ _ _ (⟨none, .store 40 _ _, _, _, _, _⟩ :: _) _ _); go_must (refine wpList_storeB (op := ⟨none, _, _, _, _, _⟩) A40 rfl _ _ rfl (H + 2) 0 rfl r.cells rfl rfl _ _ HB1 (Nat.le_refl 8) (cells_one _) ?_); intro w10 hB10 hgr10 _))
          refine ret_cell A40 Tryd.results54 (H + 2) rfl _ r.cells (splice_all zero8.cells r.cells rfl ▸ hB10) rfl rfl ⟨?_, ?_⟩
          · rw [hr, HV.out]
          · have h9 := HX.out.2.2.2.2.2.2.2.2
            have h4 := HX.out.2.2.2.1
            exact h9.grown hgr10 (by have := h4.lt; omega) (fun j hj => by simp at hj; omega)
end Go.Proofs.YtoemceehmiaigaaDoor.Sha
