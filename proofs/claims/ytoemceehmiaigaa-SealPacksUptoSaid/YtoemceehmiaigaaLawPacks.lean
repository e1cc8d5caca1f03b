/- weirlaw05.SealPacks: the walk. -/
import Derived.Test.YtoemceehmiaigaaAlive
import Derived.Test.YtoemceehmiaigaaSealRows
namespace Go.Proofs.Ytoemceehmiaigaa.Seal
open Go.RowKit Go.Proofs.Ytoemceehmiaigaa.Mem Go.Proofs.Ytoemceehmiaigaa.Loan
set_option linter.unusedVariables false

def packB (z : Int) (p : List UInt8) : List UInt8 := if 1024 < p.length then [] else pack z p
def packE (p : List UInt8) : Int := if 1024 < p.length then 1 else 0
def PackU (w : World) (z : Int) (p : List UInt8) (e : Ending) (w' : World) : Prop :=
  (∃ A c, e = .returned (.tuple #[.slice A (packB z p).length c, .int .i64 (packE p)]) ∧ RB w' A (packB z p) ∧ (packB z p).length ≤ c ∧ c ≤ maxLen) ∧ Below w.heap.size w w'
theorem own_cap {w : World} {B n size n' c : Nat} {A : Option Addr} {T : TypeId} {xs : List Value} (h : w.ownsRow B T size (.slice A n' c) n xs) : n' ≤ c ∧ c ≤ maxLen := by
  rcases h.2 with ⟨e, _⟩ | ⟨g, cap, cur, e, _, _, h1, h2, _⟩
  · injection e with _ e1 e2
    subst e1 e2
    exact ⟨Nat.le_refl _, by decide⟩
  · injection e with _ e1 e2
    subst e1 e2
    exact ⟨h1, h2⟩
theorem packU_of {w : World} {z : Int} {p : List UInt8} {e : Ending} {w' : World} (h : PackPost w z p e w') : PackU w z p e w' := by
  unfold PackPost at h
  unfold PackU packB packE
  by_cases hp : 1024 < p.length
  · simp only [if_pos hp] at h ⊢
    exact ⟨⟨none, 0, h.1, RB.nil _ _, Nat.le_refl _, by decide⟩, h.2⟩
  · simp only [if_neg hp] at h ⊢
    obtain ⟨v, rfl, ho, hb⟩ := h
    obtain ⟨A, n, c, rfl, hn⟩ := own_form ho
    subst hn
    exact ⟨⟨A, c, rfl, own_rb' ho, (own_cap ho).1, (own_cap ho).2⟩, hb⟩
theorem packB_len (z : Int) (p : List UInt8) : (packB z p).length ≤ 1032 := by
  unfold packB
  split
  · simp
  · rw [pack_length]; omega
theorem unP_len (b : List UInt8) : (unP b).length ≤ 1024 := by
  unfold unP
  split
  · simp
  · split
    · simp
    · simp; omega
theorem unZ_wf (b : List UInt8) : -9223372036854775808 ≤ unZ b ∧ unZ b ≤ 9223372036854775807 := by
  unfold unZ
  split
  · omega
  · split
    · omega
    · have h := num_lt (b.take 8)
      have h2 : (b.take 8).length = 8 := by rw [List.length_take]; omega
      rw [h2] at h
      exact toI_wf _ (by omega)
theorem unE_cases (b : List UInt8) : unE b = 53 ∨ unE b = 1 ∨ unE b = 0 ∧ pack (unZ b) (unP b) = b := by
  unfold unE
  split
  · exact .inl rfl
  · split
    · exact .inr (.inl rfl)
    · exact .inr (.inr ⟨rfl, pack_un b (by omega) (by omega)⟩)
theorem packE_un (b : List UInt8) : packE (unP b) = 0 := by unfold packE; have := unP_len b; rw [if_neg (by omega)]
theorem packB_un (b : List UInt8) : packB (unZ b) (unP b) = pack (unZ b) (unP b) := by unfold packB; have := unP_len b; rw [if_neg (by omega)]

set_option maxRecDepth 4000 in
set_option maxHeartbeats 1600000 in
theorem law_packs (z : Int) (p : List UInt8) (A : Option Addr) (c n : Nat) (pl : List UInt8) (w : World) (hz : -9223372036854775808 ≤ z ∧ z ≤ 9223372036854775807) (hp : p.length ≤ 1048576)
    (ha : RB w A pl) (hn : n = pl.length) (hl : n ≤ 1048576) (hc : n ≤ c) (hcm : c ≤ maxLen) :
    Calls Try.prog 5 #[.agg #[.int .i64 z, .string ⟨p.toArray⟩], .slice A n c] w fun e w' => e = .returned (.bool true) ∧ Below w.heap.size w w' := by
  generalize hH : w.heap.size = H at *
  have HA := Lib.hid (And.intro hz (And.intro hp (And.intro ha (And.intro hn (And.intro hl (And.intro hc hcm))))))
  clear hz hp ha hn hl hc hcm
  go_enter Try.func5, Try.ntmps5
  go_upto_region 3 with (first
    | (go_at_call 14; go_must (refine (alive_any _).mono ?_); rintro e w1 ⟨rfl, hb1⟩))
  have hB0 : Blk w1 H 44 [.int .i64 z, .string ⟨p.toArray⟩] := (show Blk _ H _ _ from hH ▸ Blk.new w 44 [.int .i64 z, .string ⟨p.toArray⟩]).grow hb1
  have hw1 : Below H w w1 := (show Below H w _ from hH ▸ ga (gr w) _).trans (hb1.mono (by rw [← hH]; exact (ga (gr w) _).size))
  clear hb1
  have c0 := hB0.cell 0
  have c1 := hB0.cell 1
  simp only [List.getElem?_cons_succ, List.getElem?_cons_zero] at c0 c1
  have HW1 := Lib.hid (And.intro hB0 hw1)
  clear hB0 hw1
  obtain ⟨pb, hpb⟩ : ∃ x, x = packB z p := ⟨_, rfl⟩
  obtain ⟨pe, hpe⟩ : ∃ x, x = packE p := ⟨_, rfl⟩
  obtain ⟨nb, hnb⟩ : ∃ x, x = pb.length := ⟨_, rfl⟩
  obtain ⟨uz, huz⟩ : ∃ x, x = unZ pl := ⟨_, rfl⟩
  obtain ⟨us, hus⟩ : ∃ x : ByteArray, x = ⟨(unP pl).toArray⟩ := ⟨_, rfl⟩
  obtain ⟨ue, hue⟩ : ∃ x, x = unE pl := ⟨_, rfl⟩
  obtain ⟨vz, hvz⟩ : ∃ x, x = unZ pb := ⟨_, rfl⟩
  obtain ⟨vs, hvs⟩ : ∃ x : ByteArray, x = ⟨(unP pb).toArray⟩ := ⟨_, rfl⟩
  obtain ⟨ve, hve⟩ : ∃ x, x = unE pb := ⟨_, rfl⟩
  obtain ⟨pa, hpa⟩ : ∃ x, x = pack (unZ pl) (unP pl) := ⟨_, rfl⟩
  obtain ⟨na, hna⟩ : ∃ x, x = pa.length := ⟨_, rfl⟩
  have hpn := packB_len z p
  have cP := Lib.hid (show ∀ W, Calls Try.prog 20 #[.agg #[.int .i64 z, .string ⟨p.toArray⟩]] W (fun e w' => (∃ A c, e = .returned (.tuple #[.slice A nb c, .int .i64 pe]) ∧ RB w' A pb ∧ nb ≤ c ∧ c ≤ maxLen) ∧ Below W.heap.size W w') from fun W => by
    rw [hnb, hpb, hpe]; exact (pack_any z p W HA.out.1 (by have := HA.out.2.1; omega)).mono fun _ _ h => packU_of h)
  have cR := Lib.hid (show ∀ W, Calls Try.prog 21 #[.agg #[.int .i64 z, .string ⟨p.toArray⟩]] W (fun e w' => (∃ A c, e = .returned (.tuple #[.slice A nb c, .int .i64 pe]) ∧ RB w' A pb ∧ nb ≤ c ∧ c ≤ maxLen) ∧ Below W.heap.size W w') from fun W => by
    rw [hnb, hpb, hpe]; exact (rpack_any z p W HA.out.1 (by have := HA.out.2.1; omega)).mono fun _ _ h => packU_of h)
  have cA := Lib.hid (show ∀ W, Calls Try.prog 20 #[.agg #[.int .i64 uz, .string us]] W (fun e w' => (∃ A c, e = .returned (.tuple #[.slice A na c, .int .i64 0]) ∧ RB w' A pa ∧ na ≤ c ∧ c ≤ maxLen) ∧ Below W.heap.size W w') from fun W => by
    have := (pack_any (unZ pl) (unP pl) W (unZ_wf pl) (by have := unP_len pl; omega)).mono fun _ _ h => packU_of h
    unfold PackU at this
    rw [packB_un, packE_un] at this
    rw [hna, hpa, huz, hus]; exact this)
  have cU := Lib.hid (show ∀ W, RB W A pl → Calls Try.prog 23 #[.slice A n c] W (fun e w' => e = .returned (.tuple #[.agg #[.int .i64 uz, .string us], .int .i64 ue]) ∧ Below W.heap.size W w') from fun W hr => by
    rw [huz, hus, hue]; exact unpack_any A c n pl W hr HA.out.2.2.2.1 HA.out.2.2.2.2.2.1 HA.out.2.2.2.2.2.2)
  have cV := Lib.hid (show ∀ W, RB W A pl → Calls Try.prog 22 #[.slice A n c] W (fun e w' => e = .returned (.tuple #[.agg #[.int .i64 uz, .string us], .int .i64 ue]) ∧ Below W.heap.size W w') from fun W hr => by
    rw [huz, hus, hue]; exact runpack_any A c n pl W hr HA.out.2.2.2.1 HA.out.2.2.2.2.2.1 HA.out.2.2.2.2.2.2)
  have cW := Lib.hid (show ∀ W A k, RB W A pb → nb ≤ k → k ≤ maxLen → Calls Try.prog 23 #[.slice A nb k] W (fun e w' => e = .returned (.tuple #[.agg #[.int .i64 vz, .string vs], .int .i64 ve]) ∧ Below W.heap.size W w') from fun W A k hr h1 h2 => by
    rw [hvz, hvs, hve]; exact unpack_any A k nb pb W hr hnb h1 h2)
  rw [← hpb] at hpn
  -- what the law asks of these
  have hz1 : pe = 1 ∨ pe = 0 ∧ ve = 0 ∧ vz = z ∧ vs = ⟨p.toArray⟩ := by
    by_cases hp : 1024 < p.length
    · left; rw [hpe]; unfold packE; rw [if_pos hp]
    · right
      have h1 := un_pack z p HA.out.1 (by omega)
      have hb : pb = pack z p := by rw [hpb]; unfold packB; rw [if_neg hp]
      rw [hve, hvz, hvs, hb, h1.1, h1.2.1, h1.2.2]
      refine ⟨?_, rfl, rfl, rfl⟩
      rw [hpe]; unfold packE; rw [if_neg hp]
  have hz2 : ue = 53 ∨ ue = 1 ∨ ue = 0 ∧ pa = pl := by rw [hue, hpa]; exact unE_cases pl
  have HP := Lib.hid (And.intro hnb (And.intro hna (And.intro hpn (And.intro hz1 hz2))))
  clear hpb hpe hpn hz1 hz2 hnb huz hus hue hvz hvs hve hpa hna
  go_upto_region 4 with (first
    | (go_at_call 20; go_must (refine (cP.out _).mono ?_); rintro e w2 ⟨⟨A2, k2, rfl, hr2, hk2⟩, hb2⟩))
  have c0' := cell_grow c0 hb2
  have c1' := cell_grow c1 hb2
  clear c0 c1
  go_upto_region 5 with (first
    | (go_at_call 21; go_must (refine (cR.out _).mono ?_); rintro e w3 ⟨⟨A3, k3, rfl, hr3, hk3⟩, hb3⟩))
  have hb23 := gt hb2 hb3
  have HX := Lib.hid (And.intro (HW1.out.1.grow hb23) (And.intro (HW1.out.2.trans (hb23.mono (hH ▸ HW1.out.2.size))) (And.intro (hr2.below hb3) (And.intro hr3 (And.intro hk2 hk3)))))
  clear HW1 hb2 hb3 hb23 hr2 hr3 hk2 hk3 c0' c1'
  go_upto_region 7 with (first
    | (go_at_call 18; go_must (refine (same_any A2 A3 nb nb k2 k3 pb pb _ HX.out.2.2.1 HX.out.2.2.2.1 HP.out.1 HP.out.1).mono ?_); rintro e w5 ⟨rfl, rfl⟩; rw [decide_eq_true rfl]))
  have HX2 := Lib.hid (HA.out.2.2.1.below (hH ▸ HX.out.2.1))
  go_upto_region 8 with (first
    | (go_at_call 22; go_must (refine (cV.out _ HX2.out).mono ?_); rintro e w4 ⟨rfl, hb4⟩))
  obtain ⟨w5, hw5⟩ : ∃ x, x = w4.alloc (.cells #[.int .i64 uz, .string us] 44) := ⟨_, rfl⟩
  have hb5 : Below w3.heap.size w3 w5 := hw5 ▸ ga hb4 _
  have hB5 : Blk w5 w4.heap.size 44 [.int .i64 uz, .string us] := hw5 ▸ Blk.new w4 _ _
  rw [← hw5]
  have HX3 := Lib.hid (And.intro hB5 (And.intro (HX.out.1.grow hb5) (And.intro (HX.out.2.1.trans (hb5.mono (hH ▸ HX.out.2.1.size))) (And.intro (HX.out.2.2.1.below hb5) (HX2.out.below hb5)))))
  generalize w4.heap.size = g9 at *
  clear hb4 hb5 hB5 hw5 HX2
  go_upto_region 9 with (first
    | (go_at_call 23; go_must (refine (cU.out _ HX3.out.2.2.2.2).mono ?_); rintro e w6 ⟨rfl, hb6⟩))
  obtain ⟨w7, hw7⟩ : ∃ x, x = w6.alloc (.cells #[.int .i64 uz, .string us] 44) := ⟨_, rfl⟩
  have hb7 : Below w5.heap.size w5 w7 := hw7 ▸ ga hb6 _
  have hB7 : Blk w7 w6.heap.size 44 [.int .i64 uz, .string us] := hw7 ▸ Blk.new w6 _ _
  rw [← hw7]
  have HX4 := Lib.hid (And.intro hB7 (And.intro (HX3.out.1.grow hb7) (And.intro (HX3.out.2.1.grow hb7) (And.intro (HX3.out.2.2.1.trans (hb7.mono (hH ▸ HX3.out.2.2.1.size))) (And.intro (HX3.out.2.2.2.1.below hb7) (HX3.out.2.2.2.2.below hb7))))))
  generalize w6.heap.size = g11 at *
  clear hb6 hb7 hB7 hw7 HX3
  go_upto_region 10 with (first
    | (go_at_call 23; go_must (refine (cW.out _ A2 k2 HX4.out.2.2.2.2.1 HX.out.2.2.2.2.1.1 HX.out.2.2.2.2.1.2).mono ?_); rintro e w8 ⟨rfl, hb8⟩))
  obtain ⟨w9, hw9⟩ : ∃ x, x = w8.alloc (.cells #[.int .i64 vz, .string vs] 44) := ⟨_, rfl⟩
  have hb9 : Below w7.heap.size w7 w9 := hw9 ▸ ga hb8 _
  have hB9 : Blk w9 w8.heap.size 44 [.int .i64 vz, .string vs] := hw9 ▸ Blk.new w8 _ _
  rw [← hw9]
  have HX5 := Lib.hid (And.intro hB9 (And.intro (HX4.out.1.grow hb9) (And.intro (HX4.out.2.1.grow hb9) (And.intro (HX4.out.2.2.1.grow hb9) (And.intro (HX4.out.2.2.2.1.trans (hb9.mono (hH ▸ HX4.out.2.2.2.1.size))) (HX4.out.2.2.2.2.2.below hb9))))))
  generalize w8.heap.size = g13 at *
  clear hb8 hb9 hB9 hw9 HX4
  have d0 := HX5.out.2.1.cell 0
  have d1 := HX5.out.2.1.cell 1
  simp only [List.getElem?_cons_succ, List.getElem?_cons_zero] at d0 d1
  go_upto_region 11 with (first
    | (go_at_call 20; go_must (refine (cA.out _).mono ?_); rintro e w10 ⟨⟨A10, k10, rfl, hr10, hk10⟩, hb10⟩))
  clear d0 d1
  have HX6 := Lib.hid (And.intro (HX5.out.1.grow hb10) (And.intro (HX5.out.2.1.grow hb10) (And.intro (HX5.out.2.2.1.grow hb10) (And.intro (HX5.out.2.2.2.1.grow hb10) (And.intro (HX5.out.2.2.2.2.1.trans (hb10.mono (hH ▸ HX5.out.2.2.2.2.1.size))) (And.intro (HX5.out.2.2.2.2.2.below hb10) hr10))))))
  clear HX HX5 hb10 hr10 cP cR cA cU cV cW
  have hpe := HP.out.2.2.2.1
  have hue := HP.out.2.2.2.2
  have HL := Lib.hid (And.intro HP.out.1 HP.out.2.1)
  have c0 := HX6.out.1.cell 0
  have c1 := HX6.out.1.cell 1
  have d0 := HX6.out.2.1.cell 0
  have d1 := HX6.out.2.1.cell 1
  have e0 := HX6.out.2.2.1.cell 0
  have e1 := HX6.out.2.2.1.cell 1
  have f0 := HX6.out.2.2.2.1.cell 0
  have f1 := HX6.out.2.2.2.1.cell 1
  simp only [List.getElem?_cons_succ, List.getElem?_cons_zero] at c0 c1 d0 d1 e0 e1 f0 f1
  clear HP
  rcases hpe with rfl | ⟨rfl, rfl, rfl, rfl⟩
  · rcases hue with rfl | rfl | ⟨rfl, rfl⟩
    · go_wp2_with fail
      go_ret
      exact ⟨rfl, HX6.out.2.2.2.2.1⟩
    · go_wp2_with fail
      go_ret
      exact ⟨rfl, HX6.out.2.2.2.2.1⟩
    · go_wp2_with (first
        | (go_at_call 18; go_must (refine (same_any A10 A na n k10 c pa pa _ HX6.out.2.2.2.2.2.2 HX6.out.2.2.2.2.2.1 HL.out.2 HA.out.2.2.2.1).mono ?_); rintro e w5 ⟨rfl, rfl⟩; rw [decide_eq_true rfl]))
      go_ret
      exact ⟨rfl, HX6.out.2.2.2.2.1⟩
  · rcases hue with rfl | rfl | ⟨rfl, rfl⟩
    · go_wp2_with fail
      go_ret
      exact ⟨rfl, HX6.out.2.2.2.2.1⟩
    · go_wp2_with fail
      go_ret
      exact ⟨rfl, HX6.out.2.2.2.2.1⟩
    · go_wp2_with (first
        | (go_at_call 18; go_must (refine (same_any A10 A na n k10 c pa pa _ HX6.out.2.2.2.2.2.2 HX6.out.2.2.2.2.2.1 HL.out.2 HA.out.2.2.2.1).mono ?_); rintro e w5 ⟨rfl, rfl⟩; rw [decide_eq_true rfl]))
      go_ret
      exact ⟨rfl, HX6.out.2.2.2.2.1⟩
end Go.Proofs.Ytoemceehmiaigaa.Seal
