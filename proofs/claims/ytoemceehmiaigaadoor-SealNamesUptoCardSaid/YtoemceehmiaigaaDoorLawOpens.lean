/- weirlaw05.SealOpens: the walk. -/
import Derived.Test.YtoemceehmiaigaaDoorROpenTok
import Derived.Test.YtoemceehmiaigaaDoorSealRows
namespace Go.Proofs.YtoemceehmiaigaaDoor.Seal
open Go.RowKit Go.Proofs.YtoemceehmiaigaaDoor.Mem Go.Proofs.YtoemceehmiaigaaDoor.Loan Go.Proofs.YtoemceehmiaigaaDoor.Sha
set_option linter.unusedVariables false

structure ClaimD where
  z : Int
  p : List UInt8
def ClaimD.ok (c : ClaimD) : Prop := (-9223372036854775808 ≤ c.z ∧ c.z ≤ 9223372036854775807) ∧ c.p.length ≤ 1048576
def ClaimD.cells (c : ClaimD) : List Value := [.int .i64 c.z, .string ⟨c.p.toArray⟩]

theorem mint_m (k : List UInt8) (z : Int) (p : List UInt8) (A : Option Addr) (n c : Nat) (w : World) (ms : ByteArray) (me : Int) (hms : ms = ⟨(mintR k z p).toArray⟩) (hme : me = packE p) (hn : n = k.length) (ha : RB w A k) (hc : n ≤ c) (hl : n ≤ 17592186044416)
    (hz : -9223372036854775808 ≤ z ∧ z ≤ 9223372036854775807) (hp : p.length ≤ 1048576) (hG : GB w) (W : World) (hW : Below w.heap.size w W) :
    Calls Tryd.prog 35 #[.slice A n c, .agg #[.int .i64 z, .string ⟨p.toArray⟩]] W fun e w' => e = .returned (.tuple #[.string ms, .int .i64 me]) ∧ Below W.heap.size W w' := by
  rw [hms, hme]
  exact mint_any k z p A n c W hn (ha.below hW) hc hl hz hp (hG.below hW hG.2)
theorem rmint_m (k : List UInt8) (z : Int) (p : List UInt8) (A : Option Addr) (n c : Nat) (w : World) (ms : ByteArray) (me : Int) (hms : ms = ⟨(mintR k z p).toArray⟩) (hme : me = packE p) (hn : n = k.length) (ha : RB w A k) (hl : n ≤ 17592186044416)
    (hz : -9223372036854775808 ≤ z ∧ z ≤ 9223372036854775807) (hp : p.length ≤ 1048576) (W : World) (hW : Below w.heap.size w W) :
    Calls Tryd.prog 38 #[.slice A n c, .agg #[.int .i64 z, .string ⟨p.toArray⟩]] W fun e w' => e = .returned (.tuple #[.string ms, .int .i64 me]) ∧ Below W.heap.size W w' := by
  rw [hms, hme]
  exact rmint_any k z p A n c W hn (ha.below hW) hl hz hp
theorem open_m (k t : List UInt8) (A : Option Addr) (n c : Nat) (w : World) (oz : Int) (os : ByteArray) (oe : Int) (hoz : oz = (openV k t).1) (hos : os = ⟨(openV k t).2.1.toArray⟩) (hoe : oe = (openV k t).2.2) (hn : n = k.length) (ha : RB w A k) (hc : n ≤ c) (hl : n ≤ 17592186044416) (ht : t.length ≤ 1073741824) (hG : GB w) (W : World) (hW : Below w.heap.size w W) :
    Calls Tryd.prog 36 #[.slice A n c, .string ⟨t.toArray⟩] W fun e w' => e = .returned (.tuple #[.agg #[.int .i64 oz, .string os], .int .i64 oe]) ∧ Below W.heap.size W w' := by
  rw [hoz, hos, hoe]
  exact open_any k t A n c W hn (ha.below hW) hc hl ht (hG.below hW hG.2)
theorem ropen_m (k t : List UInt8) (A : Option Addr) (n c : Nat) (w : World) (oz : Int) (os : ByteArray) (oe : Int) (hoz : oz = (openV k t).1) (hos : os = ⟨(openV k t).2.1.toArray⟩) (hoe : oe = (openV k t).2.2) (hn : n = k.length) (ha : RB w A k) (hl : n ≤ 17592186044416) (ht : t.length ≤ 1073741824) (W : World) (hW : Below w.heap.size w W) :
    Calls Tryd.prog 39 #[.slice A n c, .string ⟨t.toArray⟩] W fun e w' => e = .returned (.tuple #[.agg #[.int .i64 oz, .string os], .int .i64 oe]) ∧ Below W.heap.size W w' := by
  rw [hoz, hos, hoe]
  exact ropen_any k t A n c W hn (ha.below hW) hl ht

set_option maxRecDepth 4000 in
set_option maxHeartbeats 1600000 in
theorem law_opens (K : Option Addr) (kc : Nat) (key : List UInt8) (A : Option Addr) (c : Nat) (rs : List ClaimD) (B : Option Addr) (cb : Nat) (ss : List (List UInt8)) (w : World) (hK : RB w K key) (hkc : key.length ≤ kc) (hkl : key.length ≤ 1048576)
    (hA : RV w A (rs.flatMap ClaimD.cells)) (hok : ∀ r ∈ rs, r.ok) (hr1 : rs.length ≤ 1048576)
    (hB : RV w B (ss.map strV)) (hss : ∀ s ∈ ss, s.length ≤ 1048576) (hs1 : ss.length ≤ 1048576) (hG : GB w) :
    Calls Tryd.prog 11 #[.slice K key.length kc, .slice A rs.length c, .slice B ss.length cb] w fun e w' => e = .returned (.bool true) ∧ Below w.heap.size w w' := by
  obtain ⟨n, hn⟩ : ∃ n, n = rs.length := ⟨_, rfl⟩
  obtain ⟨m, hm⟩ : ∃ m, m = ss.length := ⟨_, rfl⟩
  obtain ⟨kl, hkl0⟩ : ∃ m, m = key.length := ⟨_, rfl⟩
  have hni : (n : Int) ≤ 1048576 := by omega
  have hmi : (m : Int) ≤ 1048576 := by omega
  rw [← hn, ← hm, ← hkl0]
  have HK := Lib.hid (And.intro hkl0 (And.intro hK (And.intro hkc (And.intro hkl hG))))
  have HA := Lib.hid (And.intro hA (And.intro hok hn))
  have HB := Lib.hid (And.intro hB (And.intro hss hm))
  clear hA hok hB hss hn hm hr1 hs1 hkl0 hK hkc hkl hG
  go_enter Tryd.func11, Tryd.ntmps11
  go_upto_region 3 with (first
    | (go_at_call 37; go_must (refine (alive_any _).mono ?_); rintro e w1 ⟨rfl, hb1⟩))
  go_wp2_with fail
  go_loopw [7] (fun v5 wr => ∃ k : Nat, k ≤ n ∧ v5 = .int .i64 k ∧ Below w.heap.size w wr) (fun v _ => n - (intOf v).toNat)
  case atStart => exact ⟨0, by omega, rfl, hb1⟩
  case round =>
    clear hb1
    obtain ⟨k, hk, rfl, hb⟩ := hrel
    have hk0 : (0 : Int) ≤ (k : Int) := by omega
    by_cases hlt : k < n
    · have hkr : k < rs.length := by have := HA.out.2.2; omega
      obtain ⟨r, hr⟩ : ∃ r, r = rs[k] := ⟨_, rfl⟩
      have hrm : r ∈ rs := by rw [hr]; exact List.getElem_mem _
      have hro := HA.out.2.1 r hrm
      have hfl := fun j hj => flat_at ClaimD.cells 2 rs k j hkr (fun _ _ => rfl) hj
      rw [← hr] at hfl
      obtain ⟨z, p⟩ := r
      have h0 : (rs.flatMap ClaimD.cells)[k * 2]? = some (.int .i64 z) := by have := hfl 0 (by omega); simpa [ClaimD.cells] using this
      have h1 : (rs.flatMap ClaimD.cells)[k * 2 + 1]? = some (.string ⟨p.toArray⟩) := by have := hfl 1 (by omega); simpa [ClaimD.cells] using this
      obtain ⟨ad, hA', cc0⟩ := HA.out.1 (k * 2) (List.getElem?_eq_some_iff.1 h0).1
      have a0 : wr.cell? (ad.add (k * 2)) = some (.int .i64 z) := (HA.out.1.below hb).cells hA' _ _ h0
      have a1 : wr.cell? ⟨(ad.add (k * 2)).block, (ad.add (k * 2)).off + 1, none⟩ = some (.string ⟨p.toArray⟩) := cell_next (n := k * 2) (j := 0) ((HA.out.1.below hb).cells hA' _ _ h1)
      obtain ⟨ms, hms⟩ : ∃ x : ByteArray, x = ⟨(mintR key z p).toArray⟩ := ⟨_, rfl⟩
      obtain ⟨me, hme⟩ : ∃ x, x = packE p := ⟨_, rfl⟩
      have cM := Lib.hid (fun W hW => mint_m key z p K kl kc w ms me hms hme HK.out.1 HK.out.2.1 (by rw [HK.out.1]; exact HK.out.2.2.1) (by have := HK.out.1; have := HK.out.2.2.2.1; omega) hro.1 hro.2 HK.out.2.2.2.2 W hW)
      have cR := Lib.hid (fun W hW => rmint_m key z p K kl kc w ms me hms hme HK.out.1 HK.out.2.1 (by have := HK.out.1; have := HK.out.2.2.2.1; omega) hro.1 hro.2 W hW)
      have hki : (k : Int) < (n : Int) := by omega
      subst hA'
      clear cc0 h0 h1 hfl hro hrm hr hms hme hlt hkr
      have HW := Lib.hid hb
      clear hb
      go_upto_region 7 with (first
        | (go_at_call 38; go_must (refine (cR.out _ HW.out).mono ?_); rintro e w2 ⟨rfl, hb2⟩))
      replace a0 := cell_grow a0 hb2
      replace a1 := cell_grow a1 hb2
      have HW2 := Lib.hid (gt HW.out hb2)
      clear HW hb2
      go_upto_region 8 with (first
        | (go_at_call 35; go_must (refine (cM.out _ HW2.out).mono ?_); rintro e w3 ⟨rfl, hb3⟩))
      have HW3 := Lib.hid (gt HW2.out hb3)
      clear HW2 hb3 a0 a1
      go_wp2_with fail
      exact ⟨⟨k + 1, by omega, by go_num, HW3.out⟩, by simp [intOf]; omega⟩
    · obtain rfl : k = n := by omega
      have HW := Lib.hid hb
      have hkn : ¬ (k : Int) < (k : Int) := by omega
      clear hb hlt HA
      go_wp2_with fail
      go_loopw [12] (fun v10 wr => ∃ j : Nat, j ≤ m ∧ v10 = .int .i64 j ∧ Below w.heap.size w wr) (fun v _ => m - (intOf v).toNat)
      case atStart => exact ⟨0, by omega, rfl, HW.out⟩
      case round =>
        clear HW hkn
        obtain ⟨j, hj, rfl, hb⟩ := hrel
        have hj0 : (0 : Int) ≤ (j : Int) := by omega
        by_cases hlt : j < m
        · have hjr : j < ss.length := by have := HB.out.2.2; omega
          obtain ⟨s, hs⟩ : ∃ s, s = ss[j] := ⟨_, rfl⟩
          have hsm : s ∈ ss := by rw [hs]; exact List.getElem_mem _
          have hsl := HB.out.2.1 s hsm
          have hlen : j < (ss.map strV).length := by rw [List.length_map]; exact hjr
          obtain ⟨ad, hB', cc0⟩ := HB.out.1 j hlen
          have cc : wr.cell? (ad.add j) = some (strV s) := (HB.out.1.below hb).cells hB' j _ (by rw [List.getElem?_map, List.getElem?_eq_getElem hjr, hs]; rfl)
          unfold strV at cc
          obtain ⟨oz, hoz⟩ : ∃ x, x = (openV key s).1 := ⟨_, rfl⟩
          obtain ⟨os, hos⟩ : ∃ x : ByteArray, x = ⟨(openV key s).2.1.toArray⟩ := ⟨_, rfl⟩
          obtain ⟨oe, hoe⟩ : ∃ x, x = (openV key s).2.2 := ⟨_, rfl⟩
          have cO := Lib.hid (fun W hW => open_m key s K kl kc w oz os oe hoz hos hoe HK.out.1 HK.out.2.1 (by rw [HK.out.1]; exact HK.out.2.2.1) (by have := HK.out.1; have := HK.out.2.2.2.1; omega) (by omega) HK.out.2.2.2.2 W hW)
          have cR := Lib.hid (fun W hW => ropen_m key s K kl kc w oz os oe hoz hos hoe HK.out.1 HK.out.2.1 (by have := HK.out.1; have := HK.out.2.2.2.1; omega) (by omega) W hW)
          have hji : (j : Int) < (m : Int) := by omega
          subst hB'
          clear cc0 hlen hoz hos hoe hs hsm hsl hlt hjr
          have HW := Lib.hid hb
          clear hb
          go_upto_region 14 with (first
            | (go_at_call 39; go_must (refine (cR.out _ HW.out).mono ?_); rintro e w2 ⟨rfl, hb2⟩))
          obtain ⟨w3, hw3⟩ : ∃ x, x = w2.alloc (.cells #[.int .i64 oz, .string os] 72) := ⟨_, rfl⟩
          rw [← hw3]
          have hb3 : Below wr.heap.size wr w3 := hw3 ▸ ga hb2 _
          have hB3 : Blk w3 w2.heap.size 72 [.int .i64 oz, .string os] := hw3 ▸ Blk.new w2 _ _
          replace cc := cell_grow cc hb3
          have HW3 := Lib.hid (And.intro (gt HW.out hb3) hB3)
          generalize w2.heap.size = g13 at *
          clear HW hb2 hb3 hB3 hw3
          go_upto_region 15 with (first
            | (go_at_call 36; go_must (refine (cO.out _ HW3.out.1).mono ?_); rintro e w4 ⟨rfl, hb4⟩))
          obtain ⟨w5, hw5⟩ : ∃ x, x = w4.alloc (.cells #[.int .i64 oz, .string os] 72) := ⟨_, rfl⟩
          rw [← hw5]
          have hb5 : Below w3.heap.size w3 w5 := hw5 ▸ ga hb4 _
          have hB5 : Blk w5 w4.heap.size 72 [.int .i64 oz, .string os] := hw5 ▸ Blk.new w4 _ _
          have HW5 := Lib.hid (And.intro (gt HW3.out.1 hb5) (And.intro hB5 (HW3.out.2.grow hb5)))
          generalize w4.heap.size = g15 at *
          clear HW3 hb4 hb5 hB5 hw5 cc
          have d0 := HW5.out.2.1.cell 0
          have d1 := HW5.out.2.1.cell 1
          have e0 := HW5.out.2.2.cell 0
          have e1 := HW5.out.2.2.cell 1
          simp only [List.getElem?_cons_succ, List.getElem?_cons_zero] at d0 d1 e0 e1
          go_wp2_with fail
          exact ⟨⟨j + 1, by omega, by go_num, HW5.out.1⟩, by simp [intOf]; omega⟩
        · obtain rfl : j = m := by omega
          have HW := Lib.hid hb
          have hjn : ¬ (j : Int) < (j : Int) := by omega
          clear hb hlt
          go_wp2_with fail
          go_ret
          exact ⟨rfl, HW.out⟩
end Go.Proofs.YtoemceehmiaigaaDoor.Seal
