/- weirref28.SameRequest: are two requests alike? -/
import Derived.Test.YtojemdggbcklkaaDoorWRead
namespace Go.Proofs.YtojemdggbcklkaaDoor.WireR
open Go.RowKit Go.Proofs.YtojemdggbcklkaaDoor.Mem Go.Proofs.YtojemdggbcklkaaDoor.Wire Go.Proofs.YtojemdggbcklkaaDoor.Strs Go.Proofs.YtojemdggbcklkaaDoor.Heads
set_option linter.unusedVariables false
set_option linter.unusedSimpArgs false
set_option maxRecDepth 4000

theorem load_hdr {w : World} {ad : Addr} {hs : List HD} {k : Nat} (hsp : ad.spot = none) (hk : k < hs.length) (h : ∀ j v, (HD.cells hs[k])[j]? = some v → w.cell? (ad.add (k * 2 + j)) = some v) : (Instr.loadAt 58 (.pointer (some (ad.add (k * 2))))).run Tryd.prog w = .ok (.agg (HD.cells hs[k]).toArray) w := by
  obtain ⟨g, off, sp⟩ := ad
  simp only at hsp
  subst hsp
  rw [add_none]
  obtain ⟨d, hu, hd⟩ := AH.und
  exact run_loadAt_mid w g (off + k * 2) 58 (HD.cells hs[k]) d (fun j v hj => by have := h j v hj; rw [add_none] at this; rw [Nat.add_assoc]; exact this) hu (by cases d <;> first | rfl | cases hd) (by rw [AH.size]; rfl)
theorem str_same (a b : List UInt8) : ((⟨a.toArray⟩ : ByteArray).toList == (⟨b.toArray⟩ : ByteArray).toList) = decide (a = b) := by
  rw [ByteArray.toList_eq, ByteArray.toList_eq, Bool.eq_iff_iff]; simp
set_option maxHeartbeats 16000000 in
theorem same_req {w : World} (a b : Req) (A : Option Addr) (k : Nat) (A2 : Option Addr) (k2 : Nat) (B : Option Addr) (l : Nat) (B2 : Option Addr) (l2 : Nat) (hab : a = b)
    (ha : RV w A (hdrV a.headers)) (hb : RV w B (hdrV b.headers)) (ra : RB w A2 a.body) (rb : RB w B2 b.body) (sa : ∀ ad, A = some ad → ad.spot = none) (sb : ∀ ad, B = some ad → ad.spot = none) (hn : a.headers.length ≤ 1048576) (hl : a.body.length ≤ 1048576) :
    Calls Tryd.prog 17 #[.agg #[.string ⟨a.method.toArray⟩, .string ⟨a.target.toArray⟩, .slice A a.headers.length k, .slice A2 a.body.length k2, .bool a.close], .agg #[.string ⟨b.method.toArray⟩, .string ⟨b.target.toArray⟩, .slice B b.headers.length l, .slice B2 b.body.length l2, .bool b.close]] w
      fun e w' => e = .returned (.bool true) ∧ Below w.heap.size w w' := by
  subst hab
  obtain ⟨m, hm⟩ : ∃ x, x = (⟨a.method.toArray⟩ : ByteArray) := ⟨_, rfl⟩
  obtain ⟨t, ht⟩ : ∃ x, x = (⟨a.target.toArray⟩ : ByteArray) := ⟨_, rfl⟩
  obtain ⟨n, hnn⟩ : ∃ x, x = a.headers.length := ⟨_, rfl⟩
  obtain ⟨bl, hbl⟩ : ∃ x, x = a.body.length := ⟨_, rfl⟩
  obtain ⟨cl, hcl⟩ : ∃ x, x = a.close := ⟨_, rfl⟩
  rw [← hm, ← ht, ← hnn, ← hbl, ← hcl]
  have hni : (n : Int) ≤ 1048576 := by omega
  have HA := Lib.hid (And.intro ha (And.intro hb (And.intro ra (And.intro rb (And.intro hnn hbl)))))
  have HSP := Lib.hid (And.intro sa sb)
  clear ha hb ra rb hm ht hnn hbl hcl hn hl sa sb
  go_enter Tryd.func17, Tryd.ntmps17
  go_upto_region 1 with (first
    | ((with_reducible show wpList _ _ _ (⟨some 2, _, _, _, _, _⟩ :: _) _ _); go_must (refine wpList_boxB (op := ⟨some 2, _, _, _, _, _⟩) rfl _ rfl [.string m, .string t, .slice A n k, .slice A2 bl k2, .bool cl] rfl w.heap.size rfl ?_); intro w1 hB1 hb1 hz1)
    | ((with_reducible show wpList _ _ _ (⟨some 3, _, _, _, _, _⟩ :: _) _ _); go_must (refine wpList_boxB (op := ⟨some 3, _, _, _, _, _⟩) rfl _ rfl [.string m, .string t, .slice B n l, .slice B2 bl l2, .bool cl] rfl w1.heap.size rfl ?_); intro w2 hB2 hb2 hz2))
  have hB1' := hB1.grow hb2
  have hbw : Below w.heap.size w w2 := gt hb1 hb2
  rw [hz1] at hB2
  obtain ⟨g2, hg2⟩ : ∃ x, x = w.heap.size + 1 := ⟨_, rfl⟩
  rw [← hg2] at hB2 ⊢
  obtain ⟨g1, hg1⟩ : ∃ x, x = w.heap.size := ⟨_, rfl⟩
  rw [← hg1] at hB1' ⊢
  obtain ⟨sbd, hsbd⟩ : ∃ x, x = (⟨a.body.toArray⟩ : ByteArray) := ⟨_, rfl⟩
  have v1 : (convert 22 9 (.slice A2 bl k2)).run Tryd.prog w2 = .ok (.string sbd) w2 := by
    rw [HA.out.2.2.2.2.2, hsbd]; exact conv_rb Tryd.underlying22 Tryd.underlying5 Tryd.underlying9 (HA.out.2.2.1.below hbw) k2
  have v2 : (convert 22 9 (.slice B2 bl l2)).run Tryd.prog w2 = .ok (.string sbd) w2 := by
    rw [HA.out.2.2.2.2.2, hsbd]; exact conv_rb Tryd.underlying22 Tryd.underlying5 Tryd.underlying9 (HA.out.2.2.2.1.below hbw) l2
  have p0 := hB1'.cell 0
  have p1 := hB1'.cell 1
  have p2 := hB1'.cell 2
  have p3 := hB1'.cell 3
  have p4 := hB1'.cell 4
  have q0 := hB2.cell 0
  have q1 := hB2.cell 1
  have q2 := hB2.cell 2
  have q3 := hB2.cell 3
  have q4 := hB2.cell 4
  simp only [List.getElem?_cons_succ, List.getElem?_cons_zero] at p0 p1 p2 p3 p4 q0 q1 q2 q3 q4
  have HW := Lib.hid (And.intro hbw (And.intro hB1' hB2))
  clear hB1 hB2 hb1 hb2 hz1 hz2 hg1 hg2 hB1' hbw hsbd
  go_wp2
  go_loopw [5] (fun v wr => ∃ i : Nat, i ≤ n ∧ v = .int .i64 i ∧ Below w2.heap.size w2 wr) (fun v _ => n - (intOf v).toNat)
  case atStart => exact ⟨0, by omega, rfl, gr w2⟩
  case round =>
    obtain ⟨i, hi, rfl, hb2'⟩ := hrel
    replace p2 := cell_grow p2 hb2'
    replace q2 := cell_grow q2 hb2'
    have HW3 := Lib.hid (gt HW.out.1 hb2')
    have HW4 := Lib.hid hb2'
    clear p0 p1 p3 p4 q0 q1 q3 q4 v1 v2 hb2'
    have hi0 : (0 : Int) ≤ (i : Int) := by omega
    by_cases hlt : i < n
    · have hii : (i : Int) < (n : Int) := by omega
      have hia : i < a.headers.length := by have := HA.out.2.2.2.2.1; omega
      obtain ⟨h, hh⟩ : ∃ h, h = a.headers[i] := ⟨_, rfl⟩
      obtain ⟨nm, hnm⟩ : ∃ x, x = (⟨h.1.toArray⟩ : ByteArray) := ⟨_, rfl⟩
      obtain ⟨vl, hvl⟩ : ∃ x, x = (⟨h.2.toArray⟩ : ByteArray) := ⟨_, rfl⟩
      have hcs : HD.cells a.headers[i] = [.string nm, .string vl] := by rw [← hh, hnm, hvl]; rfl
      have key : ∀ {A' : Option Addr}, RV w A' (hdrV a.headers) → ∃ ad, A' = some ad ∧ ∀ j v, (HD.cells a.headers[i])[j]? = some v → wr.cell? (ad.add (i * 2 + j)) = some v := fun {A'} hrv => by
        have hat : ∀ j, j < 2 → (hdrV a.headers)[i * 2 + j]? = (HD.cells a.headers[i])[j]? := fun j hj => flat_at' HD.cells 2 a.headers i j hia (fun _ _ => rfl) hj
        have h0 := hat 0 (by omega)
        rw [hcs] at h0
        obtain ⟨ad, e, _⟩ := hrv (i * 2 + 0) (List.getElem?_eq_some_iff.1 h0).1
        refine ⟨ad, e, fun j v hj => ?_⟩
        have hj2 : j < 2 := by have := (List.getElem?_eq_some_iff.1 hj).1; simpa [HD.cells] using this
        exact (hrv.below HW3.out).cells e _ _ ((hat j hj2).trans hj)
      obtain ⟨ad1, rfl, k1⟩ := key HA.out.1
      obtain ⟨ad2, rfl, k2'⟩ := key HA.out.2.1
      have HI := Lib.hid (And.intro hia (And.intro k1 (And.intro k2' hcs)))
      clear key k1 k2' hcs hh hnm hvl hlt
      go_upto_region 6 with fail
      try simp only [Act.put, List.setIfInBounds_toArray, List.set_cons_succ, List.set_cons_zero]
      refine wp_region_qb (by kernel_rfl) (by kernel_rfl) ?_
      refine wq_val (o := ⟨some 50, _, _, _, _, _⟩) (v := .pointer (some ⟨g1, 2, none⟩)) rfl (fun w' hC => by go_simp) ?_
      simp only [Act.put, List.setIfInBounds_toArray, List.set_cons_succ, List.set_cons_zero]
      refine wq_val (o := ⟨some 51, _, _, _, _, _⟩) (v := .slice (some ad1) n k) rfl (fun w' hC => by have := cell_grow p2 hC; go_simp) ?_
      simp only [Act.put, List.setIfInBounds_toArray, List.set_cons_succ, List.set_cons_zero]
      refine wq_val (o := ⟨some 52, _, _, _, _, _⟩) (v := .int .i64 (i : Int)) rfl (fun w' hC => by go_simp) ?_
      simp only [Act.put, List.setIfInBounds_toArray, List.set_cons_succ, List.set_cons_zero]
      refine wq_val (o := ⟨some 53, _, _, _, _, _⟩) (v := .pointer (some (ad1.add (i * 2)))) rfl (fun w' hC => by go_simp) ?_
      simp only [Act.put, List.setIfInBounds_toArray, List.set_cons_succ, List.set_cons_zero]
      refine wq_loadA (o := ⟨some 54, _, _, _, _, _⟩) AH rfl (.tmp 53) rfl (.agg #[.string nm, .string vl]) (ad1.add (i * 2)) rfl (fun w' hC => by have := load_hdr (w := w') (hs := a.headers) (k := i) (HSP.out.1 _ rfl) HI.out.1 (fun j v hj => cell_grow (HI.out.2.1 j v hj) hC); rw [HI.out.2.2.2] at this; exact this) ?_
      simp only [Act.put, List.setIfInBounds_toArray, List.set_cons_succ, List.set_cons_zero]
      refine wq_val (o := ⟨some 55, _, _, _, _, _⟩) (v := .pointer (some ⟨g2, 2, none⟩)) rfl (fun w' hC => by go_simp) ?_
      simp only [Act.put, List.setIfInBounds_toArray, List.set_cons_succ, List.set_cons_zero]
      refine wq_val (o := ⟨some 56, _, _, _, _, _⟩) (v := .slice (some ad2) n l) rfl (fun w' hC => by have := cell_grow q2 hC; go_simp) ?_
      simp only [Act.put, List.setIfInBounds_toArray, List.set_cons_succ, List.set_cons_zero]
      refine wq_val (o := ⟨some 57, _, _, _, _, _⟩) (v := .int .i64 (i : Int)) rfl (fun w' hC => by go_simp) ?_
      simp only [Act.put, List.setIfInBounds_toArray, List.set_cons_succ, List.set_cons_zero]
      refine wq_val (o := ⟨some 58, _, _, _, _, _⟩) (v := .pointer (some (ad2.add (i * 2)))) rfl (fun w' hC => by go_simp) ?_
      simp only [Act.put, List.setIfInBounds_toArray, List.set_cons_succ, List.set_cons_zero]
      refine wq_loadA (o := ⟨some 59, _, _, _, _, _⟩) AH rfl (.tmp 58) rfl (.agg #[.string nm, .string vl]) (ad2.add (i * 2)) rfl (fun w' hC => by have := load_hdr (w := w') (hs := a.headers) (k := i) (HSP.out.2 _ rfl) HI.out.1 (fun j v hj => cell_grow (HI.out.2.2.1 j v hj) hC); rw [HI.out.2.2.2] at this; exact this) ?_
      simp only [Act.put, List.setIfInBounds_toArray, List.set_cons_succ, List.set_cons_zero]
      refine wq_val (o := ⟨some 60, _, _, _, _, _⟩) (v := .bool false) rfl (fun w' hC => by go_simp) ?_
      simp only [Act.put, List.setIfInBounds_toArray, List.set_cons_succ, List.set_cons_zero]
      refine wpQuiet_nil ?_
      intro w6 h6
      have H6 := Lib.hid (gt HW4.out h6)
      clear h6 p2 q2
      go_wp2
      exact ⟨⟨i + 1, by omega, by go_num, H6.out⟩, by simp [intOf]; omega⟩
    · obtain rfl : i = n := by omega
      clear hlt
      go_wp2
      go_ret
      exact ⟨rfl, HW3.out⟩
end Go.Proofs.YtojemdggbcklkaaDoor.WireR
