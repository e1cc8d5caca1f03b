/- Headers of a request: the program's Header, the reference's; the law's walk. -/
import Derived.Test.YtojemdggbcklkaaHeads
namespace Go.Proofs.Ytojemdggbcklkaa.Heads
open Go.RowKit Go.Proofs.Ytojemdggbcklkaa.Mem Go.Proofs.Ytojemdggbcklkaa.Seal
set_option linter.unusedVariables false

def HD.ok (h : HD) : Prop := h.1.length ≤ 1048576 ∧ h.2.length ≤ 1048576
theorem flat_at' {α : Type} (f : α → List Value) (size : Nat) : ∀ (l : List α) (k j : Nat) (h : k < l.length), (∀ a ∈ l, (f a).length = size) → j < size → (l.flatMap f)[k * size + j]? = (f l[k])[j]?
  | [], k, j, h, _, _ => absurd h (by simp)
  | a :: r, 0, j, h, hf, hj => by
    have := hf a List.mem_cons_self
    simp only [Nat.zero_mul, Nat.zero_add, List.flatMap_cons, List.getElem_cons_zero]
    rw [List.getElem?_append_left (by omega)]
  | a :: r, k + 1, j, h, hf, hj => by
    have h1 := hf a List.mem_cons_self
    have h2 := flat_at' f size r k j (by simpa using h) (fun b hb => hf b (List.mem_cons_of_mem _ hb)) hj
    simp only [List.flatMap_cons, List.getElem_cons_succ]
    rw [List.getElem?_append_right (by rw [h1, Nat.add_mul]; omega), h1, ← h2]
    congr 1
    rw [Nat.add_mul]; omega

set_option maxRecDepth 4000 in
set_option maxHeartbeats 1600000 in
theorem header_any (v0 v1 v3 v4 : Value) (o0 : v0.oneCell' = true) (o1 : v1.oneCell' = true) (o3 : v3.oneCell' = true) (o4 : v4.oneCell' = true) (A : Option Addr) (n c : Nat) (hs : List HD) (name : List UInt8) (w : World) (hA : RV w A (hs.flatMap HD.cells)) (hn : n = hs.length) (hok : ∀ h ∈ hs, HD.ok h)
    (hl : n ≤ 1048576) (hnm : name.length ≤ 1048576) :
    Calls Try.prog 4 #[.agg #[v0, v1, .slice A n c, v3, v4], .string ⟨name.toArray⟩] w fun e w' => e = .returned (.tuple #[.string ⟨(headS (vals hs name)).toArray⟩, .bool (headB (vals hs name))]) ∧ Below w.heap.size w w' := by
  have HA := Lib.hid (And.intro hA (And.intro hn (And.intro hok hnm)))
  obtain ⟨sn, hsn⟩ : ∃ x, x = (⟨name.toArray⟩ : ByteArray) := ⟨_, rfl⟩
  have hni : (n : Int) ≤ 1048576 := by omega
  rw [← hsn]
  have HN := Lib.hid hsn
  clear hA hn hok hnm hsn hl
  generalize hH : w.heap.size = H at *
  go_enter Try.func4, Try.ntmps4
  go_upto_region 2 with fail
  obtain ⟨w1, hw1⟩ : ∃ x, x = w.alloc (.cells #[v0, v1, .slice A n c, v3, v4] 25) := ⟨_, rfl⟩
  rw [← hw1]
  have hb1 : Below H w w1 := hw1 ▸ hH ▸ ga (gr w) _
  clear hw1
  go_wp2_with fail
  go_loopw [11] (fun v wr => ∃ k : Nat, k ≤ n ∧ v = .int .i64 k ∧ vals (hs.take k) name = [] ∧ Below H w wr) (fun v _ => n - (intOf v).toNat)
  case atStart => exact ⟨0, by omega, rfl, rfl, hb1⟩
  case round =>
    clear hb1
    obtain ⟨k, hk, rfl, hv, hb⟩ := hrel
    by_cases hlt : k < n
    · have hkr : k < hs.length := by have := HA.out.2.1; omega
      have h0 : (hs.flatMap HD.cells)[k * 2]? = some (.string ⟨(hs[k].1).toArray⟩) := by
        have := flat_at' HD.cells 2 hs k 0 hkr (fun _ _ => rfl) (by omega)
        simpa [HD.cells] using this
      have h1 : (hs.flatMap HD.cells)[k * 2 + 1]? = some (.string ⟨(hs[k].2).toArray⟩) := by
        have := flat_at' HD.cells 2 hs k 1 hkr (fun _ _ => rfl) (by omega)
        simpa [HD.cells] using this
      obtain ⟨hd, hhd⟩ : ∃ x, x = hs[k] := ⟨_, rfl⟩
      have hok := HA.out.2.2.1 hd (by rw [hhd]; exact List.getElem_mem _)
      have hst := vals_take (name := name) hkr
      have hat := vals_at (name := name) hkr hv
      rw [← hhd] at h0 h1 hst hat
      rw [hv, List.nil_append] at hst
      obtain ⟨ad, hA', cc0⟩ := HA.out.1 (k * 2) (List.getElem?_eq_some_iff.1 h0).1
      have hrv := HA.out.1.below (hH ▸ hb)
      have a0 : wr.cell? (ad.add (k * 2)) = some (.string ⟨hd.1.toArray⟩) := hrv.cells hA' _ _ h0
      have a1 : wr.cell? ⟨(ad.add (k * 2)).block, (ad.add (k * 2)).off + 1, none⟩ = some (.string ⟨hd.2.toArray⟩) := cell_next (n := k * 2) (j := 0) (hrv.cells hA' _ _ h1)
      have hki : (k : Int) < (n : Int) := by omega
      have hk0 : (0 : Int) ≤ (k : Int) := by omega
      have cS := Lib.hid (fun W => same_any hd.1 name W (by have := hok.1; omega) (by have := HA.out.2.2.2; omega))
      rw [← HN.out] at cS
      obtain ⟨h1s, h2s⟩ := hd
      have HV := Lib.hid (And.intro hst (And.intro hat hb))
      subst hA'
      clear cc0 h0 h1 hok hst hat hv hb hlt hkr hhd hrv
      simp only at a0 a1 cS
      go_upto_region 4 with fail
      obtain ⟨w2, hw2⟩ : ∃ x, x = wr.alloc (.cells #[.string ⟨h1s.toArray⟩, .string ⟨h2s.toArray⟩] 29) := ⟨_, rfl⟩
      rw [← hw2]
      have hb2 : Below wr.heap.size wr w2 := hw2 ▸ ga (gr wr) _
      have hB2 : Blk w2 wr.heap.size 29 [.string ⟨h1s.toArray⟩, .string ⟨h2s.toArray⟩] := hw2 ▸ Blk.new wr _ _
      have HW2 := Lib.hid (And.intro (HV.out.2.2.trans (hb2.mono (hH ▸ HV.out.2.2.size))) hB2)
      generalize wr.heap.size = g7 at *
      clear a0 a1 hb2 hB2 hw2
      have d0 := HW2.out.2.cell 0
      simp only [List.getElem?_cons_zero] at d0
      cases hh : hit name (h1s, h2s) with
      | true =>
        have hdec : decide (low h1s = low name) = true := hh
        rw [hdec] at cS
        have HH := Lib.hid (HV.out.2.1 hh)
        clear hh hdec
        go_upto_region 5 with (first
          | (go_at_call 6; go_must (refine (cS.out _).mono ?_); rintro e w3 ⟨rfl, hb3⟩))
        have d1 := (HW2.out.2.grow hb3).cell 1
        simp only [List.getElem?_cons_zero, List.getElem?_cons_succ] at d1
        have HW3 := Lib.hid (HW2.out.1.trans (hb3.mono (hH ▸ HW2.out.1.size)))
        clear hb3 d0
        go_wp2_with fail
        go_ret2
        obtain ⟨r, hr⟩ := HH.out
        rw [hr]
        exact ⟨rfl, HW3.out⟩
      | false =>
        have hdec : decide (low h1s = low name) = false := hh
        rw [hdec] at cS
        have hv1 := HV.out.1
        rw [hh] at hv1
        have HH := Lib.hid hv1
        clear hh hdec hv1
        go_wp2_with (first
          | (go_at_call 6; go_must (refine (cS.out _).mono ?_); rintro e w3 ⟨rfl, hb3⟩))
        exact ⟨⟨k + 1, by omega, by go_num, by rw [HH.out]; rfl, HW2.out.1.trans (hb3.mono (hH ▸ HW2.out.1.size))⟩, by simp [intOf]; omega⟩
    · obtain rfl : k = n := by omega
      rw [List.take_of_length_le (by have := HA.out.2.1; omega)] at hv
      have HF := Lib.hid (And.intro hv hb)
      have hkk : ¬ (k : Int) < (k : Int) := by omega
      clear hv hb hlt
      go_wp2_with fail
      go_ret2
      rw [HF.out.1]
      exact ⟨rfl, HF.out.2⟩

theorem E32 : Elt Try.prog 32 9 [.string ⟨#[]⟩] 16 := Elt.mk1 Try.underlying32 (by kernel_rfl) rfl
def strV (s : List UInt8) : Value := .string ⟨s.toArray⟩
set_option maxRecDepth 4000 in
set_option maxHeartbeats 1600000 in
theorem values_any (A : Option Addr) (n c : Nat) (hs : List HD) (name : List UInt8) (w : World) (hA : RV w A (hs.flatMap HD.cells)) (hn : n = hs.length) (hok : ∀ h ∈ hs, HD.ok h)
    (hl : n ≤ 1048576) (hnm : name.length ≤ 1048576) :
    Calls Try.prog 7 #[.slice A n c, .string ⟨name.toArray⟩] w fun e w' => ∃ v, e = .returned v ∧ w'.ownsRow w.heap.size 9 1 v (vals hs name).length ((vals hs name).map strV) ∧ Below w.heap.size w w' := by
  have HA := Lib.hid (And.intro hA (And.intro hn (And.intro hok hnm)))
  obtain ⟨sn, hsn⟩ : ∃ x, x = (⟨name.toArray⟩ : ByteArray) := ⟨_, rfl⟩
  have hni : (n : Int) ≤ 1048576 := by omega
  rw [← hsn]
  have HN := Lib.hid hsn
  clear hA hn hok hnm hsn hl
  go_enter Try.func7, Try.ntmps7
  go_wp2_with fail
  go_loopw [5, 6] (fun v5 v wr => ∃ k : Nat, k ≤ n ∧ v = .int .i64 k ∧ wr.ownsRow w.heap.size 9 1 v5 (vals (hs.take k) name).length ((vals (hs.take k) name).map strV) ∧ Below w.heap.size w wr) (fun _ v _ => n - (intOf v).toNat)
  case atStart => exact ⟨0, by omega, rfl, World.ownsRow_nil w _ _ _, gr w⟩
  case round =>
    obtain ⟨k, hk, rfl, hown, hb⟩ := hrel
    obtain ⟨A5, n5, c5, rfl, hn5⟩ := own_form hown
    clear hn5
    by_cases hlt : k < n
    · have hkr : k < hs.length := by have := HA.out.2.1; omega
      have h0 : (hs.flatMap HD.cells)[k * 2]? = some (.string ⟨(hs[k].1).toArray⟩) := by
        have := flat_at' HD.cells 2 hs k 0 hkr (fun _ _ => rfl) (by omega)
        simpa [HD.cells] using this
      have h1 : (hs.flatMap HD.cells)[k * 2 + 1]? = some (.string ⟨(hs[k].2).toArray⟩) := by
        have := flat_at' HD.cells 2 hs k 1 hkr (fun _ _ => rfl) (by omega)
        simpa [HD.cells] using this
      obtain ⟨hd, hhd⟩ : ∃ x, x = hs[k] := ⟨_, rfl⟩
      have hok := HA.out.2.2.1 hd (by rw [hhd]; exact List.getElem_mem _)
      have hst := vals_take (name := name) hkr
      rw [← hhd] at h0 h1 hst
      obtain ⟨ad, hA', cc0⟩ := HA.out.1 (k * 2) (List.getElem?_eq_some_iff.1 h0).1
      have hrv := HA.out.1.below hb
      have a0 : wr.cell? (ad.add (k * 2)) = some (.string ⟨hd.1.toArray⟩) := hrv.cells hA' _ _ h0
      have a1 : wr.cell? ⟨(ad.add (k * 2)).block, (ad.add (k * 2)).off + 1, none⟩ = some (.string ⟨hd.2.toArray⟩) := cell_next (n := k * 2) (j := 0) (hrv.cells hA' _ _ h1)
      have hki : (k : Int) < (n : Int) := by omega
      have hk0 : (0 : Int) ≤ (k : Int) := by omega
      have hvl : (vals (hs.take k) name).length ≤ 1048576 := by
        have h2 : (vals (hs.take k) name).length ≤ (hs.take k).length := by unfold vals; rw [List.length_map]; exact List.length_filter_le _ _
        rw [List.length_take] at h2
        omega
      have cS := Lib.hid (fun W => rsame_any hd.1 name W (by have := hok.1; omega) (by have := HA.out.2.2.2; omega))
      rw [← HN.out] at cS
      obtain ⟨vk, hvk⟩ : ∃ x, x = vals (hs.take k) name := ⟨_, rfl⟩
      rw [← hvk] at hst hown hvl
      obtain ⟨h1s, h2s⟩ := hd
      have HV := Lib.hid (And.intro hst (And.intro hown hb))
      subst hA'
      clear cc0 h0 h1 hok hst hown hb hlt hkr hhd hrv hvk
      simp only at a0 a1 cS
      cases hh : hit name (h1s, h2s) with
      | true =>
        have hdec : decide (low h1s = low name) = true := hh
        rw [hdec] at cS
        have hv1 := HV.out.1
        rw [hh, if_pos rfl] at hv1
        have HH := Lib.hid hv1
        clear hh hdec hv1
        go_upto_region 6 with (first
          | (go_at_call 9; go_must (refine (cS.out _).mono ?_); rintro e w3 ⟨rfl, hb3⟩))
        replace a1 := cell_grow a1 hb3
        have HW3 := Lib.hid (And.intro (own_belowB HV.out.2.1 hb3) (gt HV.out.2.2 hb3))
        clear hb3 a0
        go_wp2_with (first
          | ((with_reducible show wpList _ _ _ (⟨some 26, _, _, _, _, _⟩ :: _) _ _); go_must (refine wpList_one E32 rfl (.tmp 25) rfl (by decide) [strV h2s] rfl rfl w3.heap.size rfl ?_); intro w4 hB4 hb4)
          | ((with_reducible show wpList _ _ _ (⟨some 27, _, _, _, _, _⟩ :: _) _ _); go_must (refine wpList_app E32 rfl (.tmp 20) (.tmp 26) rfl w.heap.size (.slice A5 n5 c5) vk.length (vk.map strV) rfl (own_belowB HW3.out.1 hb4) (some ⟨w3.heap.size, 0, none⟩) 1 1 [strV h2s] rfl hB4.rv rfl (by intro u hu; simp at hu; subst hu; rfl) (by unfold maxLen; omega) (by omega) (gt HW3.out.2 hb4).size ?_); intro v' w5 hown5 hg5 _))
        refine ⟨⟨k + 1, by omega, by go_num, ?_, below_own (gt HW3.out.2 hb4) (own_belowB HW3.out.1 hb4) hg5 (gt HW3.out.2 hb4).size⟩, by simp [intOf]; omega⟩
        rw [HH.out, List.length_append, List.map_append]
        exact hown5
      | false =>
        have hdec : decide (low h1s = low name) = false := hh
        rw [hdec] at cS
        have hv1 := HV.out.1
        rw [hh, if_neg (by decide), List.append_nil] at hv1
        have HH := Lib.hid hv1
        clear hh hdec hv1
        go_wp2_with (first
          | (go_at_call 9; go_must (refine (cS.out _).mono ?_); rintro e w3 ⟨rfl, hb3⟩))
        exact ⟨⟨k + 1, by omega, by go_num, by rw [HH.out]; exact own_belowB HV.out.2.1 hb3, gt HV.out.2.2 hb3⟩, by simp [intOf]; omega⟩
    · obtain rfl : k = n := by omega
      rw [List.take_of_length_le (by have := HA.out.2.1; omega)] at hown
      have HF := Lib.hid (And.intro hown hb)
      have hkk : ¬ (k : Int) < (k : Int) := by omega
      clear hown hb hlt
      go_wp2_with fail
      go_ret
      exact ⟨_, rfl, HF.out.1, HF.out.2⟩

set_option maxRecDepth 4000 in
set_option maxHeartbeats 1600000 in
theorem rheader_any (v0 v1 v3 v4 : Value) (o0 : v0.oneCell' = true) (o1 : v1.oneCell' = true) (o3 : v3.oneCell' = true) (o4 : v4.oneCell' = true) (A : Option Addr) (n c : Nat) (hs : List HD) (name : List UInt8) (w : World) (hA : RV w A (hs.flatMap HD.cells)) (hn : n = hs.length) (hok : ∀ h ∈ hs, HD.ok h)
    (hl : n ≤ 1048576) (hnm : name.length ≤ 1048576) :
    Calls Try.prog 5 #[.agg #[v0, v1, .slice A n c, v3, v4], .string ⟨name.toArray⟩] w fun e w' => e = .returned (.tuple #[.string ⟨(headS (vals hs name)).toArray⟩, .bool (headB (vals hs name))]) ∧ Below w.heap.size w w' := by
  have hvl : (vals hs name).length ≤ 1048576 := by
    have h2 : (vals hs name).length ≤ hs.length := by unfold vals; rw [List.length_map]; exact List.length_filter_le _ _
    omega
  obtain ⟨w1, hw1⟩ : ∃ x, x = w.alloc (.cells #[v0, v1, .slice A n c, v3, v4] 25) := ⟨_, rfl⟩
  have hb1 : Below w.heap.size w w1 := hw1 ▸ ga (gr w) _
  have cV := Lib.hid (values_any A n c hs name w1 (hA.below hb1) hn hok hl hnm)
  have HB := Lib.hid hb1
  obtain ⟨vs, hvs⟩ : ∃ x, x = vals hs name := ⟨_, rfl⟩
  rw [← hvs] at cV hvl ⊢
  clear hA hn hok hnm hl hb1 hvs
  go_enter Try.func5, Try.ntmps5
  go_upto_region 2 with (first
    | (go_at_call 7; go_must (rw [← hw1]; refine (cV.out).mono ?_); rintro e w2 ⟨v, rfl, hown, hb2⟩))
  obtain ⟨A6, n6, c6, rfl, hn6⟩ := own_form hown
  have HF := Lib.hid (gt HB.out hb2)
  have hN := Lib.hid hn6
  clear hn6
  cases vs with
  | nil =>
    obtain rfl : n6 = 0 := hN.out
    clear hown hb2 hN
    go_wp2_with fail
    go_ret2
    exact ⟨rfl, HF.out⟩
  | cons x r =>
    obtain rfl : n6 = (x :: r).length := hN.out
    have hrv := own_rv hown
    obtain ⟨ad, hA', cc⟩ := hrv 0 (by simp)
    have a0 : w2.cell? (ad.add 0) = some (.string ⟨x.toArray⟩) := cc
    rw [show ad.add 0 = ad from by unfold Addr.add; rfl] at a0
    subst hA'
    clear hown hb2 hrv cc hvl hN
    go_wp2_with fail
    go_ret2
    exact ⟨rfl, HF.out⟩

set_option maxRecDepth 4000 in
set_option maxHeartbeats 1600000 in
theorem law_heads (m t : ByteArray) (B : Option Addr) (nb cb : Nat) (cl : Bool) (A : Option Addr) (c : Nat) (hs : List HD) (name : List UInt8) (w : World) (hA : RV w A (hs.flatMap HD.cells)) (hok : ∀ h ∈ hs, HD.ok h)
    (hl : hs.length ≤ 1048576) (hnm : name.length ≤ 1048576) :
    Calls Try.prog 3 #[.agg #[.string m, .string t, .slice A hs.length c, .slice B nb cb, .bool cl], .string ⟨name.toArray⟩] w fun e w' => e = .returned (.bool true) ∧ Below w.heap.size w w' := by
  obtain ⟨n, hn⟩ : ∃ x, x = hs.length := ⟨_, rfl⟩
  rw [← hn]
  obtain ⟨os, hos⟩ : ∃ x : ByteArray, x = ⟨(headS (vals hs name)).toArray⟩ := ⟨_, rfl⟩
  obtain ⟨ob, hob⟩ : ∃ x, x = headB (vals hs name) := ⟨_, rfl⟩
  have cH := Lib.hid (fun W (hW : Below w.heap.size w W) => header_any (.string m) (.string t) (.slice B nb cb) (.bool cl) rfl rfl rfl rfl A n c hs name W (hA.below hW) hn hok (by omega) hnm)
  have cR := Lib.hid (fun W (hW : Below w.heap.size w W) => rheader_any (.string m) (.string t) (.slice B nb cb) (.bool cl) rfl rfl rfl rfl A n c hs name W (hA.below hW) hn hok (by omega) hnm)
  have c0 := Lib.hid (fun W A (hA : RV W A ([([104, 111, 83, 84], [98]), ([72, 111, 115, 116], [99])].flatMap HD.cells)) => header_any (.string ⟨#[]⟩) (.string ⟨#[]⟩) (.slice none 0 0) (.bool false) rfl rfl rfl rfl A 2 2 [([104, 111, 83, 84], [98]), ([72, 111, 115, 116], [99])] [72, 111, 115, 116] W hA rfl (by intro h hh; simp at hh; rcases hh with rfl | rfl <;> exact ⟨by decide, by decide⟩) (by omega) (by decide))
  rw [show vals [([104, 111, 83, 84], [98]), ([72, 111, 115, 116], [99])] [72, 111, 115, 116] = [[98], [99]] by decide +kernel] at c0
  rw [← hos, ← hob] at cH cR
  clear hn hA hok hl hnm hos hob
  obtain ⟨w1, hw1⟩ : ∃ x, x = w.alloc (.cells #[.string m, .string t, .slice A n c, .slice B nb cb, .bool cl] 25) := ⟨_, rfl⟩
  have hb1 : Below w.heap.size w w1 := hw1 ▸ ga (gr w) _
  have hB1 : Blk w1 w.heap.size 25 [.string m, .string t, .slice A n c, .slice B nb cb, .bool cl] := hw1 ▸ Blk.new w _ _
  have HW1 := Lib.hid (And.intro hb1 hB1)
  clear hb1 hB1
  go_enter Try.func3, Try.ntmps3
  go_upto_region 2 with (first
    | (go_at_call 4; go_must (refine (c0.out _ _ (rv2b w _ _ _)).mono ?_); rintro e w2 ⟨rfl, hb2⟩))
  rw [← hw1] at hb2
  have hg2 := gt (ga (gr w1) _) hb2
  have HW2 := Lib.hid (And.intro (gt HW1.out.1 hg2) (HW1.out.2.grow hg2))
  clear hb2 hg2 hw1
  have d0 := HW2.out.2.cell 0
  have d1 := HW2.out.2.cell 1
  have d2 := HW2.out.2.cell 2
  have d3 := HW2.out.2.cell 3
  have d4 := HW2.out.2.cell 4
  simp only [List.getElem?_cons_succ, List.getElem?_cons_zero] at d0 d1 d2 d3 d4
  go_upto_region 5 with (first
    | (go_at_call 4; go_must (refine (cH.out _ HW2.out.1).mono ?_); rintro e w3 ⟨rfl, hb3⟩))
  replace d0 := cell_grow d0 hb3
  replace d1 := cell_grow d1 hb3
  replace d2 := cell_grow d2 hb3
  replace d3 := cell_grow d3 hb3
  replace d4 := cell_grow d4 hb3
  have HW3 := Lib.hid (gt HW2.out.1 hb3)
  clear hb3
  go_wp2_with (first
    | (go_at_call 5; go_must (refine (cR.out _ HW3.out).mono ?_); rintro e w4 ⟨rfl, hb4⟩))
  go_ret
  exact ⟨ret_bool (by simp), gt HW3.out hb4⟩
end Go.Proofs.Ytojemdggbcklkaa.Heads
