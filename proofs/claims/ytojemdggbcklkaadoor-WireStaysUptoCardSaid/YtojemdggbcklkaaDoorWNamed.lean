/- named: the program's values under a name. -/
import Derived.Test.YtojemdggbcklkaaDoorWRFields

/- ref.values, named: the values under a name. (The first is as in Heads2.) -/
namespace Go.Proofs.YtojemdggbcklkaaDoor.Heads
open Go.RowKit Go.Proofs.YtojemdggbcklkaaDoor.Mem Go.Proofs.YtojemdggbcklkaaDoor.Seal
set_option linter.unusedVariables false
set_option linter.unusedSimpArgs false

def HD.ok (h : HD) : Prop := h.1.length ≤ 1048576 ∧ h.2.length ≤ 1048576
theorem flat_at' {α : Type} (f : α → List Value) (size : Nat) : ∀ (l : List α) (k j : Nat) (h : k < l.length), (∀ a ∈ l, (f a).length = size) → j < size → (l.flatMap f)[k * size + j]? = (f l[k])[j]?
  | [], k, j, h, _, _ => absurd h (by simp)
  | a :: r, 0, j, h, hf, hj => by
    have := hf a List.mem_cons_self
    simp only [Nat.zero_mul, Nat.zero_add, List.flatMap_cons, List.getElem_cons_zero]
    rw [List.getElem?_append_left (by omega)]
  | a :: r, k + 1, j, h, hf, hj => by
    have h1 := hf a List.mem_cons_self
    have h2 := flat_at' f size r k j (by simpa using h) (fun b hb => hf b (List.mem_cons_of_mem _ hb)) hj
    simp only [List.flatMap_cons, List.getElem_cons_succ]
    rw [List.getElem?_append_right (by rw [h1, Nat.add_mul]; omega), h1, ← h2]
    congr 1
    rw [Nat.add_mul]; omega

theorem E32 : Elt Tryd.prog 85 9 [.string ⟨#[]⟩] 16 := Elt.mk1 Tryd.underlying85 (by kernel_rfl) rfl
def strV (s : List UInt8) : Value := .string ⟨s.toArray⟩
set_option maxRecDepth 4000 in
set_option maxHeartbeats 1600000 in
theorem values_any (A : Option Addr) (n c : Nat) (hs : List HD) (name : List UInt8) (w : World) (hA : RV w A (hs.flatMap HD.cells)) (hn : n = hs.length) (hok : ∀ h ∈ hs, HD.ok h)
    (hl : n ≤ 1048576) (hnm : name.length ≤ 1048576) :
    Calls Tryd.prog 42 #[.slice A n c, .string ⟨name.toArray⟩] w fun e w' => ∃ v, e = .returned v ∧ w'.ownsRow w.heap.size 9 1 v (vals hs name).length ((vals hs name).map strV) ∧ Below w.heap.size w w' := by
  have HA := Lib.hid (And.intro hA (And.intro hn (And.intro hok hnm)))
  obtain ⟨sn, hsn⟩ : ∃ x, x = (⟨name.toArray⟩ : ByteArray) := ⟨_, rfl⟩
  have hni : (n : Int) ≤ 1048576 := by omega
  rw [← hsn]
  have HN := Lib.hid hsn
  clear hA hn hok hnm hsn hl
  go_enter Tryd.func42, Tryd.ntmps42
  go_wp2_with fail
  go_loopw [5, 6] (fun v5 v wr => ∃ k : Nat, k ≤ n ∧ v = .int .i64 k ∧ wr.ownsRow w.heap.size 9 1 v5 (vals (hs.take k) name).length ((vals (hs.take k) name).map strV) ∧ Below w.heap.size w wr) (fun _ v _ => n - (intOf v).toNat)
  case atStart => exact ⟨0, by omega, rfl, World.ownsRow_nil w _ _ _, gr w⟩
  case round =>
    obtain ⟨k, hk, rfl, hown, hb⟩ := hrel
    obtain ⟨A5, n5, c5, rfl, hn5⟩ := own_form hown
    clear hn5
    by_cases hlt : k < n
    · have hkr : k < hs.length := by have := HA.out.2.1; omega
      have h0 : (hs.flatMap HD.cells)[k * 2]? = some (.string ⟨(hs[k].1).toArray⟩) := by
        have := flat_at' HD.cells 2 hs k 0 hkr (fun _ _ => rfl) (by omega)
        simpa [HD.cells] using this
      have h1 : (hs.flatMap HD.cells)[k * 2 + 1]? = some (.string ⟨(hs[k].2).toArray⟩) := by
        have := flat_at' HD.cells 2 hs k 1 hkr (fun _ _ => rfl) (by omega)
        simpa [HD.cells] using this
      obtain ⟨hd, hhd⟩ : ∃ x, x = hs[k] := ⟨_, rfl⟩
      have hok := HA.out.2.2.1 hd (by rw [hhd]; exact List.getElem_mem _)
      have hst := vals_take (name := name) hkr
      rw [← hhd] at h0 h1 hst
      obtain ⟨ad, hA', cc0⟩ := HA.out.1 (k * 2) (List.getElem?_eq_some_iff.1 h0).1
      have hrv := HA.out.1.below hb
      have a0 : wr.cell? (ad.add (k * 2)) = some (.string ⟨hd.1.toArray⟩) := hrv.cells hA' _ _ h0
      have a1 : wr.cell? ⟨(ad.add (k * 2)).block, (ad.add (k * 2)).off + 1, none⟩ = some (.string ⟨hd.2.toArray⟩) := cell_next (n := k * 2) (j := 0) (hrv.cells hA' _ _ h1)
      have hki : (k : Int) < (n : Int) := by omega
      have hk0 : (0 : Int) ≤ (k : Int) := by omega
      have hvl : (vals (hs.take k) name).length ≤ 1048576 := by
        have h2 : (vals (hs.take k) name).length ≤ (hs.take k).length := by unfold vals; rw [List.length_map]; exact List.length_filter_le _ _
        rw [List.length_take] at h2
        omega
      have cS := Lib.hid (fun W => rsame_any hd.1 name W (by have := hok.1; omega) (by have := HA.out.2.2.2; omega))
      rw [← HN.out] at cS
      obtain ⟨vk, hvk⟩ : ∃ x, x = vals (hs.take k) name := ⟨_, rfl⟩
      rw [← hvk] at hst hown hvl
      obtain ⟨h1s, h2s⟩ := hd
      have HV := Lib.hid (And.intro hst (And.intro hown hb))
      subst hA'
      clear cc0 h0 h1 hok hst hown hb hlt hkr hhd hrv hvk
      simp only at a0 a1 cS
      cases hh : hit name (h1s, h2s) with
      | true =>
        have hdec : decide (low h1s = low name) = true := hh
        rw [hdec] at cS
        have hv1 := HV.out.1
        rw [hh, if_pos rfl] at hv1
        have HH := Lib.hid hv1
        clear hh hdec hv1
        go_upto_region 6 with (first
          | (go_at_call 43; go_must (refine (cS.out _).mono ?_); rintro e w3 ⟨rfl, hb3⟩))
        replace a1 := cell_grow a1 hb3
        have HW3 := Lib.hid (And.intro (own_belowB HV.out.2.1 hb3) (gt HV.out.2.2 hb3))
        clear hb3 a0
        go_wp2_with (first
          | ((with_reducible show wpList _ _ _ (⟨some 26, _, _, _, _, _⟩ :: _) _ _); go_must (refine wpList_one E32 rfl (.tmp 25) rfl (by decide) [strV h2s] rfl rfl w3.heap.size rfl ?_); intro w4 hB4 hb4)
          | ((with_reducible show wpList _ _ _ (⟨some 27, _, _, _, _, _⟩ :: _) _ _); go_must (refine wpList_app E32 rfl (.tmp 20) (.tmp 26) rfl w.heap.size (.slice A5 n5 c5) vk.length (vk.map strV) rfl (own_belowB HW3.out.1 hb4) (some ⟨w3.heap.size, 0, none⟩) 1 1 [strV h2s] rfl hB4.rv rfl (by intro u hu; simp at hu; subst hu; rfl) (by unfold maxLen; omega) (by omega) (gt HW3.out.2 hb4).size ?_); intro v' w5 hown5 hg5 _))
        refine ⟨⟨k + 1, by omega, by go_num, ?_, below_own (gt HW3.out.2 hb4) (own_belowB HW3.out.1 hb4) hg5 (gt HW3.out.2 hb4).size⟩, by simp [intOf]; omega⟩
        rw [HH.out, List.length_append, List.map_append]
        exact hown5
      | false =>
        have hdec : decide (low h1s = low name) = false := hh
        rw [hdec] at cS
        have hv1 := HV.out.1
        rw [hh, if_neg (by decide), List.append_nil] at hv1
        have HH := Lib.hid hv1
        clear hh hdec hv1
        go_wp2_with (first
          | (go_at_call 43; go_must (refine (cS.out _).mono ?_); rintro e w3 ⟨rfl, hb3⟩))
        exact ⟨⟨k + 1, by omega, by go_num, by rw [HH.out]; exact own_belowB HV.out.2.1 hb3, gt HV.out.2.2 hb3⟩, by simp [intOf]; omega⟩
    · obtain rfl : k = n := by omega
      rw [List.take_of_length_le (by have := HA.out.2.1; omega)] at hown
      have HF := Lib.hid (And.intro hown hb)
      have hkk : ¬ (k : Int) < (k : Int) := by omega
      clear hown hb hlt
      go_wp2_with fail
      go_ret
      exact ⟨_, rfl, HF.out.1, HF.out.2⟩

end Go.Proofs.YtojemdggbcklkaaDoor.Heads
namespace Go.Proofs.YtojemdggbcklkaaDoor.Heads
open Go.RowKit Go.Proofs.YtojemdggbcklkaaDoor.Mem Go.Proofs.YtojemdggbcklkaaDoor.Seal
set_option linter.unusedVariables false
set_option linter.unusedSimpArgs false
set_option maxRecDepth 4000 in
set_option maxHeartbeats 1600000 in
theorem named_any (A : Option Addr) (n c : Nat) (hs : List HD) (name : List UInt8) (w : World) (hA : RV w A (hs.flatMap HD.cells)) (hn : n = hs.length) (hok : ∀ h ∈ hs, HD.ok h)
    (hl : n ≤ 1048576) (hnm : name.length ≤ 1048576) :
    Calls Tryd.prog 54 #[.slice A n c, .string ⟨name.toArray⟩] w fun e w' => ∃ v, e = .returned v ∧ w'.ownsRow w.heap.size 9 1 v (vals hs name).length ((vals hs name).map strV) ∧ Below w.heap.size w w' := by
  have HA := Lib.hid (And.intro hA (And.intro hn (And.intro hok hnm)))
  obtain ⟨sn, hsn⟩ : ∃ x, x = (⟨name.toArray⟩ : ByteArray) := ⟨_, rfl⟩
  have hni : (n : Int) ≤ 1048576 := by omega
  rw [← hsn]
  have HN := Lib.hid hsn
  clear hA hn hok hnm hsn hl
  go_enter Tryd.func54, Tryd.ntmps54
  go_wp2_with fail
  go_loopw [5, 10] (fun v5 v wr => ∃ k : Nat, k ≤ n ∧ v = .int .i64 k ∧ wr.ownsRow w.heap.size 9 1 v5 (vals (hs.take k) name).length ((vals (hs.take k) name).map strV) ∧ Below w.heap.size w wr) (fun _ v _ => n - (intOf v).toNat)
  case atStart => exact ⟨0, by omega, rfl, World.ownsRow_nil w _ _ _, gr w⟩
  case round =>
    obtain ⟨k, hk, rfl, hown, hb⟩ := hrel
    obtain ⟨A5, n5, c5, rfl, hn5⟩ := own_form hown
    clear hn5
    by_cases hlt : k < n
    · have hkr : k < hs.length := by have := HA.out.2.1; omega
      have h0 : (hs.flatMap HD.cells)[k * 2]? = some (.string ⟨(hs[k].1).toArray⟩) := by
        have := flat_at' HD.cells 2 hs k 0 hkr (fun _ _ => rfl) (by omega)
        simpa [HD.cells] using this
      have h1 : (hs.flatMap HD.cells)[k * 2 + 1]? = some (.string ⟨(hs[k].2).toArray⟩) := by
        have := flat_at' HD.cells 2 hs k 1 hkr (fun _ _ => rfl) (by omega)
        simpa [HD.cells] using this
      obtain ⟨hd, hhd⟩ : ∃ x, x = hs[k] := ⟨_, rfl⟩
      have hok := HA.out.2.2.1 hd (by rw [hhd]; exact List.getElem_mem _)
      have hst := vals_take (name := name) hkr
      rw [← hhd] at h0 h1 hst
      obtain ⟨ad, hA', cc0⟩ := HA.out.1 (k * 2) (List.getElem?_eq_some_iff.1 h0).1
      have hrv := HA.out.1.below hb
      have a0 : wr.cell? (ad.add (k * 2)) = some (.string ⟨hd.1.toArray⟩) := hrv.cells hA' _ _ h0
      have a1 : wr.cell? ⟨(ad.add (k * 2)).block, (ad.add (k * 2)).off + 1, none⟩ = some (.string ⟨hd.2.toArray⟩) := cell_next (n := k * 2) (j := 0) (hrv.cells hA' _ _ h1)
      have hki : (k : Int) < (n : Int) := by omega
      have hk0 : (0 : Int) ≤ (k : Int) := by omega
      have hvl : (vals (hs.take k) name).length ≤ 1048576 := by
        have h2 : (vals (hs.take k) name).length ≤ (hs.take k).length := by unfold vals; rw [List.length_map]; exact List.length_filter_le _ _
        rw [List.length_take] at h2
        omega
      have cS := Lib.hid (fun W => same_any hd.1 name W (by have := hok.1; omega) (by have := HA.out.2.2.2; omega))
      rw [← HN.out] at cS
      obtain ⟨vk, hvk⟩ : ∃ x, x = vals (hs.take k) name := ⟨_, rfl⟩
      rw [← hvk] at hst hown hvl
      obtain ⟨h1s, h2s⟩ := hd
      have HV := Lib.hid (And.intro hst (And.intro hown hb))
      subst hA'
      clear cc0 h0 h1 hok hst hown hb hlt hkr hhd hrv hvk
      simp only at a0 a1 cS
      go_upto_region 5 with fail
      obtain ⟨w2, hw2⟩ : ∃ x, x = wr.alloc (.cells #[.string ⟨h1s.toArray⟩, .string ⟨h2s.toArray⟩] 58) := ⟨_, rfl⟩
      rw [← hw2]
      have hb2 : Below wr.heap.size wr w2 := hw2 ▸ ga (gr wr) _
      have hB2 : Blk w2 wr.heap.size 58 [.string ⟨h1s.toArray⟩, .string ⟨h2s.toArray⟩] := hw2 ▸ Blk.new wr _ _
      have HW2 := Lib.hid (And.intro (gt HV.out.2.2 hb2) (And.intro (own_belowB HV.out.2.1 hb2) hB2))
      generalize wr.heap.size = g7 at *
      clear a0 a1 hb2 hB2 hw2
      have d0 := HW2.out.2.2.cell 0
      simp only [List.getElem?_cons_zero] at d0
      cases hh : hit name (h1s, h2s) with
      | true =>
        have hdec : decide (low h1s = low name) = true := hh
        rw [hdec] at cS
        have hv1 := HV.out.1
        rw [hh, if_pos rfl] at hv1
        have HH := Lib.hid hv1
        clear hh hdec hv1
        go_upto_region 6 with (first
          | (go_at_call 56; go_must (refine (cS.out _).mono ?_); rintro e w3 ⟨rfl, hb3⟩))
        have d1 := (HW2.out.2.2.grow hb3).cell 1
        simp only [List.getElem?_cons_zero, List.getElem?_cons_succ] at d1
        have HW3 := Lib.hid (And.intro (own_belowB HW2.out.2.1 hb3) (gt HW2.out.1 hb3))
        clear hb3 d0
        go_wp2_with (first
          | ((with_reducible show wpList _ _ _ (⟨some 21, _, _, _, _, _⟩ :: _) _ _); go_must (refine wpList_one E32 rfl (.tmp 20) rfl (by decide) [strV h2s] rfl rfl w3.heap.size rfl ?_); intro w4 hB4 hb4)
          | ((with_reducible show wpList _ _ _ (⟨some 22, _, _, _, _, _⟩ :: _) _ _); go_must (refine wpList_app E32 rfl (.tmp 18) (.tmp 21) rfl w.heap.size (.slice A5 n5 c5) vk.length (vk.map strV) rfl (own_belowB HW3.out.1 hb4) (some ⟨w3.heap.size, 0, none⟩) 1 1 [strV h2s] rfl hB4.rv rfl (by intro u hu; simp at hu; subst hu; rfl) (by unfold maxLen; omega) (by omega) (gt HW3.out.2 hb4).size ?_); intro v' w5 hown5 hg5 _))
        refine ⟨⟨k + 1, by omega, by go_num, ?_, below_own (gt HW3.out.2 hb4) (own_belowB HW3.out.1 hb4) hg5 (gt HW3.out.2 hb4).size⟩, by simp [intOf]; omega⟩
        rw [HH.out, List.length_append, List.map_append]
        exact hown5
      | false =>
        have hdec : decide (low h1s = low name) = false := hh
        rw [hdec] at cS
        have hv1 := HV.out.1
        rw [hh, if_neg (by decide), List.append_nil] at hv1
        have HH := Lib.hid hv1
        clear hh hdec hv1
        go_wp2_with (first
          | (go_at_call 56; go_must (refine (cS.out _).mono ?_); rintro e w3 ⟨rfl, hb3⟩))
        exact ⟨⟨k + 1, by omega, by go_num, by rw [HH.out]; exact own_belowB HW2.out.2.1 hb3, gt HW2.out.1 hb3⟩, by simp [intOf]; omega⟩
    · obtain rfl : k = n := by omega
      rw [List.take_of_length_le (by have := HA.out.2.1; omega)] at hown
      have HF := Lib.hid (And.intro hown hb)
      have hkk : ¬ (k : Int) < (k : Int) := by omega
      clear hown hb hlt
      go_wp2_with fail
      go_ret
      exact ⟨_, rfl, HF.out.1, HF.out.2⟩

end Go.Proofs.YtojemdggbcklkaaDoor.Heads
