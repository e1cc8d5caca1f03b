/- uri: First, All: the program's and the reference's. -/
import Derived.Test.YtompcngeikjfiaaDoorUri3
namespace Go.Proofs.YtompcngeikjfiaaDoor.Uri
open Go.RowKit Go.Proofs.YtompcngeikjfiaaDoor.Mem Go.Proofs.YtompcngeikjfiaaDoor.Seal
set_option linter.unusedVariables false

abbrev PD := List UInt8 × List UInt8
def PD.cells (h : PD) : List Value := [.string ⟨h.1.toArray⟩, .string ⟨h.2.toArray⟩]
def PD.ok (h : PD) : Prop := h.1.length ≤ 1048576 ∧ h.2.length ≤ 1048576
def strV (s : List UInt8) : Value := .string ⟨s.toArray⟩
theorem E30 : Elt Tryd.prog 30 9 [.string ⟨#[]⟩] 16 := Elt.mk1 Tryd.underlying30 (by kernel_rfl) rfl
def hit (name : List UInt8) (h : PD) : Bool := decide (h.1 = name)
def vals (hs : List PD) (name : List UInt8) : List (List UInt8) := (hs.filter (hit name)).map (·.2)
def headS (l : List (List UInt8)) : List UInt8 := l.headD []
def headB (l : List (List UInt8)) : Bool := !l.isEmpty
theorem vals_take {hs : List PD} {name : List UInt8} {k : Nat} (h : k < hs.length) : vals (hs.take (k + 1)) name = vals (hs.take k) name ++ if hit name hs[k] then [hs[k].2] else [] := by
  unfold vals
  rw [take_succ_ h, List.filter_append, List.map_append]
  congr 1
  cases hh : hit name hs[k] <;> simp [hh]
theorem vals_at {hs : List PD} {name : List UInt8} {k : Nat} (h : k < hs.length) (h0 : vals (hs.take k) name = []) (hh : hit name hs[k] = true) : ∃ r, vals hs name = hs[k].2 :: r := by
  refine ⟨vals (hs.drop (k + 1)) name, ?_⟩
  have e : hs = hs.take k ++ hs[k] :: hs.drop (k + 1) := by rw [← List.drop_eq_getElem_cons h, List.take_append_drop]
  have : vals hs name = vals (hs.take k) name ++ vals (hs[k] :: hs.drop (k + 1)) name := by
    unfold vals
    rw [← List.map_append, ← List.filter_append, ← e]
  rw [this, h0, List.nil_append]
  unfold vals
  rw [List.filter_cons_of_pos hh]
  rfl
theorem vals_len (hs : List PD) (name : List UInt8) : (vals hs name).length ≤ hs.length := by unfold vals; rw [List.length_map]; exact List.length_filter_le _ _
theorem flat_at' {α : Type} (f : α → List Value) (size : Nat) : ∀ (l : List α) (k j : Nat) (h : k < l.length), (∀ a ∈ l, (f a).length = size) → j < size → (l.flatMap f)[k * size + j]? = (f l[k])[j]?
  | [], k, j, h, _, _ => absurd h (by simp)
  | a :: r, 0, j, h, hf, hj => by
    have := hf a List.mem_cons_self
    simp only [Nat.zero_mul, Nat.zero_add, List.flatMap_cons, List.getElem_cons_zero]
    rw [List.getElem?_append_left (by omega)]
  | a :: r, k + 1, j, h, hf, hj => by
    have h1 := hf a List.mem_cons_self
    have h2 := flat_at' f size r k j (by simpa using h) (fun b hb => hf b (List.mem_cons_of_mem _ hb)) hj
    simp only [List.flatMap_cons, List.getElem_cons_succ]
    rw [List.getElem?_append_right (by rw [h1, Nat.add_mul]; omega), h1, ← h2]
    congr 1
    rw [Nat.add_mul]; omega
/-- the two cells of parameter number k -/
theorem pd_cells {w : World} {A : Option Addr} {ps : List PD} (h : RV w A (ps.flatMap PD.cells)) {k : Nat} (hk : k < ps.length) :
    ∃ ad, A = some ad ∧ w.cell? (ad.add (k * 2)) = some (.string ⟨ps[k].1.toArray⟩) ∧ w.cell? ⟨(ad.add (k * 2)).block, (ad.add (k * 2)).off + 1, none⟩ = some (.string ⟨ps[k].2.toArray⟩) := by
  have h0 : (ps.flatMap PD.cells)[k * 2]? = some (.string ⟨(ps[k].1).toArray⟩) := by
    have := flat_at' PD.cells 2 ps k 0 hk (fun _ _ => rfl) (by omega)
    simpa [PD.cells] using this
  have h1 : (ps.flatMap PD.cells)[k * 2 + 1]? = some (.string ⟨(ps[k].2).toArray⟩) := by
    have := flat_at' PD.cells 2 ps k 1 hk (fun _ _ => rfl) (by omega)
    simpa [PD.cells] using this
  obtain ⟨ad, hA, _⟩ := h (k * 2) (List.getElem?_eq_some_iff.1 h0).1
  exact ⟨ad, hA, h.cells hA _ _ h0, cell_next (n := k * 2) (j := 0) (h.cells hA _ _ h1)⟩
theorem str_cmp (a b : List UInt8) : ((⟨a.toArray⟩ : ByteArray).toList == (⟨b.toArray⟩ : ByteArray).toList) = decide (a = b) := by
  rw [ByteArray.toList_eq, ByteArray.toList_eq, Bool.eq_iff_iff]; simp

set_option maxRecDepth 4000 in
set_option maxHeartbeats 1600000 in
theorem rall_any (A : Option Addr) (n c : Nat) (hs : List PD) (name : List UInt8) (w : World) (hA : RV w A (hs.flatMap PD.cells)) (hn : n = hs.length) (hl : n ≤ 1048576) :
    Calls Tryd.prog 22 #[.slice A n c, .string ⟨name.toArray⟩] w fun e w' => ∃ v, e = .returned v ∧ w'.ownsRow w.heap.size 9 1 v (vals hs name).length ((vals hs name).map strV) ∧ Below w.heap.size w w' := by
  have HA := Lib.hid (And.intro hA hn)
  obtain ⟨sn, hsn⟩ : ∃ x, x = (⟨name.toArray⟩ : ByteArray) := ⟨_, rfl⟩
  have hni : (n : Int) ≤ 1048576 := by omega
  rw [← hsn]
  have HN := Lib.hid hsn
  clear hA hn hsn hl
  go_enter Tryd.func22, Tryd.ntmps22
  go_wp2_with fail
  go_loopw [5, 6] (fun v5 v wr => ∃ k : Nat, k ≤ n ∧ v = .int .i64 k ∧ wr.ownsRow w.heap.size 9 1 v5 (vals (hs.take k) name).length ((vals (hs.take k) name).map strV) ∧ Below w.heap.size w wr) (fun _ v _ => n - (intOf v).toNat)
  case atStart => exact ⟨0, by omega, rfl, World.ownsRow_nil w _ _ _, gr w⟩
  case round =>
    obtain ⟨k, hk, rfl, hown, hb⟩ := hrel
    obtain ⟨A5, n5, c5, rfl, hn5⟩ := own_form hown
    clear hn5
    by_cases hlt : k < n
    · have hkr : k < hs.length := by have := HA.out.2; omega
      have hpc := pd_cells (HA.out.1.below hb) hkr
      obtain ⟨hd, hhd⟩ : ∃ x, x = hs[k] := ⟨_, rfl⟩
      have hst := vals_take (name := name) hkr
      have hat := vals_at (name := name) hkr
      rw [← hhd] at hpc hst hat
      obtain ⟨ad, hA', a0, a1⟩ := hpc
      have hki : (k : Int) < (n : Int) := by omega
      have hk0 : (0 : Int) ≤ (k : Int) := by omega
      obtain ⟨h1s, h2s⟩ := hd
      simp only at a0 a1
      obtain ⟨s1, hs1⟩ : ∃ x, x = (⟨h1s.toArray⟩ : ByteArray) := ⟨_, rfl⟩
      obtain ⟨s2, hs2⟩ : ∃ x, x = (⟨h2s.toArray⟩ : ByteArray) := ⟨_, rfl⟩
      have hcmp : (s1.toList == sn.toList) = hit name (h1s, h2s) := by rw [hs1, HN.out, str_cmp]; rfl
      rw [← hs1] at a0
      rw [← hs2] at a1
      subst hA'
      have hvl : (vals (hs.take k) name).length ≤ 1048576 := by
        have h2 := vals_len (hs.take k) name
        rw [List.length_take] at h2
        omega
      obtain ⟨vk, hvk⟩ : ∃ x, x = vals (hs.take k) name := ⟨_, rfl⟩
      rw [← hvk] at hst hown hvl
      have HV := Lib.hid (And.intro hst (And.intro hown hb))
      have H2 := Lib.hid hs2
      clear hat hst hown hb hlt hkr hhd hvk hs1 hs2
      cases hh : hit name (h1s, h2s) with
      | true =>
        rw [hh] at hcmp
        have hv1 := HV.out.1
        rw [hh, if_pos rfl] at hv1
        have HH := Lib.hid hv1
        clear hh hv1
        go_wp2_with (first
          | ((with_reducible show wpList _ _ _ (⟨some 26, _, _, _, _, _⟩ :: _) _ _); go_must (refine wpList_one E30 rfl (.tmp 25) rfl (by decide) [.string s2] rfl rfl wr.heap.size rfl ?_); intro w4 hB4 hb4)
          | ((with_reducible show wpList _ _ _ (⟨some 27, _, _, _, _, _⟩ :: _) _ _); go_must (refine wpList_app E30 rfl (.tmp 20) (.tmp 26) rfl w.heap.size (.slice A5 n5 c5) vk.length (vk.map strV) rfl (own_belowB HV.out.2.1 hb4) (some ⟨wr.heap.size, 0, none⟩) 1 1 [.string s2] rfl hB4.rv rfl (by intro u hu; simp at hu; subst hu; rfl) (by unfold maxLen; omega) (by omega) (gt HV.out.2.2 hb4).size ?_); intro v' w5 hown5 hg5 _))
        refine ⟨⟨k + 1, by omega, by go_num, ?_, below_own (gt HV.out.2.2 hb4) (own_belowB HV.out.2.1 hb4) hg5 (gt HV.out.2.2 hb4).size⟩, by simp [intOf]; omega⟩
        rw [HH.out, List.length_append, List.map_append]
        simp only [List.map_cons, List.map_nil, strV, ← H2.out]
        exact hown5
      | false =>
        rw [hh] at hcmp
        have hv1 := HV.out.1
        rw [hh, if_neg (by decide), List.append_nil] at hv1
        have HH := Lib.hid hv1
        clear hh hv1
        go_wp2_with fail
        exact ⟨⟨k + 1, by omega, by go_num, by rw [HH.out]; exact HV.out.2.1, HV.out.2.2⟩, by simp [intOf]; omega⟩
    · obtain rfl : k = n := by omega
      rw [List.take_of_length_le (by have := HA.out.2; omega)] at hown
      have HF := Lib.hid (And.intro hown hb)
      have hkk : ¬ (k : Int) < (k : Int) := by omega
      clear hown hb hlt
      go_wp2_with fail
      go_ret
      exact ⟨_, rfl, HF.out.1, HF.out.2⟩

set_option maxRecDepth 4000 in
set_option maxHeartbeats 1600000 in
theorem all_any (A : Option Addr) (n c : Nat) (hs : List PD) (name : List UInt8) (w : World) (hA : RV w A (hs.flatMap PD.cells)) (hn : n = hs.length) (hl : n ≤ 1048576) :
    Calls Tryd.prog 26 #[.slice A n c, .string ⟨name.toArray⟩] w fun e w' => ∃ v, e = .returned v ∧ w'.ownsRow w.heap.size 9 1 v (vals hs name).length ((vals hs name).map strV) ∧ Below w.heap.size w w' := by
  have HA := Lib.hid (And.intro hA hn)
  obtain ⟨sn, hsn⟩ : ∃ x, x = (⟨name.toArray⟩ : ByteArray) := ⟨_, rfl⟩
  have hni : (n : Int) ≤ 1048576 := by omega
  rw [← hsn]
  have HN := Lib.hid hsn
  clear hA hn hsn hl
  go_enter Tryd.func26, Tryd.ntmps26
  go_wp2_with fail
  go_loopw [5, 10] (fun v5 v wr => ∃ k : Nat, k ≤ n ∧ v = .int .i64 k ∧ wr.ownsRow w.heap.size 9 1 v5 (vals (hs.take k) name).length ((vals (hs.take k) name).map strV) ∧ Below w.heap.size w wr) (fun _ v _ => n - (intOf v).toNat)
  case atStart => exact ⟨0, by omega, rfl, World.ownsRow_nil w _ _ _, gr w⟩
  case round =>
    obtain ⟨k, hk, rfl, hown, hb⟩ := hrel
    obtain ⟨A5, n5, c5, rfl, hn5⟩ := own_form hown
    clear hn5
    by_cases hlt : k < n
    · have hkr : k < hs.length := by have := HA.out.2; omega
      have hpc := pd_cells (HA.out.1.below hb) hkr
      obtain ⟨hd, hhd⟩ : ∃ x, x = hs[k] := ⟨_, rfl⟩
      have hst := vals_take (name := name) hkr
      have hat := vals_at (name := name) hkr
      rw [← hhd] at hpc hst hat
      obtain ⟨ad, hA', a0, a1⟩ := hpc
      have hki : (k : Int) < (n : Int) := by omega
      have hk0 : (0 : Int) ≤ (k : Int) := by omega
      obtain ⟨h1s, h2s⟩ := hd
      simp only at a0 a1
      obtain ⟨s1, hs1⟩ : ∃ x, x = (⟨h1s.toArray⟩ : ByteArray) := ⟨_, rfl⟩
      obtain ⟨s2, hs2⟩ : ∃ x, x = (⟨h2s.toArray⟩ : ByteArray) := ⟨_, rfl⟩
      have hcmp : (s1.toList == sn.toList) = hit name (h1s, h2s) := by rw [hs1, HN.out, str_cmp]; rfl
      rw [← hs1] at a0
      rw [← hs2] at a1
      subst hA'
      have hvl : (vals (hs.take k) name).length ≤ 1048576 := by
        have h2 := vals_len (hs.take k) name
        rw [List.length_take] at h2
        omega
      obtain ⟨vk, hvk⟩ : ∃ x, x = vals (hs.take k) name := ⟨_, rfl⟩
      rw [← hvk] at hst hown hvl
      have HV := Lib.hid (And.intro hst (And.intro hown hb))
      have H2 := Lib.hid hs2
      clear hat hst hown hb hlt hkr hhd hvk hs1 hs2
      go_upto_region 5 with fail
      obtain ⟨w2, hw2⟩ : ∃ x, x = wr.alloc (.cells #[.string s1, .string s2] 51) := ⟨_, rfl⟩
      rw [← hw2]
      have hb2 : Below wr.heap.size wr w2 := hw2 ▸ ga (gr wr) _
      have hB2 : Blk w2 wr.heap.size 51 [.string s1, .string s2] := hw2 ▸ Blk.new wr _ _
      have HW2 := Lib.hid (And.intro (own_belowB HV.out.2.1 hb2) (gt HV.out.2.2 hb2))
      have d0 := hB2.cell 0
      have d1 := hB2.cell 1
      simp only [List.getElem?_cons_zero, List.getElem?_cons_succ] at d0 d1
      generalize wr.heap.size = g7 at *
      clear a0 a1 hb2 hB2 hw2
      cases hh : hit name (h1s, h2s) with
      | true =>
        rw [hh] at hcmp
        have hv1 := HV.out.1
        rw [hh, if_pos rfl] at hv1
        have HH := Lib.hid hv1
        clear hh hv1
        go_wp2_with (first
          | ((with_reducible show wpList _ _ _ (⟨some 21, _, _, _, _, _⟩ :: _) _ _); go_must (refine wpList_one E30 rfl (.tmp 20) rfl (by decide) [.string s2] rfl rfl w2.heap.size rfl ?_); intro w4 hB4 hb4)
          | ((with_reducible show wpList _ _ _ (⟨some 22, _, _, _, _, _⟩ :: _) _ _); go_must (refine wpList_app E30 rfl (.tmp 18) (.tmp 21) rfl w.heap.size (.slice A5 n5 c5) vk.length (vk.map strV) rfl (own_belowB HW2.out.1 hb4) (some ⟨w2.heap.size, 0, none⟩) 1 1 [.string s2] rfl hB4.rv rfl (by intro u hu; simp at hu; subst hu; rfl) (by unfold maxLen; omega) (by omega) (gt HW2.out.2 hb4).size ?_); intro v' w5 hown5 hg5 _))
        refine ⟨⟨k + 1, by omega, by go_num, ?_, below_own (gt HW2.out.2 hb4) (own_belowB HW2.out.1 hb4) hg5 (gt HW2.out.2 hb4).size⟩, by simp [intOf]; omega⟩
        rw [HH.out, List.length_append, List.map_append]
        simp only [List.map_cons, List.map_nil, strV, ← H2.out]
        exact hown5
      | false =>
        rw [hh] at hcmp
        have hv1 := HV.out.1
        rw [hh, if_neg (by decide), List.append_nil] at hv1
        have HH := Lib.hid hv1
        clear hh hv1
        go_wp2_with fail
        exact ⟨⟨k + 1, by omega, by go_num, by rw [HH.out]; exact HW2.out.1, HW2.out.2⟩, by simp [intOf]; omega⟩
    · obtain rfl : k = n := by omega
      rw [List.take_of_length_le (by have := HA.out.2; omega)] at hown
      have HF := Lib.hid (And.intro hown hb)
      have hkk : ¬ (k : Int) < (k : Int) := by omega
      clear hown hb hlt
      go_wp2_with fail
      go_ret
      exact ⟨_, rfl, HF.out.1, HF.out.2⟩

set_option maxRecDepth 4000 in
set_option maxHeartbeats 1600000 in
theorem first_any (A : Option Addr) (n c : Nat) (hs : List PD) (name : List UInt8) (w : World) (hA : RV w A (hs.flatMap PD.cells)) (hn : n = hs.length) (hl : n ≤ 1048576) :
    Calls Tryd.prog 23 #[.slice A n c, .string ⟨name.toArray⟩] w fun e w' => e = .returned (.tuple #[.string ⟨(headS (vals hs name)).toArray⟩, .bool (headB (vals hs name))]) ∧ Below w.heap.size w w' := by
  have HA := Lib.hid (And.intro hA hn)
  obtain ⟨sn, hsn⟩ : ∃ x, x = (⟨name.toArray⟩ : ByteArray) := ⟨_, rfl⟩
  have hni : (n : Int) ≤ 1048576 := by omega
  rw [← hsn]
  have HN := Lib.hid hsn
  clear hA hn hsn hl
  go_enter Tryd.func23, Tryd.ntmps23
  go_wp2_with fail
  go_loopw [10] (fun v wr => ∃ k : Nat, k ≤ n ∧ v = .int .i64 k ∧ vals (hs.take k) name = [] ∧ Below w.heap.size w wr) (fun v _ => n - (intOf v).toNat)
  case atStart => exact ⟨0, by omega, rfl, rfl, gr w⟩
  case round =>
    obtain ⟨k, hk, rfl, hv, hb⟩ := hrel
    by_cases hlt : k < n
    · have hkr : k < hs.length := by have := HA.out.2; omega
      have hpc := pd_cells (HA.out.1.below hb) hkr
      obtain ⟨hd, hhd⟩ : ∃ x, x = hs[k] := ⟨_, rfl⟩
      have hst := vals_take (name := name) hkr
      have hat := vals_at (name := name) hkr
      rw [← hhd] at hpc hst hat
      obtain ⟨ad, hA', a0, a1⟩ := hpc
      have hki : (k : Int) < (n : Int) := by omega
      have hk0 : (0 : Int) ≤ (k : Int) := by omega
      obtain ⟨h1s, h2s⟩ := hd
      simp only at a0 a1
      obtain ⟨s1, hs1⟩ : ∃ x, x = (⟨h1s.toArray⟩ : ByteArray) := ⟨_, rfl⟩
      obtain ⟨s2, hs2⟩ : ∃ x, x = (⟨h2s.toArray⟩ : ByteArray) := ⟨_, rfl⟩
      have hcmp : (s1.toList == sn.toList) = hit name (h1s, h2s) := by rw [hs1, HN.out, str_cmp]; rfl
      rw [← hs1] at a0
      rw [← hs2] at a1
      subst hA'
      rw [hv, List.nil_append] at hst
      have HV := Lib.hid (And.intro hst (And.intro (hat hv) hb))
      have H2 := Lib.hid hs2
      clear hat hst hv hb hlt hkr hhd hs1 hs2
      go_upto_region 4 with fail
      obtain ⟨w2, hw2⟩ : ∃ x, x = wr.alloc (.cells #[.string s1, .string s2] 51) := ⟨_, rfl⟩
      rw [← hw2]
      have hb2 : Below wr.heap.size wr w2 := hw2 ▸ ga (gr wr) _
      have hB2 : Blk w2 wr.heap.size 51 [.string s1, .string s2] := hw2 ▸ Blk.new wr _ _
      have HW2 := Lib.hid (gt HV.out.2.2 hb2)
      have d0 := hB2.cell 0
      have d1 := hB2.cell 1
      simp only [List.getElem?_cons_zero, List.getElem?_cons_succ] at d0 d1
      generalize wr.heap.size = g7 at *
      clear a0 a1 hb2 hB2 hw2
      cases hh : hit name (h1s, h2s) with
      | true =>
        rw [hh] at hcmp
        have HH := Lib.hid (HV.out.2.1 hh)
        clear hh
        go_wp2_with fail
        go_ret2
        obtain ⟨r, hr⟩ := HH.out
        rw [hr]
        exact ⟨by rw [H2.out]; rfl, HW2.out⟩
      | false =>
        rw [hh] at hcmp
        have hv1 := HV.out.1
        rw [hh, if_neg (by decide)] at hv1
        have HH := Lib.hid hv1
        clear hh hv1
        go_wp2_with fail
        exact ⟨⟨k + 1, by omega, by go_num, HH.out, HW2.out⟩, by simp [intOf]; omega⟩
    · obtain rfl : k = n := by omega
      rw [List.take_of_length_le (by have := HA.out.2; omega)] at hv
      have HF := Lib.hid (And.intro hv hb)
      have hkk : ¬ (k : Int) < (k : Int) := by omega
      clear hv hb hlt
      go_wp2_with fail
      go_ret2
      rw [HF.out.1]
      exact ⟨rfl, HF.out.2⟩

set_option maxRecDepth 4000 in
set_option maxHeartbeats 1600000 in
theorem rfirst_any (A : Option Addr) (n c : Nat) (hs : List PD) (name : List UInt8) (w : World) (hA : RV w A (hs.flatMap PD.cells)) (hn : n = hs.length) (hl : n ≤ 1048576) :
    Calls Tryd.prog 21 #[.slice A n c, .string ⟨name.toArray⟩] w fun e w' => e = .returned (.tuple #[.string ⟨(headS (vals hs name)).toArray⟩, .bool (headB (vals hs name))]) ∧ Below w.heap.size w w' := by
  have hvl : (vals hs name).length ≤ 1048576 := by
    have h2 := vals_len hs name
    omega
  have cV := Lib.hid (rall_any A n c hs name w hA hn hl)
  obtain ⟨vs, hvs⟩ : ∃ x, x = vals hs name := ⟨_, rfl⟩
  rw [← hvs] at cV hvl ⊢
  clear hA hn hl hvs
  go_enter Tryd.func21, Tryd.ntmps21
  go_upto_region 2 with (first
    | (go_at_call 22; go_must (refine (cV.out).mono ?_); rintro e w2 ⟨v, rfl, hown, hb2⟩))
  obtain ⟨A6, n6, c6, rfl, hn6⟩ := own_form hown
  have HF := Lib.hid hb2
  have hN := Lib.hid hn6
  clear hn6
  cases vs with
  | nil =>
    obtain rfl : n6 = 0 := hN.out
    clear hown hb2 hN
    go_wp2_with fail
    go_ret2
    exact ⟨rfl, HF.out⟩
  | cons x r =>
    obtain rfl : n6 = (x :: r).length := hN.out
    have hrv := own_rv hown
    obtain ⟨ad, hA', cc⟩ := hrv 0 (by simp)
    have a0 : w2.cell? (ad.add 0) = some (.string ⟨x.toArray⟩) := cc
    rw [show ad.add 0 = ad from by unfold Addr.add; rfl] at a0
    subst hA'
    clear hown hb2 hrv cc hvl hN
    go_wp2_with fail
    go_ret2
    exact ⟨rfl, HF.out⟩
end Go.Proofs.YtompcngeikjfiaaDoor.Uri
