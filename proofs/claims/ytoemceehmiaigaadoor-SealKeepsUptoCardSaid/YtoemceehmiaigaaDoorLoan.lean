import Derived.Test.YtoemceehmiaigaaDoorLaws
import Derived.Test.YtoemceehmiaigaaDoorProg
import Derived.Laws.BitsAllLaws
namespace Go.Proofs.YtoemceehmiaigaaDoor.Loan
open Go.RowKit Go.Proofs.YtoemceehmiaigaaDoor.Mem
set_option linter.unusedVariables false

theorem E8 : Elt Tryd.prog 32 5 [.int .u8 0] 1 := Elt.mk1 Tryd.underlying32 (by kernel_rfl) rfl

/-- the list with the marks behind it, the loop having come to k -/
def marked (l : List UInt8) (k : Nat) : List UInt8 := l ++ (List.replicate k 90 ++ List.replicate (200 - k) 0)
theorem marked_length (l : List UInt8) (k : Nat) (hk : k ≤ 200) : (marked l k).length = l.length + 200 := by simp [marked]; omega
theorem marked_step (l : List UInt8) (k : Nat) (hk : k < 200) : ((marked l k).map bv).set (l.length + k) (.int .u8 90) = (marked l (k + 1)).map bv := by
  have e : (.int .u8 90 : Value) = bv 90 := rfl
  rw [e, ← List.map_set]
  congr 1
  unfold marked
  rw [List.set_append_right _ _ (by omega), List.set_append_right _ _ (by simp), List.replicate_succ', List.append_assoc]
  congr 2
  rw [show 200 - k = (200 - (k + 1)) + 1 by omega, List.replicate_succ]
  simp
theorem marked_zero (l : List UInt8) : splice (List.replicate (l.length + 200) (.int .u8 0 : Value)) 0 ((l.map bv).take (l.length + 200)) = (marked l 0).map bv := by
  have e : (.int .u8 0 : Value) = bv 0 := rfl
  rw [List.take_of_length_le (by rw [List.length_map]; omega), e]
  unfold splice marked
  rw [List.take_zero, List.nil_append, List.drop_replicate, List.map_append, List.map_append, List.map_replicate, List.map_replicate, List.length_map, List.replicate_zero, List.nil_append]
  congr 2
  omega

set_option maxHeartbeats 400000 in
set_option maxRecDepth 8000 in
theorem lend_any (A : Option Addr) (c : Nat) (l : List UInt8) (w : World) (ha : RB w A l) (hl : l.length ≤ 140737488351232) :
    Calls Tryd.prog 20 #[.slice A l.length c] w fun e w' => ∃ g, e = .returned (.agg #[.slice (some ⟨g, 0, none⟩) (l.length + 200) (l.length + 200), .int .i64 l.length]) ∧ w.heap.size ≤ g ∧
      Blk w' g 5 ((marked l 200).map bv) ∧ Below w.heap.size w w' := by
  have HA := Lib.hid ha
  clear ha
  obtain ⟨N, hN⟩ : ∃ N, N = l.length + 200 := ⟨_, rfl⟩
  have hlen : (l.length : Int) + 200 ≤ 9223372036854775807 := by omega
  have hlen0 : (0 : Int) ≤ (l.length : Int) := by omega
  have hlN : (l.length : Int) ≤ (N : Int) := by omega
  have hNm : (N : Int) ≤ 9223372036854775807 := by omega
  rw [← hN]
  have HN := Lib.hid hN
  clear hN
  go_enter Tryd.func20, Tryd.ntmps20
  go_wp2_with (first
    | (at_make; go_must (refine wpList_make1 E8 rfl (.tmp 7) (.tmp 7) rfl .i64 .i64 _ _ N rfl rfl (by have := HN.out; omega) (by have := HN.out; omega) (by have := HN.out; omega) (by have := HN.out; unfold maxLen; omega) (w.heap.size + 1) (by simp) ?_); intro w1 hB1 hb1 hz1)
    | (refine wpList_copy1 (o := ⟨some 11, _, _, _, _, _⟩) E8 rfl (.tmp 9) (.tmp 10) rfl (w.heap.size + 1) 0 N N A l.length c rfl rfl _ _ hB1 (l.map bv) (by simp) (((HA.out.alloc _).below (hb1.mono (by simp))).rv) (by simp) (bytes_oneCell l) ?_; intro w2 hB2 hb2 hz2 hg2))
  have hS1 : Blk w1 w.heap.size 34 [.slice none 0 0, .int .i64 0] := (Blk.new w 34 [.slice none 0 0, .int .i64 0]).below hb1 (by omega)
  have hS2 := hS1.below hb2 (by omega)
  have hbw : Below w.heap.size w w2 := (((Below.refl _ _).alloc (Nat.le_refl _) _).trans (hb1.mono (by omega))).trans (hb2.mono (by omega))
  rw [HN.out, marked_zero] at hB2
  clear hB1 hb1 hb2 hg2 hS1 hz1 hz2
  go_loopw [4] (fun i wr => ∃ k : Nat, k ≤ 200 ∧ i = .int .i64 ((l.length + k : Nat) : Int) ∧ Blk wr (w.heap.size + 1) 5 ((marked l k).map bv) ∧ Blk wr w.heap.size 34 [.slice none 0 0, .int .i64 0] ∧ Below w.heap.size w wr)
    (fun i _ => l.length + 200 - (intOf i).toNat)
  case atStart => exact ⟨0, by omega, rfl, hB2, hS2, hbw⟩
  case round =>
    obtain ⟨k, hk, rfl, hB, hS, hb⟩ := hrel
    clear hB2 hS2 hbw
    by_cases hlt : k < 200
    · obtain ⟨old, hc⟩ := hB.at_ (i := l.length + k) (by rw [List.length_map, marked_length l k hk]; omega)
      have hf := hB.frozen (l.length + k)
      have hB' := hB.set_ (l.length + k) (.int .u8 90)
      rw [marked_step l k hlt] at hB'
      have hS' := hS.far (p := ⟨w.heap.size + 1, l.length + k, none⟩) (by simp) (.int .u8 90)
      have hb' := hb.setCell (p := ⟨w.heap.size + 1, l.length + k, none⟩) (by simp) (.int .u8 90)
      have X := Lib.hid (And.intro hB' (And.intro hS' hb'))
      have hkN : ((l.length : Int) + (k : Int)) < (N : Int) := by have := HN.out; omega
      have Hk := Lib.hid (And.intro hk hlt)
      clear hB' hS' hb' hB hS hb hk hlt
      go_wp2
      go_roundw
      case rel => exact ⟨k + 1, by have := Hk.out; omega, by go_num, X.out.1, X.out.2.1, X.out.2.2⟩
      case measure => have := Hk.out; simp [intOf]; omega
    · obtain rfl : k = 200 := by omega
      have c0 := hS.cell 0
      have c1 := hS.cell 1
      have f0 := hS.frozen 0
      have f1 := hS.frozen 1
      simp only [List.getElem?_cons_zero, List.getElem?_cons_succ] at c0 c1
      have hkN : (N : Int) = ((l.length : Int) + 200) := by have := HN.out; omega
      go_wp2
      refine bodyPost_ret (v := .agg #[.slice (some ⟨w.heap.size + 1, 0, none⟩) N N, .int .i64 l.length]) (by simp [results, Tryd.results20, go_sem, c0, c1]) rfl ⟨w.heap.size + 1, rfl, by omega, ?_, ?_⟩
      · exact (hB.far (p := ⟨w.heap.size, 0, none⟩) (by simp) _).far (p := ⟨w.heap.size, 1, none⟩) (by simp) _
      · exact (hb.setCell (p := ⟨w.heap.size, 0, none⟩) (Nat.le_refl _) _).setCell (p := ⟨w.heap.size, 1, none⟩) (Nat.le_refl _) _

set_option maxHeartbeats 400000 in
theorem in_any (A : Option Addr) (n c : Nat) (k : Nat) (w : World) (hk : k ≤ c) (hc : c ≤ maxLen) :
    Calls Tryd.prog 22 #[.agg #[.slice A n c, .int .i64 k]] w fun e w' => e = .returned (.slice A k c) ∧ Below w.heap.size w w' := by
  unfold maxLen at hc
  have h0 : (0 : Int) ≤ (k : Int) := by omega
  have h1 : (k : Int) ≤ (c : Int) := by omega
  go_enter Tryd.func22, Tryd.ntmps22
  go_wp2
  go_ret
  exact ⟨rfl, (Below.refl _ _).alloc (Nat.le_refl _) _⟩

/-- every byte turned, up to k -/
def turned (l : List UInt8) (k : Nat) : List UInt8 := (l.take k).map (· ^^^ 238) ++ l.drop k
theorem turned_length (l : List UInt8) (k : Nat) : (turned l k).length = l.length := by simp [turned]; omega
theorem turned_zero (l : List UInt8) : turned l 0 = l := by simp [turned]
theorem turned_get (l r : List UInt8) (k : Nat) (h : k < l.length) : ((turned l k ++ r).map bv)[k]? = some (bv l[k]) := by
  rw [List.getElem?_map, List.getElem?_append_left (by rw [turned_length]; exact h)]
  unfold turned
  rw [List.getElem?_append_right (by simp; omega)]
  simp
  rw [show k - min k l.length = 0 by omega]
  simp [h]
theorem turned_step (l r : List UInt8) (k : Nat) (h : k < l.length) : ((turned l k ++ r).map bv).set k (bv (l[k] ^^^ 238)) = (turned l (k + 1) ++ r).map bv := by
  rw [← List.map_set, List.set_append_left _ _ (by rw [turned_length]; exact h)]
  congr 2
  unfold turned
  have hk : ((l.take k).map (· ^^^ 238)).length = k := by simp; omega
  rw [List.set_append_right _ _ (by omega), hk, Nat.sub_self, List.drop_eq_getElem_cons h, List.set_cons_zero, take_succ_ h, List.map_append, List.append_assoc]
  rfl
theorem xor_ee (c : UInt8) : bits .xor .u8 (c.toNat : Int) 238 = ((c ^^^ 238).toNat : Int) := by
  have := u8_xor_nat c.toNat 238 c.toNat_lt (by omega)
  rw [UInt8.toNat_xor]
  exact this

set_option maxHeartbeats 400000 in
theorem spoil_any (g c : Nat) (l r : List UInt8) (w : World) (hB : Blk w g 5 ((l ++ r).map bv)) (hn : l.length ≤ c) (hm : c ≤ maxLen) :
    Calls Tryd.prog 24 #[.agg #[.slice (some ⟨g, 0, none⟩) c c, .int .i64 l.length]] w fun e w' => e = .returned (.slice (some ⟨g, 0, none⟩) l.length c) ∧ Blk w' g 5 ((turned l l.length ++ r).map bv) ∧ w.grownBy w' (some g) := by
  unfold maxLen at hm
  have hgl := hB.lt
  have hB0 := hB.alloc (.cells #[.slice (some ⟨g, 0, none⟩) c c, .int .i64 l.length] 34)
  have hS0 : Blk (w.alloc (.cells #[.slice (some ⟨g, 0, none⟩) c c, .int .i64 l.length] 34)) w.heap.size 34 [.slice (some ⟨g, 0, none⟩) c c, .int .i64 l.length] := Blk.new w _ _
  have hg0 : w.grownBy (w.alloc (.cells #[.slice (some ⟨g, 0, none⟩) c c, .int .i64 l.length] 34)) (some g) := World.grownBy_alloc w _ _
  have X0 := Lib.hid (And.intro hB0 (And.intro hS0 hg0))
  clear hB hB0 hS0 hg0
  have h1 : (l.length : Int) ≤ (c : Int) := by omega
  go_enter Tryd.func24, Tryd.ntmps24
  go_wp2
  go_loopw [6] (fun i wr => ∃ k : Nat, k ≤ l.length ∧ i = .int .i64 k ∧ Blk wr g 5 ((turned l k ++ r).map bv) ∧ Blk wr w.heap.size 34 [.slice (some ⟨g, 0, none⟩) c c, .int .i64 l.length] ∧ w.grownBy wr (some g))
    (fun i _ => l.length - (intOf i).toNat)
  case atStart => exact ⟨0, by omega, rfl, by rw [turned_zero]; exact X0.out.1, X0.out.2.1, X0.out.2.2⟩
  case round =>
    obtain ⟨k, hk, rfl, hB, hS, hg⟩ := hrel
    have c0 := hS.cell 0
    have c1 := hS.cell 1
    simp only [List.getElem?_cons_zero, List.getElem?_cons_succ] at c0 c1
    by_cases hlt : k < l.length
    · have hc : wr.cell? ⟨g, k, none⟩ = some (bv l[k]) := by rw [hB.cell, turned_get _ _ _ hlt]
      have hf := hB.frozen k
      have hx := xor_ee l[k]
      have hB' := hB.set_ k (bv (l[k] ^^^ 238))
      rw [turned_step l r k hlt] at hB'
      have hS' := hS.far (p := ⟨g, k, none⟩) (by simp; omega) (bv (l[k] ^^^ 238))
      have hg' : w.grownBy (wr.setCell ⟨g, k, none⟩ (bv (l[k] ^^^ 238))) (some g) := ⟨hg.os, hg.tape, hg.output, by simpa [World.setCell] using hg.size, fun i hi hne => (Below.heap_setCell wr _ _ i (fun e => hne (by rw [e]))).trans (hg.block i hi hne)⟩
      have X := Lib.hid (And.intro hB' (And.intro hS' hg'))
      clear hB' hS' hg' hB hS hg X0
      have h2 : (k : Int) < (c : Int) := by omega
      go_wp2
      go_roundw
      case rel => exact ⟨k + 1, by omega, by go_num, X.out.1, X.out.2.1, X.out.2.2⟩
      case measure => simp [intOf]; omega
    · obtain rfl : k = l.length := by omega
      go_wp2
      go_ret
      exact ⟨rfl, hB, hg⟩

set_option maxHeartbeats 400000 in
theorem whole_any (g c : Nat) (l r : List UInt8) (A : Option Addr) (cap : Nat) (m : List UInt8) (w : World) (hB : Blk w g 5 ((l ++ r).map bv)) (hn : c = (l ++ r).length) (hm : c ≤ maxLen) (hr : ∀ x ∈ r, x = 90) (hA : RB w A m) (hm2 : m.length ≤ maxLen) :
    Calls Tryd.prog 23 #[.agg #[.slice (some ⟨g, 0, none⟩) c c, .int .i64 l.length], .slice A m.length cap] w fun e w' => e = .returned (.bool (decide (l = m))) ∧ Below w.heap.size w w' := by
  unfold maxLen at hm hm2
  have hgl := hB.lt
  have hn' : c = l.length + r.length := by simpa using hn
  have h1 : (l.length : Int) ≤ (c : Int) := by omega
  have HN := Lib.hid hn'
  clear hn hn'
  obtain ⟨S, hS⟩ : ∃ S, S = Obj.cells #[.slice (some ⟨g, 0, none⟩) c c, .int .i64 l.length] 34 := ⟨_, rfl⟩
  have kc1 := fun n => conv_rb (P := Tryd.prog) (w := (w.alloc (Obj.cells #[.slice (some ⟨g, 0, none⟩) c c, .int .i64 l.length] 34)).drewN n) (src := 32) (dst := 9) (e := 5) Tryd.underlying32 Tryd.underlying5 Tryd.underlying9 (show RB _ (some ⟨g, 0, none⟩) l from by have := (hB.alloc (Obj.cells #[.slice (some ⟨g, 0, none⟩) c c, .int .i64 l.length] 34)).rb 0 l.length; simpa using this.drewN n) c
  have kc2 := fun n => conv_rb (P := Tryd.prog) (w := (w.alloc (Obj.cells #[.slice (some ⟨g, 0, none⟩) c c, .int .i64 l.length] 34)).drewN n) (src := 32) (dst := 9) (e := 5) Tryd.underlying32 Tryd.underlying5 Tryd.underlying9 ((hA.alloc _).drewN n) cap
  have hB0 := hB.alloc (.cells #[.slice (some ⟨g, 0, none⟩) c c, .int .i64 l.length] 34)
  have hS0 : Blk (w.alloc (.cells #[.slice (some ⟨g, 0, none⟩) c c, .int .i64 l.length] 34)) w.heap.size 34 [.slice (some ⟨g, 0, none⟩) c c, .int .i64 l.length] := Blk.new w _ _
  have hg0 : Below w.heap.size w (w.alloc (.cells #[.slice (some ⟨g, 0, none⟩) c c, .int .i64 l.length] 34)) := (Below.refl _ _).alloc (Nat.le_refl _) _
  have X0 := Lib.hid (And.intro hB0 (And.intro hS0 hg0))
  have HR := Lib.hid hr
  clear hB hB0 hS0 hg0 hr hS S hA
  by_cases hlm : l = m
  · have hne : (!l == m) = false := by simp [hlm]
    have Hlm := Lib.hid hlm
    clear hlm
    go_enter Tryd.func23, Tryd.ntmps23
    go_wp2_with fail
    go_quiet (fail)
    go_wp2_with fail
    clear kc1 kc2
    go_loopw [5] (fun i wr => ∃ k : Nat, l.length ≤ k ∧ k ≤ c ∧ i = .int .i64 k ∧ Blk wr g 5 ((l ++ r).map bv) ∧ Blk wr w.heap.size 34 [.slice (some ⟨g, 0, none⟩) c c, .int .i64 l.length] ∧ Below w.heap.size w wr)
      (fun i _ => c - (intOf i).toNat)
    case atStart => exact ⟨l.length, Nat.le_refl _, by omega, rfl, X0.out.1.drewN _, X0.out.2.1.drewN _, below_drewN X0.out.2.2 _⟩
    case round =>
      obtain ⟨k, hk0, hk, rfl, hB, hS, hb⟩ := hrel
      have c0 := hS.cell 0
      have c1 := hS.cell 1
      simp only [List.getElem?_cons_zero, List.getElem?_cons_succ] at c0 c1
      by_cases hlt : k < c
      · have hc : wr.cell? ⟨g, k, none⟩ = some (.int .u8 90) := by
          have hk' : k < (l ++ r).length := by have := HN.out; simp; omega
          rw [hB.cell, List.getElem?_map, List.getElem?_eq_getElem hk', List.getElem_append_right hk0, HR.out _ (List.getElem_mem _)]
          rfl
        have X := Lib.hid (And.intro hB (And.intro hS hb))
        clear hB hS hb X0
        go_wp2
        go_roundw
        case rel => exact ⟨k + 1, by omega, by omega, by go_num, X.out.1, X.out.2.1, X.out.2.2⟩
        case measure => simp [intOf]; omega
      · obtain rfl : k = c := by omega
        go_wp2
        go_ret
        exact ⟨ret_bool (by simp [Hlm.out]), hb⟩
  · have hne : (!l == m) = true := by simp [hlm]
    go_enter Tryd.func23, Tryd.ntmps23
    go_wp2_with fail
    go_quiet (fail)
    go_wp2_with fail
    go_ret
    exact ⟨ret_bool (by simp [hlm]), below_drewN X0.out.2.2 _⟩
end Go.Proofs.YtoemceehmiaigaaDoor.Loan
