/- seal: the law's own helper apart. -/
import Derived.Test.YtoemceehmiaigaaDoorByteRow
import Derived.Test.YtoemceehmiaigaaDoorLoan
import Derived.Test.YtoemceehmiaigaaDoorSealWalk
import Derived.Test.YtoemceehmiaigaaDoorKeepBase
import Derived.Test.YtoemceehmiaigaaDoorRgR
import Derived.Test.YtoemceehmiaigaaDoorRowsAid
import Derived.Test.YtoemceehmiaigaaDoorRgAid

/- seal: the law's own helper roomy. -/
namespace Go.Proofs.YtoemceehmiaigaaDoor.Seal
open Go.RowKit Go.Proofs.YtoemceehmiaigaaDoor.Mem Go.Proofs.YtoemceehmiaigaaDoor.Loan
set_option linter.unusedVariables false

/-- the marks in the room behind a list -/
def room (k : Nat) : List UInt8 := (List.range k).map fun i => UInt8.ofNat (200 + i % 50)
theorem room_succ (k : Nat) : room (k + 1) = room k ++ [UInt8.ofNat (200 + k % 50)] := by unfold room; rw [List.range_succ, List.map_append]; rfl
theorem room_len (k : Nat) : (room k).length = k := by unfold room; simp

set_option maxRecDepth 4000 in
set_option maxHeartbeats 1600000 in
theorem roomy_any (A : Option Addr) (n c : Nat) (l : List UInt8) (w : World) (ha : RB w A l) (hn : n = l.length) (hl : n ≤ 1073741824) :
    Calls Tryd.prog 41 #[.slice A n c] w fun e w' => ∃ A' c', e = .returned (.slice A' (n + 70) c') ∧ w'.ownsRow w.heap.size 5 1 (.slice A' (n + 70) c') (n + 70) ((l ++ room 70).map bv) ∧ Below w.heap.size w w' := by
  have HA := Lib.hid (And.intro ha hn)
  clear ha hn
  go_enter Tryd.func41, Tryd.ntmps41
  go_wp2_with (first
    | (at_make; go_must (refine wpList_makeN E8 rfl _ _ rfl .i64 .i64 _ _ 0 (n + 70) rfl rfl (by go_simp) (by go_simp) (by omega) (by omega) (by unfold maxLen; omega) w.heap.size rfl ?_); intro w1 hB1 hb1 hz1)
    | ((with_reducible show wpList _ _ _ (⟨some 11, _, _, _, _, _⟩ :: _) _ _)
       go_must (refine wpList_app E8 rfl (.tmp 9) (.tmp 10) rfl w.heap.size (.slice (some ⟨w.heap.size, 0, none⟩) 0 (n + 70)) 0 [] (by go_simp) ⟨rfl, .inr ⟨_, _, _, rfl, Nat.le_refl _, hB1, by omega, by unfold maxLen; omega, by simp, by simp⟩⟩ A n c (l.map bv) (by go_simp) (HA.out.1.below hb1).rv (by rw [List.length_map, HA.out.2]; simp) (bytes_oneCell l) (by unfold maxLen; omega) (by omega) hb1.size ?_)
       intro v2 w2 ho2 hg2 _))
  rw [Nat.zero_add, List.nil_append] at ho2
  have hb2 := below_own hb1 (show w1.ownsRow w.heap.size 5 1 (.slice (some ⟨w.heap.size, 0, none⟩) 0 (n + 70)) 0 [] from ⟨rfl, .inr ⟨_, _, _, rfl, Nat.le_refl _, hB1, by omega, by unfold maxLen; omega, by simp, by simp⟩⟩) hg2 hb1.size
  have X2 := Lib.hid (And.intro ho2 hb2)
  clear hB1 hb1 hz1 hg2 hb2 ho2
  go_loopw [3, 4] (fun v3 v4 wr => ∃ k : Nat, k ≤ 70 ∧ v4 = .int .i64 k ∧ wr.ownsRow w.heap.size 5 1 v3 (n + k) ((l ++ room k).map bv) ∧ Below w.heap.size w wr) (fun _ v _ => 70 - (intOf v).toNat)
  case atStart => exact ⟨0, by omega, rfl, by simpa [room] using X2.out.1, X2.out.2⟩
  case round =>
    clear X2
    obtain ⟨k, hk, rfl, ho, hb⟩ := hrel
    obtain ⟨A3, n3, c3, rfl, hn3⟩ := own_form ho
    subst hn3
    by_cases hlt : k < 70
    · obtain ⟨t, ht⟩ : ∃ t, t = k % 50 := ⟨_, rfl⟩
      have ht5 : t < 50 := by omega
      have hm1 : (k : Int).tmod 50 = (t : Int) := by rw [Int.tmod_eq_emod_of_nonneg (by omega)]; omega
      have hm2 : (k : Int) % 50 = (t : Int) := by omega
      have hw1 : IntKind.u8.wrap (200 + (t : Int)) = 200 + (t : Int) := by simp [IntKind.wrap, IntKind.bits, IntKind.signed]; omega
      have hw2 : (200 + (t : Int)) % 256 = 200 + (t : Int) := by omega
      obtain ⟨y, hy⟩ : ∃ y, y = UInt8.ofNat (200 + t) := ⟨_, rfl⟩
      have hbv : (.int .u8 (200 + (t : Int)) : Value) = bv y := by
        rw [hy]; unfold bv
        have : (UInt8.ofNat (200 + t)).toNat = 200 + t := by rw [UInt8.toNat_ofNat']; omega
        rw [this]; rfl
      have hki : (k : Int) < 70 := by omega
      have hk0 : (0 : Int) ≤ (k : Int) := by omega
      have X := Lib.hid (And.intro ho (And.intro hb (And.intro hlt (show room (k + 1) = room k ++ [y] by rw [room_succ, hy, ht]))))
      clear ho hb hlt hk hy ht
      go_wp2_with (first
        | ((with_reducible show wpList _ _ _ (⟨some 21, _, _, _, _, _⟩ :: _) _ _); go_must (refine wpList_one E8 rfl (.tmp 20) rfl (by decide) [bv y] (by rw [← hbv]; rfl) rfl wr.heap.size rfl ?_); intro w3 hB3 hb3)
        | ((with_reducible show wpList _ _ _ (⟨some 22, _, _, _, _, _⟩ :: _) _ _); go_must (refine wpList_pushB E8 rfl (.tmp 16) (.tmp 21) rfl (gt X.out.2.1 hb3) (own_belowB X.out.1 hb3) (by go_simp) wr.heap.size (by go_simp) y hB3 (by omega) ?_); intro v4 w4 ho4 hb4))
      go_roundw
      case rel => exact ⟨k + 1, by have := X.out.2.2.1; omega, by go_num, by rw [X.out.2.2.2, ← List.append_assoc]; exact ho4, hb4⟩
      case measure => have := X.out.2.2.1; simp [intOf]; omega
    · obtain rfl : k = 70 := by omega
      have X := Lib.hid (And.intro ho hb)
      clear ho hb hlt hk
      go_wp2
      go_ret
      exact ⟨_, _, rfl, X.out⟩

set_option maxRecDepth 4000 in
set_option maxHeartbeats 1600000 in
theorem kept_any (A Bd : Option Addr) (n m c d : Nat) (l b : List UInt8) (w : World) (ha : RB w A l) (hb : RB w Bd b) (hn : n = l.length) (hm : m = b.length) (hl : m ≤ 1073741824) :
    Calls Tryd.prog 44 #[.slice A n c, .slice Bd m d] w fun e w' => e = .returned (.bool (decide (l = b ++ room 70))) ∧ Below w.heap.size w w' := by
  obtain ⟨r, hr⟩ : ∃ r, r = b ++ room 70 := ⟨_, rfl⟩
  have hrl : m + 70 = r.length := by rw [hr, List.length_append, room_len, hm]
  rw [← hr]
  have HA := Lib.hid (And.intro ha (And.intro hb (And.intro hn hm)))
  have HR := Lib.hid (And.intro hr.symm hrl.symm)
  clear ha hb hn hm hr hrl
  go_enter Tryd.func44, Tryd.ntmps44
  go_wp2
  try simp only [Act.put, List.setIfInBounds_toArray, List.set_cons_succ, List.set_cons_zero]
  refine wp_region_rrT (fun a b => Below a.heap.size a b) (fun _ _ _ h g => gt h g) (fun _ _ h => h.size) (fun a => (gr a).drew) 6
    [.eq 5 (.slice A n c), .eq 6 (.string ⟨l.toArray⟩), .eq 7 (.slice Bd m d), .one 8 (fun v W => ∃ A1 c1, v = .slice A1 (m + 70) c1 ∧ RB W A1 (b ++ room 70)), .eq 9 (.string ⟨r.toArray⟩), .eq 10 (.bool (decide (l = r)))]
    (by kernel_rfl) (by kernel_rfl) (by kernel_rfl) (by kernel_rfl) ?hstk ?hobk ?hfink
  case hstk =>
    intro s hs
    simp only [List.mem_cons, List.not_mem_nil, or_false] at hs
    rcases hs with rfl | rfl | rfl | rfl | rfl | rfl
    · exact fun _ _ _ h _ => h
    · exact fun _ _ _ h _ => h
    · exact fun _ _ _ h _ => h
    · rintro vs w1 w2 ⟨v, rfl, h⟩ hb
      exact ⟨_, rfl, (fun ⟨A1, c1, e, r⟩ hb => ⟨A1, c1, e, r.below hb⟩) h hb⟩
    · exact fun _ _ _ h _ => h
    · exact fun _ _ _ h _ => h
  case hobk =>
    simp only [List.take_succ_cons, List.take_zero]
    refine rrs_cons ?_ (rrs_cons ?_ (rrs_cons ?_ (rrs_cons ?_ (rrs_cons ?_ (rrs_cons ?_ rrs_nil)))))
    · refine rr_eq gr (by decide) (by rfl) (by rfl) fun x w' A hg hp hA => ?_
      have e0 := hA 0
      simp [rgDsts] at e0
      go_simp
    · refine rr_eq gr (by decide) (by rfl) (by rfl) fun x w' A hg hp hA => ?_
      have h5 := rg_pred_eq (d := 5) hp 0 rfl rfl rfl
      have e5 := (hA.at_ 5 rfl).trans h5
      have kc := conv_rb (P := Tryd.prog) (src := 32) (dst := 9) Tryd.underlying32 Tryd.underlying5 Tryd.underlying9 (HA.out.1.below hg) c
      rw [← HA.out.2.2.1] at kc
      go_simp
    · refine rr_eq gr (by decide) (by rfl) (by rfl) fun x w' A hg hp hA => ?_
      have e1 := hA 1
      simp [rgDsts] at e1
      go_simp
    · refine rr_call (by decide) (by rfl) fun x w' A hg hp hA => ?_
      have h7 := rg_pred_eq (d := 7) hp 0 rfl rfl rfl
      have e7 := (hA.at_ 7 rfl).trans h7
      refine ⟨41, #[.slice Bd m d], ?_, ?_⟩
      · go_simp
      · refine (roomy_any Bd m d b w' (HA.out.2.1.below hg) HA.out.2.2.2 hl).mono ?_
        rintro e w'' ⟨A1, c1, rfl, ho, hb⟩
        exact ⟨_, rfl, hb, ⟨_, rfl, A1, c1, by simp [rgUpd], own_rb ho⟩, by simp⟩
    · refine rr_eq gr (by decide) (by rfl) (by rfl) fun x w' A hg hp hA => ?_
      have h8 := rg_pred_one (d := 8) hp 0 rfl rfl rfl
      have e8 := hA.at_ 8 rfl
      obtain ⟨x1, y1, f1, r1⟩ := h8
      rw [f1] at e8
      have kc := conv_rb (P := Tryd.prog) (src := 32) (dst := 9) Tryd.underlying32 Tryd.underlying5 Tryd.underlying9 r1 y1
      rw [HR.out.1, HR.out.2] at kc
      go_simp
    · refine rr_eq gr (by decide) (by rfl) (by rfl) fun x w' A hg hp hA => ?_
      have h6 := rg_pred_eq (d := 6) hp 0 rfl rfl rfl
      have h9 := rg_pred_eq (d := 9) hp 1 rfl rfl rfl
      have e6 := (hA.at_ 6 rfl).trans h6
      have e9 := (hA.at_ 9 rfl).trans h9
      have hlr : (l == r) = decide (l = r) := by rw [Bool.eq_iff_iff]; simp
      go_simp
  case hfink =>
  intro x w5 hg hall hap
  simp only [RgAll, holds_eq, holds_new, holds_one, and_true] at hall
  obtain ⟨h5, h6, h7, h8, h9, h10⟩ := hall
  obtain ⟨A1, c1, h8, r8⟩ := h8
  simp only [rgDsts, List.take_succ_cons, List.take_zero, List.filterMap_cons, List.filterMap_nil, putMany, List.foldl_cons, List.foldl_nil, List.setIfInBounds_toArray, List.set_cons_succ, List.set_cons_zero, List.drop_succ_cons, List.drop_zero, h5, h6, h7, h9, h10, h8]
  clear h5 h6 h7 h9 h10 h8
  go_wp2
  go_ret
  exact ⟨rfl, hg⟩
end Go.Proofs.YtoemceehmiaigaaDoor.Seal
namespace Go.Proofs.YtoemceehmiaigaaDoor.Seal
open Go.RowKit Go.Proofs.YtoemceehmiaigaaDoor.Mem Go.Proofs.YtoemceehmiaigaaDoor.Loan
set_option linter.unusedVariables false

theorem E29 : Elt Tryd.prog 29 32 [.slice none 0 0] 24 := Elt.mk1 Tryd.underlying29 (by kernel_rfl) rfl
def pa (i : Nat) : Value := .int .u8 ((i : Int) + 1)
def pb (i : Nat) : Value := .int .u8 (100 + (i : Int))

/-- the state while the rows grow by turns: those before i by q + 1 elements, the others by q -/
structure Gro (w W : World) (B N gL gG : Nat) (R : Nat → Prop) (vs : Nat → Value) (n : Nat → Nat) (xs : Nat → List Value) (q i : Nat) (gv : Nat → Value) (m : Nat → Nat) (ys : Nat → List Value) : Prop where
  ap : ApL w W B 5 1 N R (fun b => b = gL ∨ b = gG) (fun i u k zs => i < N ∧ u = vs i ∧ k = n i ∧ zs = xs i) gv m ys
  bL : Blk W gL 32 ((List.range N).map vs)
  bG : Blk W gG 32 ((List.range N).map gv)
  hm : ∀ t, t < N → m t = n t + (if t < i then q + 1 else q)
  ha : ∀ t, t < N → Has 1 (ys t) 0 (n t) (pa t)
  hb : ∀ t, t < N → Has 1 (ys t) (n t) (m t) (pb t)
  hx : ∀ t, t < N → Has 1 (xs t) 0 (n t) (pa t)
theorem Gro.wrap {w W : World} {B N gL gG : Nat} {R : Nat → Prop} {vs : Nat → Value} {n : Nat → Nat} {xs : Nat → List Value} {q : Nat} {gv : Nat → Value} {m : Nat → Nat} {ys : Nat → List Value} (h : Gro w W B N gL gG R vs n xs q N gv m ys) : Gro w W B N gL gG R vs n xs (q + 1) 0 gv m ys :=
  ⟨h.ap, h.bL, h.bG, fun t ht => by rw [h.hm t ht, if_pos ht, if_neg (Nat.not_lt_zero t)], h.ha, h.hb, h.hx⟩
theorem Gro.turn {w W W' : World} {B N gL gG : Nat} {R : Nat → Prop} {vs : Nat → Value} {n : Nat → Nat} {xs : Nat → List Value} {q i : Nat} {gv : Nat → Value} {m : Nat → Nat} {ys : Nat → List Value} (h : Gro w W B N gL gG R vs n xs q i gv m ys) (hi : i < N) (hw : w.heap.size ≤ gG) (hLG : gL ≠ gG) (o : Obj) {v' : Value}
    (ho : W'.ownsRow B 5 1 v' (m i + 1) (ys i ++ [pb i])) (hg : (W.alloc o).grownBy W' (gv i).ownBlock) (hv : v'.ownBlock = (gv i).ownBlock ∨ v'.ownBlock = some (W.alloc o).heap.size) (hk : Keeps (W.alloc o) W' 5 1 (gv i) (m i)) :
    Gro w (W'.setCell ⟨gG, i, none⟩ v') B N gL gG R vs n xs q (i + 1) (fupd gv i v') (fupd m i (m i + 1)) (fupd ys i (ys i ++ [pb i])) := by
  have h1 := h.ap.alloc o
  refine ⟨(h1.push hi ho hg hv hk).store (.inr rfl) hw i v', ?_, ?_, fun t ht => ?_, fun t ht => ?_, fun t ht => ?_, h.hx⟩
  · exact (h1.kept hi hg (.inl rfl) (h.bL.alloc o)).far (p := ⟨gG, i, none⟩) hLG v'
  · have := (h1.kept hi hg (.inr rfl) (h.bG.alloc o)).set_ i v'
    rw [map_fupd gv (fun v => v)] at this
    exact this
  · by_cases e : t = i
    · subst e; rw [fupd_same, h.hm t ht, if_neg (Nat.lt_irrefl t), if_pos (Nat.lt_succ_self t)]; omega
    · rw [fupd_ne _ _ e, h.hm t ht]
      by_cases e2 : t < i
      · rw [if_pos e2, if_pos (by omega)]
      · rw [if_neg e2, if_neg (by omega)]
  · by_cases e : t = i
    · subst e; rw [fupd_same]; exact (h.ha t ht).app _
    · rw [fupd_ne _ _ e]; exact h.ha t ht
  · by_cases e : t = i
    · subst e
      rw [fupd_same, fupd_same]
      exact (h.hb t ht).push _ (by have := (h.ap.gown t ht).1; omega) rfl
    · rw [fupd_ne _ _ e, fupd_ne _ _ e]; exact h.hb t ht

set_option maxRecDepth 4000 in
set_option maxHeartbeats 3200000 in
theorem apart_any (gL N cL B : Nat) (vs : Nat → Value) (n : Nat → Nat) (xs : Nat → List Value) (R : Nat → Prop) (w : World) (hN : N ≤ 100) (hL : Blk w gL 32 ((List.range N).map vs))
    (h : Ap0 w w B 5 1 N R (fun b => b = gL) vs n xs) (hn : ∀ i, i < N → n i ≤ 1073741824) (hB : B ≤ w.heap.size) :
    Calls Tryd.prog 47 #[.slice (some ⟨gL, 0, none⟩) N cL] w fun e w' => e = .returned (.bool true) ∧ GrownS w w' R := by
  have H0 := Lib.hid (And.intro hL (And.intro h (And.intro hn hB)))
  clear hL h hn hB
  go_enter Tryd.func47, Tryd.ntmps47
  go_wp2_with (first
    | ((with_reducible show wpList _ _ _ (⟨some 12, _, _, _, _, _⟩ :: _) _ _); go_must (refine wpList_make1 E29 rfl _ _ rfl .i64 .i64 _ _ N rfl rfl (by go_simp) (by go_simp) (by omega) (by unfold maxLen; omega) w.heap.size rfl ?_); intro w1 hG1 hb1 hz1))
  have H1 := Lib.hid (show Ap0 w w1 B 5 1 N R (fun b => b = gL ∨ b = w.heap.size) vs n xs ∧ Blk w1 gL 32 ((List.range N).map vs) ∧ Blk w1 w.heap.size 32 ((List.range N).map fun _ => .slice none 0 0) from by
    refine ⟨(H0.out.2.1.below hb1).avoid (fun b hb => ?_), H0.out.1.grow hb1, ?_⟩
    · rcases hb with rfl | rfl
      · exact ⟨Nat.lt_of_lt_of_le H0.out.1.lt hb1.size, H0.out.2.1.av _ rfl⟩
      · exact ⟨by omega, H0.out.2.1.new_ (Nat.le_refl _)⟩
    · rw [List.map_const', List.length_range]; exact hG1)
  go_loopw [4] (fun v wr => ∃ (k : Nat) (xs' : Nat → List Value) (gc : Nat → Value), k ≤ N ∧ v = .int .i64 k ∧ Ap0 w wr B 5 1 N R (fun b => b = gL ∨ b = w.heap.size) vs n xs' ∧ Blk wr gL 32 ((List.range N).map vs) ∧ Blk wr w.heap.size 32 ((List.range N).map gc) ∧ (∀ i, i < k → Has 1 (xs' i) 0 (n i) (pa i)) ∧ (∀ i, i < k → gc i = vs i)) (fun v _ => N - (intOf v).toNat)
  case atStart => exact ⟨0, xs, fun _ => .slice none 0 0, by omega, rfl, H1.out.1, H1.out.2.1, H1.out.2.2, fun i hi => by omega, fun i hi => by omega⟩
  case round =>
    clear hG1 hb1 hz1 H1
    obtain ⟨k, xs', gc, hk, rfl, hA, hL, hG, hm, hc⟩ := hrel
    by_cases hlt : k < N
    · obtain ⟨Ak, nk', ck, hvk, hnk⟩ := own_form (hA.own k hlt)
      obtain ⟨nk, hnk2⟩ : ∃ x, x = n k := ⟨_, rfl⟩
      rw [← hnk2] at hnk
      subst hnk
      have hnki : nk' ≤ 1073741824 := hnk2 ▸ H0.out.2.2.1 k hlt
      have hki : (k : Int) < (N : Int) := by omega
      have hk0 : (0 : Int) ≤ (k : Int) := by omega
      have HK := Lib.hid (And.intro hA (And.intro hL (And.intro hG (And.intro hm (And.intro hc (And.intro hlt (And.intro hk hvk)))))))
      have HN := Lib.hid hnk2
      clear hA hL hG hm hc hlt hk hvk hnk2
      go_wp2
      go_loopw [5] (fun v wr2 => ∃ (j : Nat) (x : List Value), j ≤ nk' ∧ v = .int .i64 j ∧ Ap0 w wr2 B 5 1 N R (fun b => b = gL ∨ b = w.heap.size) vs n (fupd xs' k x) ∧ Blk wr2 gL 32 ((List.range N).map vs) ∧ Blk wr2 w.heap.size 32 ((List.range N).map gc) ∧ Has 1 x 0 j (pa k)) (fun v _ => nk' - (intOf v).toNat)
      case atStart => exact ⟨0, xs' k, by omega, rfl, by rw [fupd_self]; exact HK.out.1, HK.out.2.1, HK.out.2.2.1, Has.none_ _ _ _ _⟩
      case round =>
        obtain ⟨j, x, hj, rfl, hA, hL, hG, hm⟩ := hrel
        have hck : wr.cell? ⟨gL, k, none⟩ = some (.slice Ak nk' ck) := by
          rw [hL.cell, List.getElem?_map, List.getElem?_range HK.out.2.2.2.2.2.1, Option.map_some, HK.out.2.2.2.2.2.2.2]
        by_cases hlj : j < nk'
        · have ho := hA.own k HK.out.2.2.2.2.2.1
          rw [HK.out.2.2.2.2.2.2.2, ← HN.out, fupd_same] at ho
          obtain ⟨ga, rfl, _, hca⟩ := own_addr ho (by omega)
          obtain ⟨oa, hoa⟩ := own_has ho (j := j) (by omega)
          have hfa := ho.frozenAt j
          have hl1 := ho.1
          have hA2 := hA.set_ HK.out.2.2.2.2.2.1 (by rw [← HN.out]; exact HK.out.2.2.2.2.2.2.2) j (pa k)
          rw [fupd_same, fupd_fupd] at hA2
          have hgl : gL ≠ ga := fun e => hA.av gL (.inl rfl) k HK.out.2.2.2.2.2.1 (by rw [HK.out.2.2.2.2.2.2.2, e]; rfl)
          have hgg : w.heap.size ≠ ga := fun e => hA.av _ (.inr rfl) k HK.out.2.2.2.2.2.1 (by rw [HK.out.2.2.2.2.2.2.2, e]; rfl)
          have hm2 := hm.set_ (by decide) (by omega)
          rw [Nat.mul_one] at hm2
          have X := Lib.hid (And.intro hA2 (And.intro (hL.far (p := ⟨ga, j, none⟩) hgl (pa k)) (And.intro (hG.far (p := ⟨ga, j, none⟩) hgg (pa k)) hm2)))
          have hw1 : IntKind.u8.wrap ((k : Int) + 1) = (k : Int) + 1 := by simp [IntKind.wrap, IntKind.bits, IntKind.signed]; omega
          have hw2 : ((k : Int) + 1) % 256 = (k : Int) + 1 := by omega
          have hji : (j : Int) < (nk' : Int) := by omega
          have hj0 : (0 : Int) ≤ (j : Int) := by omega
          have HJ := Lib.hid hlj
          clear hA hL hG hm ho hl1 hA2 hm2 hgl hgg hlj hj hca
          unfold pa at X
          go_wp2
          go_roundw
          case rel => exact ⟨j + 1, _, by have := HJ.out; omega, by go_num, X.out⟩
          case measure => have := HJ.out; simp [intOf]; omega
        · obtain rfl : j = nk' := by omega
          have hji : ¬ (j : Int) < (j : Int) := by omega
          have hfg := hG.frozen k
          obtain ⟨og, hog⟩ := hG.at_ (i := k) (by simp; exact HK.out.2.2.2.2.2.1)
          have hG2 := hG.set_ k (vs k)
          rw [map_fupd gc (fun v => v)] at hG2
          have hgL : gL ≠ w.heap.size := fun e => by have := H0.out.1.lt; omega
          have X := Lib.hid (And.intro (hA.store (.inr rfl) (Nat.le_refl _) k (vs k)) (And.intro (hL.far (p := ⟨w.heap.size, k, none⟩) hgL (vs k)) (And.intro hG2 hm)))
          rw [HK.out.2.2.2.2.2.2.2] at X
          clear hA hL hG hm hG2 hgL hlj hj
          go_wp2
          go_roundw
          case rel =>
            have hkN := HK.out.2.2.2.2.2.1
            refine ⟨k + 1, _, _, by omega, by go_num, X.out.1, X.out.2.1, X.out.2.2.1, fun i hi => ?_, fun i hi => ?_⟩
            · by_cases e : i = k
              · subst e; rw [fupd_same, ← HN.out]; exact X.out.2.2.2
              · rw [fupd_ne _ _ e]; exact HK.out.2.2.2.1 i (by omega)
            · by_cases e : i = k
              · subst e; rw [fupd_same, HK.out.2.2.2.2.2.2.2]
              · rw [fupd_ne _ _ e]; exact HK.out.2.2.2.2.1 i (by omega)
          case measure => have := HK.out.2.2.2.2.2.1; simp [intOf]; omega
    · obtain rfl : k = N := by omega
      have hki : ¬ (k : Int) < (k : Int) := by omega
      have G0 := Lib.hid (show Gro w wr B k gL w.heap.size R vs n xs' 0 0 vs n xs' from
        ⟨hA.apL, hL, by
          have e : (List.range k).map gc = (List.range k).map vs := List.map_congr_left fun i hi => hc i (by simpa using hi)
          exact e ▸ hG, fun t ht => by rw [if_neg (Nat.not_lt_zero t)]; rfl, hm, fun t ht => Has.none_ _ _ _ _, hm⟩)
      clear hA hL hG hm hc hlt hk
      go_wp2
      go_loopw [6] (fun v wr => ∃ (q : Nat) (gv : Nat → Value) (m : Nat → Nat) (ys : Nat → List Value), q ≤ 80 ∧ v = .int .i64 q ∧ Gro w wr B k gL w.heap.size R vs n xs' q 0 gv m ys) (fun v _ => 80 - (intOf v).toNat)
      case atStart => exact ⟨0, _, _, _, by omega, rfl, G0.out⟩
      case round =>
        obtain ⟨q, gv, m, ys, hq, rfl, hI⟩ := hrel
        have I := Lib.hid (And.intro hI hq)
        clear hI
        by_cases hlq : q < 80
        · have hqi : (q : Int) < 80 := by omega
          clear G0 hq
          go_wp2
          go_loopw [7] (fun v wr => ∃ (i : Nat) (gv : Nat → Value) (m : Nat → Nat) (ys : Nat → List Value), i ≤ k ∧ v = .int .i64 i ∧ Gro w wr B k gL w.heap.size R vs n xs' q i gv m ys) (fun v _ => k - (intOf v).toNat)
          case atStart => exact ⟨0, _, _, _, by omega, rfl, I.out.1⟩
          case round =>
            clear I gv m ys
            obtain ⟨i, gv, m, ys, hi, rfl, hI⟩ := hrel
            by_cases hlt : i < k
            · obtain ⟨Ag, mg, cg, hgi, hmi⟩ := own_form (hI.ap.gown i hlt)
              have hci : wr.cell? ⟨w.heap.size, i, none⟩ = some (.slice Ag mg cg) := by
                rw [hI.bG.cell, List.getElem?_map, List.getElem?_range hlt, Option.map_some, hgi]
              have ho := hI.ap.gown i hlt
              rw [hgi, ← hmi] at ho
              have hmle : mg ≤ 1073741824 + 80 := by
                rw [hmi, hI.hm i hlt, if_neg (Nat.lt_irrefl i)]
                have := H0.out.2.2.1 i hlt
                omega
              have hB1 : B ≤ wr.heap.size := Nat.le_trans H0.out.2.2.2 hI.ap.gr.size
              have hii : (i : Int) < (k : Int) := by omega
              have hi0 : (0 : Int) ≤ (i : Int) := by omega
              have hw1 : IntKind.u8.wrap (100 + (i : Int)) = 100 + (i : Int) := by simp [IntKind.wrap, IntKind.bits, IntKind.signed]; omega
              have hw2 : (100 + (i : Int)) % 256 = 100 + (i : Int) := by omega
              have Y := Lib.hid (And.intro hI (And.intro ho (And.intro hB1 (And.intro hlt (And.intro hgi (And.intro hmi hmle))))))
              clear hI ho hB1 hlt hi hgi hmi hmle
              go_wp2_with (first
                | ((with_reducible show wpList _ _ _ (⟨some 64, _, _, _, _, _⟩ :: _) _ _)
                   go_must (refine wpList_app2 E8 rfl (.tmp 59) (.tmp 63) rfl B (.slice Ag mg cg) mg (ys i) (by go_simp) (Y.out.2.1.alloc _) (some ⟨wr.heap.size, 0, none⟩) 1 1 [pb i] (by go_simp) (rv_new wr [pb i] _) rfl (by simp [pb, Value.oneCell']) (by have := Y.out.2.2.2.2.2.2; unfold maxLen; omega) (by have := Y.out.2.2.2.2.2.2; omega) (by have := Y.out.2.2.1; simp; omega) ?_)
                   intro v5 w5 ho5 hg5 hv5 hk5
                   obtain ⟨A7, n7, c7, rfl, hn7⟩ := own_form ho5
                   subst hn7
                   have Z := Lib.hid (Y.out.1.turn (v' := .slice A7 (mg + 1) c7) Y.out.2.2.2.1 (Nat.le_refl _) (fun e => by have := H0.out.1.lt; omega) _ (by rw [← Y.out.2.2.2.2.2.1]; exact ho5) (by rw [Y.out.2.2.2.2.1]; exact hg5) (by rw [Y.out.2.2.2.2.1]; exact hv5) (by rw [Y.out.2.2.2.2.1, ← Y.out.2.2.2.2.2.1]; exact hk5))
                   have hB5 := (Y.out.1.ap.alloc _).kept Y.out.2.2.2.1 (Y.out.2.2.2.2.1 ▸ hg5) (.inr rfl) (Y.out.1.bG.alloc _)
                   have hfg := hB5.frozen i
                   obtain ⟨og, hog⟩ := hB5.at_ (i := i) (by simp; exact Y.out.2.2.2.1)
                   clear ho5 hg5 hv5 hk5 hB5))
              go_roundw
              case rel => exact ⟨i + 1, _, _, _, by have := Y.out.2.2.2.1; omega, by go_num, Z.out⟩
              case measure => have := Y.out.2.2.2.1; simp [intOf]; omega
            · obtain rfl : i = k := by omega
              have hii : ¬ (i : Int) < (i : Int) := by omega
              have X := Lib.hid hI.wrap
              clear hI hlt hi
              go_wp2
              go_roundw
              case rel => exact ⟨q + 1, _, _, _, by omega, by go_num, X.out⟩
              case measure => simp [intOf]; omega
        · obtain rfl : q = 80 := by omega
          have I2 := Lib.hid I.out.1
          clear I hlq hq G0
          go_wp2
          go_loopw [8] (fun v wr2 => ∃ (i d : Nat), i ≤ k ∧ v = .int .i64 i ∧ wr2 = wr.drewN d) (fun v _ => k - (intOf v).toNat)
          case atStart => exact ⟨0, 0, by omega, rfl, rfl⟩
          case round =>
            obtain ⟨i, d, hi, rfl, rfl⟩ := hrel
            by_cases hlt : i < k
            · have hI := I2.out
              obtain ⟨Ag, mg, cg, hgi, hmi⟩ := own_form (hI.ap.gown i hlt)
              obtain ⟨_, _, hox⟩ := hI.ap.kown i _ _ _ ⟨hlt, rfl, rfl, rfl⟩
              obtain ⟨Ai, ni, ci, hvi, hni⟩ := own_form hox
              have hci : wr.cell? ⟨w.heap.size, i, none⟩ = some (.slice Ag mg cg) := by
                rw [hI.bG.cell, List.getElem?_map, List.getElem?_range hlt, Option.map_some, hgi]
              have hcv : wr.cell? ⟨gL, i, none⟩ = some (.slice Ai ni ci) := by
                rw [hI.bL.cell, List.getElem?_map, List.getElem?_range hlt, Option.map_some, hvi]
              have hog := hI.ap.gown i hlt
              rw [hgi, ← hmi] at hog
              rw [hvi, ← hni] at hox
              have hm80 : mg = ni + 80 := by rw [hmi, hI.hm i hlt, if_neg (Nat.not_lt_zero i), hni]
              have hnil : ni ≤ 1073741824 := hni ▸ H0.out.2.2.1 i hlt
              have hii : (i : Int) < (k : Int) := by omega
              have hi0 : (0 : Int) ≤ (i : Int) := by omega
              have hw1 : IntKind.u8.wrap (100 + (i : Int)) = 100 + (i : Int) := by simp [IntKind.wrap, IntKind.bits, IntKind.signed]; omega
              have hw2 : (100 + (i : Int)) % 256 = 100 + (i : Int) := by omega
              have hw3 : IntKind.u8.wrap ((i : Int) + 1) = (i : Int) + 1 := by simp [IntKind.wrap, IntKind.bits, IntKind.signed]; omega
              have hw4 : ((i : Int) + 1) % 256 = (i : Int) + 1 := by omega
              have ha := hI.ha i hlt
              have hb := hI.hb i hlt
              have hx := hI.hx i hlt
              rw [← hni] at ha hb hx
              rw [← hmi] at hb
              have Y := Lib.hid (And.intro hog (And.intro hox (And.intro hm80 (And.intro hnil (And.intro hlt (And.intro ha (And.intro hb hx)))))))
              clear hI hog hox hm80 hnil hlt hi hgi hmi hvi hni ha hb hx
              go_wp2
              go_loopw [9] (fun v wr2 => ∃ (j d : Nat), j ≤ mg ∧ v = .int .i64 j ∧ wr2 = wr.drewN d) (fun v _ => mg - (intOf v).toNat)
              case atStart => exact ⟨0, d, by omega, rfl, rfl⟩
              case round =>
                obtain ⟨j, d, hj, rfl, rfl⟩ := hrel
                by_cases hlj : j < mg
                · obtain ⟨gg, rfl, _, _⟩ := own_addr Y.out.1 (by omega)
                  have hji : (j : Int) < (mg : Int) := by omega
                  have hj0 : (0 : Int) ≤ (j : Int) := by omega
                  have hmi : (mg : Int) ≤ 2147483648 := by have := Y.out.2.2.1; have := Y.out.2.2.2.1; omega
                  have hcg := Y.out.1.cellAt j (by omega)
                  by_cases hjn : j < ni
                  · obtain ⟨ga, rfl, _, _⟩ := own_addr Y.out.2.1 (by omega)
                    have hca := Y.out.2.1.cellAt j (by omega)
                    have e1 := Y.out.2.2.2.2.2.1 j (by omega) hjn
                    have e2 := Y.out.2.2.2.2.2.2.2 j (by omega) hjn
                    rw [Nat.mul_one] at e1 e2
                    rw [e1] at hcg
                    rw [e2] at hca
                    have hjn1 : (j : Int) < (ni : Int) := by omega
                    have hjn2 : ¬ (ni : Int) ≤ (j : Int) := by omega
                    unfold pa at hcg hca
                    clear e1 e2 hjn hlj hj
                    go_wp2
                    go_roundw
                    case rel => exact ⟨j + 1, d, by omega, by go_num, rfl⟩
                    case measure => simp [intOf]; omega
                  · have e1 := Y.out.2.2.2.2.2.2.1 j (by omega) hlj
                    rw [Nat.mul_one] at e1
                    rw [e1] at hcg
                    have hjn1 : ¬ (j : Int) < (ni : Int) := by omega
                    have hjn2 : (ni : Int) ≤ (j : Int) := by omega
                    unfold pb at hcg
                    clear e1 hjn hlj hj
                    go_wp2
                    go_roundw
                    case rel => exact ⟨j + 1, d, by omega, by go_num, rfl⟩
                    case measure => simp [intOf]; omega
                · obtain rfl : j = mg := by omega
                  have hji : ¬ (j : Int) < (j : Int) := by omega
                  have HI := Lib.hid Y.out.2.2.2.2.1
                  clear Y hlj hj
                  go_wp2
                  go_roundw
                  case rel => exact ⟨i + 1, d, by have := HI.out; omega, by go_num, rfl⟩
                  case measure => have := HI.out; simp [intOf]; omega
            · obtain rfl : i = k := by omega
              have hii : ¬ (i : Int) < (i : Int) := by omega
              clear hlt hi
              go_wp2
              go_ret
              exact ⟨rfl, I2.out.ap.gr.below (gn (gr _) d)⟩
end Go.Proofs.YtoemceehmiaigaaDoor.Seal
