/- A digest under way takes in bytes: the program's walk. -/
import Derived.Test.YtoemceehmiaigaaDoorShaFrom
import Derived.Test.YtoemceehmiaigaaDoorRgR
namespace Go.Proofs.YtoemceehmiaigaaDoor.Sha
open Go.RowKit Go.Proofs.YtoemceehmiaigaaDoor.Mem Go.Proofs.YtoemceehmiaigaaDoor.Loan

/-- the cells of a Hash -/
def hcell (s : S8) (r : List UInt8) (n : Nat) : List Value := s.cells ++ (r.map bv ++ [.int .i64 (n : Int)])
theorem hashCells_eq (b : List UInt8) : hashCells b = hcell (stateB b) (restB b) b.length := rfl
theorem hcell_length (s : S8) (r : List UInt8) (n : Nat) (hr : r.length = 64) : (hcell s r n).length = 73 := by simp [hcell, cells_length, hr]
theorem hcell_one (s : S8) (r : List UInt8) (n : Nat) : ∀ v ∈ hcell s r n, v.oneCell' = true := by
  intro v hv
  unfold hcell at hv
  rcases List.mem_append.1 hv with h | h
  · exact cells_one _ v h
  · rcases List.mem_append.1 h with h | h
    · exact bytes_oneCell _ v h
    · simp at h; subst h; rfl
theorem hcell_take8 (s : S8) (r : List UInt8) (n : Nat) : (hcell s r n).take 8 = s.cells := by unfold hcell; rw [List.take_left' (cells_length s)]
theorem hcell_rest (s : S8) (r : List UInt8) (n : Nat) (hr : r.length = 64) : ((hcell s r n).drop 8).take 64 = r.map bv := by
  unfold hcell; rw [List.drop_left' (cells_length s), List.take_left' (by simp [hr])]
theorem hcell_72 (s : S8) (r : List UInt8) (n : Nat) (hr : r.length = 64) : (hcell s r n)[72]? = some (.int .i64 (n : Int)) := by
  unfold hcell
  rw [List.getElem?_append_right (by rw [cells_length]; omega), List.getElem?_append_right (by simp [cells_length, hr])]
  simp [cells_length, hr]
theorem hcell_set72 (s : S8) (r : List UInt8) (n m : Nat) (hr : r.length = 64) : (hcell s r n).set 72 (.int .i64 (m : Int)) = hcell s r m := by
  unfold hcell
  rw [List.set_append_right _ _ (by rw [cells_length]; omega), List.set_append_right _ _ (by simp [cells_length, hr])]
  simp [cells_length, hr]
theorem hcell_byte (s : S8) (r : List UInt8) (n i : Nat) (hr : r.length = 64) (hi : i < 64) : ∃ u, (hcell s r n)[8 + i]? = some u := ⟨_, List.getElem?_eq_getElem (by rw [hcell_length s r n hr]; omega)⟩
theorem hcell_setb (s : S8) (r : List UInt8) (n i : Nat) (c : UInt8) (hr : r.length = 64) (hi : i < 64) : (hcell s r n).set (8 + i) (bv c) = hcell s (r.set i c) n := by
  unfold hcell
  rw [List.set_append_right _ _ (by rw [cells_length]; omega), List.set_append_left _ _ (by simp [cells_length, hr]; omega), List.map_set]
  congr 3
  rw [cells_length]; omega
theorem hcell_state (s s' : S8) (r : List UInt8) (n : Nat) : splice (hcell s r n) 0 s'.cells = hcell s' r n := by
  unfold hcell splice
  rw [List.take_zero, List.nil_append, cells_length, Nat.zero_add, List.drop_left' (cells_length s)]
theorem hcell_put (s : S8) (r q : List UInt8) (n i : Nat) (hr : r.length = 64) (hi : i + q.length ≤ 64) : splice (hcell s r n) (8 + i) (q.map bv) = hcell s (r.take i ++ q ++ r.drop (i + q.length)) n := by
  unfold hcell splice
  rw [List.take_append, List.take_of_length_le (by rw [cells_length]; omega), cells_length, List.drop_append, List.drop_of_length_le (by rw [cells_length]; simp; omega), List.nil_append, cells_length,
    show 8 + i - 8 = i by omega, List.length_map, show 8 + i + q.length - 8 = i + q.length by omega, List.take_append_of_le_length (by simp [hr]; omega), List.drop_append_of_le_length (by simp [hr]; omega)]
  simp [List.map_take, List.map_drop]
theorem hcell_all (s : S8) (r q : List UInt8) (n : Nat) (hr : r.length = 64) (hq : q.length = 64) : splice (hcell s r n) 8 (q.map bv) = hcell s q n := by
  have h := hcell_put s r q n 0 hr (by omega)
  rw [List.take_zero, List.nil_append, List.drop_of_length_le (by omega), List.append_nil] at h
  exact h

theorem put_lo (b q : List UInt8) (h : b.length % 64 + q.length < 64) : hcell (stateB b) ((restB b).take (b.length % 64) ++ q ++ (restB b).drop (b.length % 64 + q.length)) (b.length + q.length) = hashCells (b ++ q) := by
  obtain ⟨h1, h2⟩ := more_lo b q h
  rw [hashCells_eq, h1, h2, List.length_append]
theorem put_hi (b q : List UInt8) (h : b.length % 64 + q.length = 64) : hcell (blockf (runB b (b.length / 64)) ((restB b).take (b.length % 64) ++ q) 0) (List.replicate 64 0) (b.length + q.length) = hashCells (b ++ q) := by
  obtain ⟨h1, h2⟩ := more_hi b q h
  rw [hashCells_eq, h1, h2, List.length_append]

def WR (H : Nat) (w0 : World) (hc : List Value) (w : World) : Prop := Blk w H 43 hc ∧ Blk w (H + 1) 43 (hashCells []) ∧ Below H w0 w

set_option maxHeartbeats 3200000 in
set_option maxRecDepth 40000 in
theorem write_any (b q : List UInt8) (A : Option Addr) (c : Nat) (w : World) (hq : RB w A q) (hcap : q.length ≤ c) (hG : GB w) (hlen : b.length + q.length < 4611686018427387904) :
    Calls Tryd.prog 26 #[.agg (hashCells b).toArray, .slice A q.length c] w fun e w' => e = .returned (.agg (hashCells (b ++ q)).toArray) ∧ Below w.heap.size w w' := by
  generalize hH : w.heap.size = H
  have HQ := Lib.hid hq
  have HG := Lib.hid hG
  have hH0 : 0 < H := hH ▸ hG.2
  have h73 := hashCells_length b
  have h1 := hash_one b
  have hc0l : (hashCells b).length = (hashCells []).length := by rw [hashCells_length, hashCells_length]
  obtain ⟨hc, hhc⟩ : ∃ x, x = hashCells b := ⟨_, rfl⟩
  rw [← hhc] at h73 h1 hc0l ⊢
  have HC := Lib.hid hhc
  clear hq hG hhc
  go_enter Tryd.func26, Tryd.ntmps26
  go_wp2_with (first
    | ((with_reducible show wpList _ _ _ (⟨some 2, _, _, _, _, _⟩ :: _) _ _); go_must (refine wpList_boxB (op := ⟨some 2, _, _, _, _, _⟩) rfl _ rfl hc rfl H hH ?_); intro w1 hB1 hb1 hz1)
    | ((with_reducible show wpList _ _ _ (⟨some 4, _, _, _, _, _⟩ :: _) _ _); go_must (refine wpList_allocB (op := ⟨some 4, _, _, _, _, _⟩) A43 rfl rfl (H + 1) hz1 ?_); intro w2 hB2 hb2 hz2))
  have X : WR H w (hashCells b) w2 := ⟨by rw [← HC.out]; exact hB1.below hb2 (by omega), hB2, hb1.trans (hb2.mono (by omega))⟩
  have HX := Lib.hid X
  clear X hB1 hB2 hb1 hb2 hz1 hz2
  have HL := Lib.hid hlen
  have HCAP := Lib.hid hcap
  clear hlen hcap
  simp only [Act.put, List.setIfInBounds_toArray, List.set_cons_succ, List.set_cons_zero]
  go_loopw [1] (fun v wr => ∃ (b' q' : List UInt8) (A' : Option Addr) (c' : Nat), b' ++ q' = b ++ q ∧ v = .slice A' q'.length c' ∧ q'.length ≤ c' ∧ RB w A' q' ∧ WR H w (hashCells b') wr)
    (fun v _ => lenV v)
  case atStart => exact ⟨b, q, A, c, rfl, rfl, HCAP.out, HQ.out, HX.out⟩
  case round =>
    clear HX
    obtain ⟨b', q', A', c', hbq, rfl, hc', hr, hB, hB2, hb⟩ := hrel
    obtain ⟨L, hL⟩ : ∃ L, L = q'.length := ⟨_, rfl⟩
    rw [← hL] at hc' ⊢
    by_cases hlt : 0 < L
    -- A>
    · obtain ⟨ad, rfl, hx⟩ := hr 0 (by omega)
      clear hx
      obtain ⟨n, hn⟩ : ∃ n, n = b'.length := ⟨_, rfl⟩
      obtain ⟨at_, hat⟩ : ∃ x, x = n % 64 := ⟨_, rfl⟩
      have hat64 : at_ < 64 := by omega
      obtain ⟨k, hk⟩ : ∃ k, k = Nat.min L (64 - at_) := ⟨_, rfl⟩
      have hk1 : k ≤ L := by rw [hk]; exact Nat.min_le_left _ _
      have hk2 : k ≤ 64 - at_ := by rw [hk]; exact Nat.min_le_right _ _
      have hk0 : 0 < k := by rw [hk]; exact Nat.lt_min.2 ⟨hlt, by omega⟩
      have hnq : n + L < 4611686018427387904 := by
        have := congrArg List.length hbq
        have := HL.out
        simp at *; omega
      have hr64 := restB_length b'
      have c72 : wr.cell? ⟨H, 72, none⟩ = some (.int .i64 (n : Int)) := by rw [hB.cell, hashCells_eq, hcell_72 _ _ _ hr64, hn]
      have HX := Lib.hid (And.intro hbq (And.intro hr (And.intro hB (And.intro hB2 hb))))
      have HN := Lib.hid (And.intro hL (And.intro hn (And.intro hat hk)))
      have m1 : (n : Int).tmod 64 = (at_ : Int) := by rw [Int.tmod_eq_emod_of_nonneg (by omega)]; omega
      have y0 : (0 : Int) ≤ (at_ : Int) := by omega
      have x0 : (at_ : Int) ≤ 64 := by omega
      have y1 : (0 : Int) ≤ (k : Int) := by omega
      have x1 : (k : Int) ≤ (L : Int) := by omega
      have x2 : (L : Int) ≤ (c' : Int) := by omega
      have x3 : (n : Int) + (k : Int) < 4611686018427387904 := by omega
      have hkq : (q'.map bv).take (64 - at_) = (q'.take k).map bv := by
        rw [← List.map_take]
        congr 1
        rcases Nat.le_total L (64 - at_) with h | h
        · have e : k = L := by rw [hk]; exact Nat.min_eq_left h
          rw [e, List.take_of_length_le (by omega), List.take_of_length_le (by omega)]
        · have e : k = 64 - at_ := by rw [hk]; exact Nat.min_eq_right h
          rw [e]
      have hq1l : (q'.take k).length = k := by rw [List.length_take]; omega
      obtain ⟨r1, hr1⟩ : ∃ r1, r1 = (restB b').take at_ ++ q'.take k ++ (restB b').drop (at_ + k) := ⟨_, rfl⟩
      have hr1l : r1.length = 64 := by rw [hr1]; simp [hr64]; omega
      have key : splice (hashCells b') (8 + at_) ((q'.map bv).take (64 - at_)) = hcell (stateB b') r1 n := by
        rw [hkq, hashCells_eq, hcell_put _ _ _ _ _ hr64 (by omega), hq1l, ← hr1, hn]
      have HKEY := Lib.hid key
      obtain ⟨A2, hA2⟩ : ∃ A2, A2 = (if c' = k then some ad else some (ad.add k)) := ⟨_, rfl⟩
      have HA2 := Lib.hid hA2
      clear hA2
      have HCP := Lib.hid (show (q'.map bv).length = L ∧ RV wr (some ad) (q'.map bv) ∧ 8 + at_ + (64 - at_) ≤ (hashCells b').length from ⟨by rw [List.length_map]; exact hL.symm, (hr.below (by rw [hH]; exact hb)).rv, by rw [hashCells_length]; omega⟩)
      have HR1 := Lib.hid hr1
      have hqd : RB w A2 (q'.drop k) := by
        rw [HA2.out]
        by_cases hck : c' = k
        · rw [if_pos hck, List.drop_of_length_le (by omega)]; exact RB.nil _ _
        · rw [if_neg hck]; exact hr.drop k ad rfl
      have HQD := Lib.hid (show (q'.take k).length = k ∧ (q'.drop k).length = L - k ∧ RB w A2 (q'.drop k) ∧ (b' ++ q'.take k) ++ q'.drop k = b ++ q from ⟨hq1l, by rw [List.length_drop]; omega, hqd, by rw [List.append_assoc, List.take_append_drop, hbq]⟩)
      clear hqd hkq key hr1 hq1l hbq hr hB hB2 hb hL hn hat hk
      by_cases hek : at_ + k = 64
      -- B>
      · have z1 : (at_ : Int) + (k : Int) = 64 := by omega
        go_wp2_with (first
          | ((with_reducible show wpList _ _ _ (⟨some 17, _, _, _, _, _⟩ :: _) _ _); go_must (refine wpList_copy1 E8 rfl (.tmp 15) (.tmp 16) rfl H (8 + at_) (64 - at_) (64 - at_) (some ad) L c' rfl rfl _ _ HX.out.2.2.1 (q'.map bv) HCP.out.1 HCP.out.2.1 HCP.out.2.2 (bytes_oneCell q') ?_); intro w3 hB3 hb3 hz3 hg3; rw [HKEY.out] at hB3; have d72 : w3.cell? ⟨H, 72, none⟩ = some (.int .i64 (n : Int)) := (hB3.cell 72).trans (hcell_72 _ _ _ hr1l); have f72 := hB3.frozen 72; rw [← HN.out.2.2.2])
          | ((with_reducible show wpList _ _ _ (⟨some 21, _, _, _, _, _⟩ :: _) _ _); rw [← HA2.out]))
        obtain ⟨w4, hw4⟩ : ∃ w4, w4 = w3.setCell ⟨H, 72, none⟩ (.int .i64 ((n : Int) + (k : Int))) := ⟨_, rfl⟩
        rw [← hw4]
        have Y : WR H w (hcell (stateB b') r1 (n + k)) w4 := by
          rw [hw4]
          have e : Value.int .i64 ((n : Int) + (k : Int)) = .int .i64 ((n + k : Nat) : Int) := by rw [Int.natCast_add]
          have h := hB3.set_ 72 (.int .i64 ((n + k : Nat) : Int))
          rw [hcell_set72 _ _ _ _ hr1l] at h
          rw [e]
          exact ⟨h, (HX.out.2.2.2.1.grown hg3 (by simp)).far (by simp) _, (HX.out.2.2.2.2.grown hg3 (by have := HX.out.2.2.1.lt; have := HX.out.2.2.2.2.size; rw [hH] at this; omega) (fun j hj => by simp at hj; omega)).setCell (by simp) _⟩
        have HY := Lib.hid Y
        clear Y hw4 hB3 hb3 hz3 hg3 d72 f72 c72
        have hnm : n % 64 + k = 64 := by have := HN.out.2.2.1; omega
        have hst : (if (((n + k - 64 : Nat) : Int) < 64) then start.cells else (hcell (stateB b') r1 (n + k)).take 8) = (runB b' (n / 64)).cells := by
          rw [hcell_take8, HN.out.2.1, ← from_state]
          by_cases hb64 : b'.length < 64
          · rw [if_pos hb64, if_pos (by have := HN.out.2.1; omega)]
          · rw [if_neg hb64, if_neg (by have := HN.out.2.1; omega)]
        obtain ⟨s0, hs0⟩ : ∃ s0, s0 = runB b' (n / 64) := ⟨_, rfl⟩
        rw [← hs0] at hst
        obtain ⟨s1, hs1⟩ : ∃ s1, s1 = blockf s0 r1 0 := ⟨_, rfl⟩
        have hend : hcell s1 (List.replicate 64 0) (n + k) = hashCells (b' ++ q'.take k) := by
          have e1 : b'.length % 64 = at_ := by rw [← HN.out.2.1]; exact HN.out.2.2.1.symm
          have h := put_hi b' (q'.take k) (by rw [HQD.out.1, e1]; exact hek)
          rw [HQD.out.1, e1, ← HN.out.2.1, ← hs0] at h
          rw [← h, hs1, HR1.out]
          congr 2
          rw [List.drop_of_length_le (by omega), List.append_nil]
        have hGB : GB w4 := HG.out.below HY.out.2.2 hH0
        obtain ⟨N, hN⟩ : ∃ N, N = n + k := ⟨_, rfl⟩
        obtain ⟨M, hM⟩ : ∃ M, M = N - 64 := ⟨_, rfl⟩
        have hMN : (N : Int) - 64 = (M : Int) := by omega
        have hM63 : IntKind.i64.wrap (M : Int) = (M : Int) := by rw [IntKind.wrap_i64]; omega
        rw [← hN] at hst hend HY
        rw [← hM] at hst
        obtain ⟨hc1, hhc1⟩ : ∃ x, x = hcell (stateB b') r1 N := ⟨_, rfl⟩
        have hc1l : hc1.length = (hashCells []).length := by rw [hhc1, hcell_length _ _ _ hr1l, hashCells_length]
        have hc1o : ∀ v ∈ hc1, v.oneCell' = true := by rw [hhc1]; exact hcell_one _ _ _
        have hc172 : hc1[72]? = some (.int .i64 (N : Int)) := by rw [hhc1]; exact hcell_72 _ _ _ hr1l
        have hc1r : (hc1.drop 8).take (List.replicate 64 (bv 0)).length = r1.map bv := by rw [hhc1]; exact hcell_rest _ _ _ hr1l
        rw [← hhc1] at hst HY
        have hNI : ((n : Int) + (k : Int)) = (N : Int) := by omega
        rw [hNI]
        have HH1 := Lib.hid hhc1
        have HS1 := Lib.hid hs1
        clear hhc1 hs1 hs0 hN hM hNI x3 x2 x1 y1 y0 x0 m1 z1
        refine wp_region_rrT (fun a b => Below a.heap.size a b) (fun _ _ _ h g => gt h g) (fun _ _ h => h.size) (fun a => (gr a).drew) 9
          [.eq 30 (.agg hc1.toArray), .eq 31 (.pointer (some ⟨H, 72, none⟩)), .eq 32 (.int .i64 (N : Int)), .eq 33 (.int .i64 (M : Int)), .eq 34 (.agg s0.cells.toArray),
           .eq 35 (.pointer (some ⟨H, 8, none⟩)), .eq 36 (.agg (r1.map bv).toArray), .eq 37 (.agg s1.cells.toArray), .eq 38 (.pointer (some ⟨H, 0, none⟩))]
          (by kernel_rfl) (by kernel_rfl) (by kernel_rfl) (by kernel_rfl) ?hst ?hob ?hfin
        case hst =>
          intro s hs
          simp only [List.mem_cons, List.not_mem_nil, or_false] at hs
          rcases hs with rfl | rfl | rfl | rfl | rfl | rfl | rfl | rfl | rfl <;> exact fun _ _ _ h _ => h
        case hob =>
          simp only [List.take_succ_cons, List.take_zero]
          refine rrs_cons ?_ (rrs_cons ?_ (rrs_cons ?_ (rrs_cons ?_ (rrs_cons ?_ (rrs_cons ?_ (rrs_cons ?_ (rrs_cons ?_ (rrs_cons ?_ rrs_nil))))))))
          · refine rr_wp (by decide) (by rfl) fun x w' A hg hp hA K' hK' => ?_
            have e2 := hA 2
            simp [rgDsts] at e2
            refine wp_loadB A43 _ rfl H 0 ?_ _ _ (HY.out.1.grow hg) hc1 ((congrArg (List.take _) List.drop_zero).trans (List.take_of_length_le (Nat.le_of_eq hc1l))) hc1l ?_
            · simpa [Act.eval] using e2
            · exact hK' _ _ (gr _) (by simp) (by simp)
          · refine rr_eq gr (by decide) (by rfl) (by rfl) fun x w' A hg hp hA => ?_
            have e2 := hA 2
            simp [rgDsts] at e2
            go_simp
          · refine rr_eq gr (by decide) (by rfl) (by rfl) fun x w' A hg hp hA => ?_
            have e31 := hA 31
            simp [rgDsts] at e31
            simp [RgPreds, Region.binds] at hp
            have hc : w'.cell? ⟨H, 72, none⟩ = some (.int .i64 (N : Int)) := ((HY.out.1.grow hg).cell 72).trans hc172
            go_simp
          · refine rr_eq gr (by decide) (by rfl) (by rfl) fun x w' A hg hp hA => ?_
            have e32 := hA 32
            simp [rgDsts] at e32
            simp [RgPreds, Region.binds] at hp
            go_simp
          · refine rr_call (by decide) (by rfl) fun x w' A hg hp hA => ⟨56, #[.agg hc1.toArray, .int .i64 (M : Int)], ?_, ?_⟩
            · have e30 := hA 30
              have e33 := hA 33
              simp [rgDsts] at e30 e33
              simp [RgPreds, Region.binds] at hp
              obtain ⟨h1, h2⟩ := hp
              go_simp
            · refine (from_any hc1 (by rw [hc1l, hashCells_length]) hc1o (M : Int) w' (hGB.grow hg)).mono ?_
              rintro e w'' ⟨rfl, hb⟩
              exact ⟨_, rfl, hb, by simp [hst], by simp⟩
          · refine rr_eq gr (by decide) (by rfl) (by rfl) fun x w' A hg hp hA => ?_
            have e2 := hA 2
            simp [rgDsts] at e2
            go_simp
          · refine rr_wp (by decide) (by rfl) fun x w' A hg hp hA K' hK' => ?_
            have e35 := hA 35
            simp [rgDsts] at e35
            simp [RgPreds, Region.binds] at hp
            refine wp_loadB A41 _ rfl H 8 ?_ _ _ (HY.out.1.grow hg) (r1.map bv) hc1r (by simp [hr1l]) ?_
            · simpa [Act.eval, hp] using e35
            · exact hK' _ _ (gr _) (by simp) (by simp)
          · refine rr_call (by decide) (by rfl) fun x w' A hg hp hA => ⟨55, #[.agg s0.cells.toArray, .agg (r1.map bv).toArray], ?_, ?_⟩
            · have e34 := hA 34
              have e36 := hA 36
              simp [rgDsts] at e34 e36
              simp [RgPreds, Region.binds] at hp
              obtain ⟨h1, h2⟩ := hp
              go_simp
            · refine (block_any s0 r1 hr1l w').mono ?_
              rintro e w'' ⟨rfl, hb⟩
              exact ⟨_, rfl, hb, by simp [HS1.out], by simp⟩
          · refine rr_eq gr (by decide) (by rfl) (by rfl) fun x w' A hg hp hA => ?_
            have e2 := hA 2
            simp [rgDsts] at e2
            go_simp
        case hfin =>
          intro x w5 hg hall hap
          simp only [RgAll, holds_eq, and_true] at hall
          obtain ⟨e30, e31, e32, e33, e34, e35, e36, e37, e38⟩ := hall
          simp only [rgDsts, List.take_succ_cons, List.take_zero, List.filterMap_cons, List.filterMap_nil, putMany, List.foldl_cons, List.foldl_nil, List.setIfInBounds_toArray, List.set_cons_succ, List.set_cons_zero, List.drop_succ_cons, List.drop_zero, e30, e31, e32, e33, e34, e35, e36, e37, e38]
          clear e30 e31 e32 e33 e34 e35 e36 e37 e38 hap
          have hzo : ∀ v ∈ List.replicate 64 (bv 0), v.oneCell' = true := by intro v hv; rw [List.eq_of_mem_replicate hv]; rfl
          have hB5 := HY.out.1.grow hg
          go_wp2_with (first
            | ((with_reducible show wpList _ _ _ (⟨none, .store 40 _ _, _, _, _, _⟩ :: _) _ _); go_must (refine wpList_storeB (op := ⟨none, _, _, _, _, _⟩) A40 rfl _ _ rfl H 0 rfl s1.cells rfl rfl _ _ hB5 (by rw [hc1l, hashCells_length]; show 0 + 8 ≤ 73; omega) (cells_one _) ?_); intro w6 hB6 hg6 hz6)
            | ((with_reducible show wpList _ _ _ (⟨none, .store 41 _ _, _, _, _, _⟩ :: _) _ _); go_must (refine wpList_storeB (op := ⟨none, _, _, _, _, _⟩) A41 rfl _ _ rfl H 8 rfl (List.replicate 64 (bv 0)) (by rfl) rfl _ _ hB6 (by rw [List.length_replicate, HH1.out, hcell_state, hcell_length _ _ _ hr1l]; omega) hzo ?_); intro w7 hB7 hg7 hz7))
          have hB8 : Blk w7 H 43 (hashCells (b' ++ q'.take k)) := by
            rw [HH1.out, hcell_state] at hB7
            rw [← hend]
            have e : List.replicate 64 (bv 0) = (List.replicate 64 (0 : UInt8)).map bv := by simp
            rw [e, hcell_all _ _ _ _ hr1l (by simp)] at hB7
            exact hB7
          have z5 := HY.out.1.lt
          have z6 := hg.size
          have hWR : WR H w (hashCells (b' ++ q'.take k)) w7 := by
            refine ⟨hB8, ((HY.out.2.1.grow hg).grown hg6 (by simp)).grown hg7 (by simp), ?_⟩
            have e1 : Below H w w5 := HY.out.2.2.trans (hg.mono (by omega))
            exact (e1.grown hg6 (by have := HY.out.2.2.size; omega) (fun j hj => by simp at hj; omega)).grown hg7 (by have := HY.out.2.2.size; omega) (fun j hj => by simp at hj; omega)
          refine ⟨?_, by show L - k < L; omega⟩
          repeat apply Exists.intro
          refine ⟨?_, rfl⟩
          exact ⟨b' ++ q'.take k, q'.drop k, A2, c' - k, HQD.out.2.2.2, by rw [HQD.out.2.1], by rw [HQD.out.2.1]; omega, HQD.out.2.2.1, hWR⟩
      -- <B
      · have z1 : ((at_ : Int) + (k : Int) = 64) = False := by simp; omega
        go_upto_region 6 with (first
          | ((with_reducible show wpList _ _ _ (⟨some 17, _, _, _, _, _⟩ :: _) _ _); go_must (refine wpList_copy1 E8 rfl (.tmp 15) (.tmp 16) rfl H (8 + at_) (64 - at_) (64 - at_) (some ad) L c' rfl rfl _ _ HX.out.2.2.1 (q'.map bv) HCP.out.1 HCP.out.2.1 HCP.out.2.2 (bytes_oneCell q') ?_); intro w3 hB3 hb3 hz3 hg3; rw [HKEY.out] at hB3; have d72 : w3.cell? ⟨H, 72, none⟩ = some (.int .i64 (n : Int)) := (hB3.cell 72).trans (hcell_72 _ _ _ hr1l); have f72 := hB3.frozen 72; rw [← HN.out.2.2.2])
          | ((with_reducible show wpList _ _ _ (⟨some 21, _, _, _, _, _⟩ :: _) _ _); rw [← HA2.out]))
        obtain ⟨w4, hw4⟩ : ∃ w4, w4 = w3.setCell ⟨H, 72, none⟩ (.int .i64 ((n : Int) + (k : Int))) := ⟨_, rfl⟩
        rw [← hw4]
        have Y : WR H w (hcell (stateB b') r1 (n + k)) w4 := by
          rw [hw4]
          have e : Value.int .i64 ((n : Int) + (k : Int)) = .int .i64 ((n + k : Nat) : Int) := by rw [Int.natCast_add]
          have h := hB3.set_ 72 (.int .i64 ((n + k : Nat) : Int))
          rw [hcell_set72 _ _ _ _ hr1l] at h
          rw [e]
          exact ⟨h, (HX.out.2.2.2.1.grown hg3 (by simp)).far (by simp) _, (HX.out.2.2.2.2.grown hg3 (by have := HX.out.2.2.1.lt; have := HX.out.2.2.2.2.size; rw [hH] at this; omega) (fun j hj => by simp at hj; omega)).setCell (by simp) _⟩
        have HY := Lib.hid Y
        clear Y hw4 hB3 hb3 hz3 hg3 d72 f72 hr64 hr1l x1 x2 x3 y1 m1 hnq
        go_wp2
        have hlo : hcell (stateB b') r1 (n + k) = hashCells (b' ++ q'.take k) := by
          have e1 : b'.length % 64 = at_ := by rw [← HN.out.2.1]; exact HN.out.2.2.1.symm
          have h := put_lo b' (q'.take k) (by rw [HQD.out.1, e1]; omega)
          rw [HQD.out.1, e1, ← HN.out.2.1] at h
          rw [HR1.out]; exact h
        exact ⟨⟨b' ++ q'.take k, q'.drop k, A2, c' - k, HQD.out.2.2.2, by rw [HQD.out.2.1], by rw [HQD.out.2.1]; omega, HQD.out.2.2.1, hlo ▸ HY.out⟩, by show L - k < L; omega⟩
    -- <A
    · have hq0 : q' = [] := by apply List.eq_nil_of_length_eq_zero; omega
      rw [hq0, List.append_nil] at hbq
      have hL0 : L = 0 := by omega
      rw [hbq] at hB
      obtain ⟨r, hr⟩ : ∃ r, r = hashCells (b ++ q) := ⟨_, rfl⟩
      have hrl : r.length = (hashCells []).length := by rw [hr, hashCells_length, hashCells_length]
      have hro : ∀ v ∈ r, v.oneCell' = true := by rw [hr]; exact hash_one _
      rw [← hr] at hB
      have HR := Lib.hid hr
      have HB := Lib.hid (And.intro hB (And.intro hB2 hb))
      clear hr hB hB2 hb hbq hL hq0
      have hL0' : (L : Int) = 0 := by omega
      go_wp2_with (first
        | ((with_reducible show wpList _ _ _ (⟨some 41, _, _, _, _, _⟩ :: _) _ _); go_must (refine wpList_loadB (op := ⟨some 41, _, _, _, _, _⟩) A43 rfl _ rfl H 0 rfl _ _ HB.out.1 r ((congrArg (List.take _) List.drop_zero).trans (List.take_of_length_le (Nat.le_of_eq hrl))) hrl ?_))
        | ((with_reducible show wpList _ _ _ (⟨none, .store 43 _ _, _, _, _, _⟩ :: _) _ _); go_must (refine wpList_storeB (op := ⟨none, _, _, _, _, _⟩) A43 rfl _ _ rfl (H + 1) 0 rfl r rfl hrl _ _ HB.out.2.1 (Nat.le_of_eq ((Nat.zero_add _).trans hrl)) hro ?_); intro w10 hB10 hgr10 _))
      rw [splice_all _ _ hrl] at hB10
      refine ret_cell A43 Tryd.results26 (H + 1) rfl _ r hB10 hrl rfl ⟨by rw [HR.out], ?_⟩
      exact HB.out.2.2.grown hgr10 (by have := HB.out.1.lt; omega) (fun j hj => by simp at hj; omega)
end Go.Proofs.YtoemceehmiaigaaDoor.Sha
