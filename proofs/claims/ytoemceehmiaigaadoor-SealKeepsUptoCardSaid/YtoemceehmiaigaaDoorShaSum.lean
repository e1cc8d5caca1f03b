/- The digest of what a Hash took in: the program's walk. -/
import Derived.Test.YtoemceehmiaigaaDoorShaWrite
import Derived.Deep.DeepCutAuto
namespace Go.Proofs.YtoemceehmiaigaaDoor.Sha
open Go.RowKit Go.Proofs.YtoemceehmiaigaaDoor.Mem Go.Proofs.YtoemceehmiaigaaDoor.Loan

theorem set_mark (b : List UInt8) : (restB b).set (b.length % 64) 0x80 = tailB b ++ ((0x80 : UInt8) :: List.replicate (63 - b.length % 64) 0) := by
  have hm := Nat.mod_lt b.length (show 0 < 64 by omega)
  have hl := tailB_length b
  unfold restB
  rw [List.set_append_right _ _ (by omega), hl, Nat.sub_self, show 64 - b.length % 64 = (63 - b.length % 64) + 1 by omega, List.replicate_succ]
  rfl
/-- the last eight places of the block, filled up to i -/
def fill8 (r d : List UInt8) (i : Nat) : List UInt8 := r.take 56 ++ (d.take i ++ r.drop (56 + i))
theorem fill8_length (r d : List UInt8) (i : Nat) (hr : r.length = 64) (hd : d.length = 8) (hi : i ≤ 8) : (fill8 r d i).length = 64 := by simp [fill8, hr, hd]; omega
theorem fill8_set (r d : List UInt8) (i : Nat) (c : UInt8) (hr : r.length = 64) (hd : d.length = 8) (hi : i < 8) (hc : d[i]? = some c) : (fill8 r d i).set (56 + i) c = fill8 r d (i + 1) := by
  have h : i < d.length := by omega
  have hc' : d[i] = c := by rw [List.getElem?_eq_getElem h] at hc; exact Option.some.inj hc
  have h56 : (r.take 56).length = 56 := by simp [hr]
  have hdi : (d.take i).length = i := by simp; omega
  unfold fill8
  rw [List.set_append_right _ _ (by omega), h56, List.set_append_right _ _ (by omega), hdi, show 56 + i - 56 - i = 0 by omega, take_succ_ h, hc', List.append_assoc,
    List.drop_eq_getElem_cons (show 56 + i < r.length by omega)]
  rfl
theorem fill8_zero (r d : List UInt8) : fill8 r d 0 = r := by simp [fill8]
theorem fill8_all (r d : List UInt8) (hr : r.length = 64) (hd : d.length = 8) : fill8 r d 8 = r.take 56 ++ d := by
  unfold fill8
  rw [show d.take 8 = d from List.take_of_length_le (by omega), List.drop_of_length_le (by omega), List.append_nil]
theorem last_lo (b : List UInt8) (h : b.length % 64 < 56) : sumf b = dig (blockf (runB b (b.length / 64)) (((restB b).set (b.length % 64) 0x80).take 56 ++ be8 (8 * b.length)) 0) := by
  rw [sumf_lo b h, set_mark]
  have hl := tailB_length b
  congr 2
  rw [List.take_append, List.take_of_length_le (by omega), hl, show 56 - b.length % 64 = (55 - b.length % 64) + 1 by omega, List.take_succ_cons, List.take_replicate, List.append_assoc]
  congr 1
  rw [show min (55 - b.length % 64) (63 - b.length % 64) = 55 - b.length % 64 by omega]
  rfl
theorem last_hi (b : List UInt8) (h : 56 ≤ b.length % 64) : sumf b = dig (blockf (blockf (runB b (b.length / 64)) ((restB b).set (b.length % 64) 0x80) 0) ((List.replicate 64 0).take 56 ++ be8 (8 * b.length)) 0) := by
  rw [sumf_hi b h, set_mark]
  congr 2
theorem be8_get (n i : Nat) (hi : i < 8) : (be8 n)[i]? = some (UInt8.ofNat (n / 2 ^ (56 - 8 * i))) := by
  simp [be8, hi]

/-- what lies where, as the digest is made -/
def SC (H g3 : Nat) (w0 : World) (hc sc : List Value) (w : World) : Prop :=
  H + 1 < g3 ∧ Blk w H 43 hc ∧ Blk w (H + 1) 30 (List.replicate 32 (bv 0)) ∧ Blk w g3 40 sc ∧ Below H w0 w
theorem SC.set {H g3 : Nat} {w0 w : World} {hc sc : List Value} (h : SC H g3 w0 hc sc w) (i : Nat) (v : Value) : SC H g3 w0 (hc.set i v) sc (w.setCell ⟨H, i, none⟩ v) := by
  obtain ⟨h1, h2, h3, h4, h5⟩ := h
  exact ⟨h1, h2.set_ i v, h3.far (by simp) v, h4.far (by simp; omega) v, h5.setCell (by simp) v⟩

def ST (H g6 : Nat) (w0 : World) (dc : List Value) (w : World) : Prop :=
  H + 1 < g6 ∧ Blk w (H + 1) 30 (List.replicate 32 (bv 0)) ∧ Blk w g6 30 dc ∧ Below H w0 w
theorem ST.set {H g6 : Nat} {w0 w : World} {dc : List Value} (h : ST H g6 w0 dc w) (i : Nat) (v : Value) : ST H g6 w0 (dc.set i v) (w.setCell ⟨g6, i, none⟩ v) := by
  obtain ⟨h1, h2, h3, h4⟩ := h
  exact ⟨h1, h2.far (by simp; omega) v, h3.set_ i v, h4.setCell (by simp; omega) v⟩
theorem fill4 (d : List UInt8) (i p0 p1 p2 p3 : Nat) (b0 b1 b2 b3 : UInt8) (dl : d.length = 32) (hi : i < 8) (h0 : p0 = 4 * i) (h1 : p1 = 4 * i + 1) (h2 : p2 = 4 * i + 2) (h3 : p3 = 4 * i + 3)
    (g0 : d[p0]? = some b0) (g1 : d[p1]? = some b1) (g2 : d[p2]? = some b2) (g3 : d[p3]? = some b3) :
    (((((fillB d (4 * i) 32).map bv).set p0 (bv b0)).set p1 (bv b1)).set p2 (bv b2)).set p3 (bv b3) = (fillB d (4 * (i + 1)) 32).map bv := by
  subst h0 h1 h2 h3
  rw [fillB_set d (4 * i) 32 b0 dl (by omega) g0, fillB_set d (4 * i + 1) 32 b1 dl (by omega) g1, fillB_set d (4 * i + 2) 32 b2 dl (by omega) g2, fillB_set d (4 * i + 3) 32 b3 dl (by omega) g3]
  rfl
theorem fillB_at (d : List UInt8) (i n j : Nat) (hd : d.length = n) (hi : i ≤ n) (hj : j < n) : ∃ u, ((fillB d i n).map bv)[j]? = some u := by
  have := fillB_length d i n hd hi
  exact ⟨_, List.getElem?_eq_getElem (by rw [List.length_map]; omega)⟩

theorem run_index8 (s : S8) (i : Nat) (hi : i < 8) (w : World) : (Instr.index 40 (.agg s.cells.toArray) (.int .i64 (i : Int))).run Tryd.prog w = .ok (w32 (s.at_ i)) w := by
  obtain ⟨a, b, c, d, e, f, g, h⟩ := s
  have : i = 0 ∨ i = 1 ∨ i = 2 ∨ i = 3 ∨ i = 4 ∨ i = 5 ∨ i = 6 ∨ i = 7 := by omega
  rcases this with rfl | rfl | rfl | rfl | rfl | rfl | rfl | rfl <;> (show Sem.run _ _ _ = _; kernel_rfl)
theorem dig_at (s : S8) (i j p : Nat) (hi : i < 8) (hj : j < 4) (hp : p = 4 * i + j) : (dig s)[p]? = some (UInt8.ofNat ((s.at_ i).toNat / 2 ^ (24 - 8 * j))) := by
  rw [dig_get s p (by omega), show p / 4 = i by omega, show p % 4 = j by omega]

set_option maxHeartbeats 3200000 in
set_option maxRecDepth 40000 in
theorem sum_any (b : List UInt8) (w : World) (hG : GB w) (hlen : b.length < 288230376151711744) :
    Calls Tryd.prog 27 #[.agg (hashCells b).toArray] w fun e w' => e = .returned (.agg ((sumf b).map bv).toArray) ∧ Below w.heap.size w w' := by
  generalize hH : w.heap.size = H
  have HG := Lib.hid hG
  have hH0 : 0 < H := hH ▸ hG.2
  obtain ⟨n, hn⟩ : ∃ n, n = b.length := ⟨_, rfl⟩
  obtain ⟨at_, hat⟩ : ∃ x, x = n % 64 := ⟨_, rfl⟩
  have hat64 : at_ < 64 := by omega
  have hr64 := restB_length b
  obtain ⟨st, hst⟩ : ∃ x, x = stateB b := ⟨_, rfl⟩
  obtain ⟨r, hr⟩ : ∃ x, x = restB b := ⟨_, rfl⟩
  obtain ⟨hc, hhc⟩ : ∃ x, x = hcell st r n := ⟨_, rfl⟩
  rw [hashCells_eq, ← hst, ← hr, ← hn, ← hhc]
  rw [← hr] at hr64
  rw [← hn] at hlen
  have hcl : hc.length = (hashCells []).length := by rw [hhc, hcell_length _ _ _ hr64, hashCells_length]
  have hco : ∀ v ∈ hc, v.oneCell' = true := by rw [hhc]; exact hcell_one _ _ _
  have hc72 : hc[72]? = some (.int .i64 (n : Int)) := by rw [hhc]; exact hcell_72 _ _ _ hr64
  have hfrom : (if ((n : Int) < 64) then start.cells else hc.take 8) = (runB b (n / 64)).cells := by
    rw [hhc, hcell_take8, hst, hn, ← from_state]
    by_cases hb64 : b.length < 64
    · rw [if_pos hb64, if_pos (by omega)]
    · rw [if_neg hb64, if_neg (by omega)]
  obtain ⟨s0, hs0⟩ : ∃ s0, s0 = runB b (n / 64) := ⟨_, rfl⟩
  rw [← hs0] at hfrom
  have HN := Lib.hid (And.intro hn (And.intro hat (And.intro hst (And.intro hr (And.intro hhc hs0)))))
  have m1 : (n : Int).tmod 64 = (at_ : Int) := by rw [Int.tmod_eq_emod_of_nonneg (by omega)]; omega
  clear hG hn hat hst hr hhc hs0
  go_enter Tryd.func27, Tryd.ntmps27
  go_wp2_with (first
    | ((with_reducible show wpList _ _ _ (⟨some 1, _, _, _, _, _⟩ :: _) _ _); go_must (refine wpList_boxB (op := ⟨some 1, _, _, _, _, _⟩) rfl _ rfl hc rfl H hH ?_); intro w1 hB1 hb1 hz1)
    | ((with_reducible show wpList _ _ _ (⟨some 2, _, _, _, _, _⟩ :: _) _ _); go_must (refine wpList_allocB (op := ⟨some 2, _, _, _, _, _⟩) A30 rfl rfl (H + 1) hz1 ?_); intro w2 hB2 hb2 hz2))
  simp only [Act.put, List.setIfInBounds_toArray, List.set_cons_succ, List.set_cons_zero]
  have hB1' : Blk w2 H 43 hc := hB1.below hb2 (by omega)
  have hbw : Below H w w2 := hb1.trans (hb2.mono (by omega))
  have hGB : GB w2 := HG.out.below hbw hH0
  have c72 : w2.cell? ⟨H, 72, none⟩ = some (.int .i64 (n : Int)) := (hB1'.cell 72).trans hc72
  clear hB1 hb1 hb2 hz1
  have hzl : zero8.cells.length = 8 := rfl
  obtain ⟨R, hR⟩ : ∃ R, R = Turns (H + 2) (.cells zero8.cells.toArray 40 (0, 0)) (.cells s0.cells.toArray 40 (0, 0)) := ⟨_, rfl⟩
  have hRb : ∀ {a b : World}, Below a.heap.size a b → R a b := fun h => by rw [hR]; exact Turns.of_below h
  have hgrow : ∀ {w'}, R w2 w' → Below (H + 2) w2 w' := fun h => by rw [hR] at h; exact h.below (by omega)
  refine wp_region_rrT R (fun _ _ _ h g => by rw [hR] at *; exact h.trans g) (fun _ _ h => by rw [hR] at h; exact h.2.2.2.1) (fun a => hRb (gr a).drew) 9
    [.eq 9 (.agg hc.toArray), .eq 10 (.pointer (some ⟨H, 72, none⟩)), .eq 11 (.int .i64 (n : Int)), .eq 12 (.agg s0.cells.toArray),
     .eq 13 (.pointer (some ⟨H, 72, none⟩)), .eq 14 (.int .i64 (n : Int)), .eq 15 (.int .i64 (at_ : Int)),
     .new 3 (fun v W => ∃ g, v = .pointer (some ⟨g, 0, none⟩) ∧ H + 1 < g ∧ (Blk W g 40 zero8.cells ∨ Blk W g 40 s0.cells)),
     .one 3 (fun v W => ∃ g, v = .pointer (some ⟨g, 0, none⟩) ∧ H + 1 < g ∧ Blk W g 40 s0.cells)]
    (by kernel_rfl) (by kernel_rfl) (by kernel_rfl) (by kernel_rfl) ?hst ?hob ?hfin
  case hst =>
    intro s hs
    simp only [List.mem_cons, List.not_mem_nil, or_false] at hs
    rcases hs with rfl | rfl | rfl | rfl | rfl | rfl | rfl | rfl | rfl
    · exact fun _ _ _ h _ => h
    · exact fun _ _ _ h _ => h
    · exact fun _ _ _ h _ => h
    · exact fun _ _ _ h _ => h
    · exact fun _ _ _ h _ => h
    · exact fun _ _ _ h _ => h
    · exact fun _ _ _ h _ => h
    · rintro vs w1 w2 ⟨v, rfl, g, rfl, hg, h | h⟩ ht
      · rw [hR] at ht
        rcases ht.2.2.2.2 g h.lt with h1 | ⟨_, _, h1⟩
        · exact ⟨_, rfl, g, rfl, hg, .inl (h1.trans h)⟩
        · exact ⟨_, rfl, g, rfl, hg, .inr h1⟩
      · rw [hR] at ht
        rcases ht.2.2.2.2 g h.lt with h1 | ⟨_, _, h1⟩
        · exact ⟨_, rfl, g, rfl, hg, .inr (h1.trans h)⟩
        · exact ⟨_, rfl, g, rfl, hg, .inr h1⟩
    · rintro vs w1 w2 ⟨v, rfl, g, rfl, hg, h⟩ ht
      rw [hR] at ht
      rcases ht.2.2.2.2 g h.lt with h1 | ⟨_, _, h1⟩
      · exact ⟨_, rfl, g, rfl, hg, h1.trans h⟩
      · exact ⟨_, rfl, g, rfl, hg, h1⟩
  case hob =>
    simp only [List.take_succ_cons, List.take_zero]
    refine rrs_cons ?_ (rrs_cons ?_ (rrs_cons ?_ (rrs_cons ?_ (rrs_cons ?_ (rrs_cons ?_ (rrs_cons ?_ (rrs_cons ?_ (rrs_cons ?_ rrs_nil))))))))
    · refine rr_wp (by decide) (by rfl) fun x w' A hg hp hA K' hK' => ?_
      have e1 := hA 1
      simp [rgDsts] at e1
      refine wp_loadB A43 _ rfl H 0 ?_ _ _ (hB1'.below (hgrow hg) (by omega)) hc ((congrArg (List.take _) List.drop_zero).trans (List.take_of_length_le (Nat.le_of_eq hcl))) hcl ?_
      · simpa [Act.eval] using e1
      · exact hK' _ _ (hRb (gr _)) (by simp) (by simp)
    · refine rr_eq (fun a => hRb (gr a)) (by decide) (by rfl) (by rfl) fun x w' A hg hp hA => ?_
      have e1 := hA 1
      simp [rgDsts] at e1
      go_simp
    · refine rr_eq (fun a => hRb (gr a)) (by decide) (by rfl) (by rfl) fun x w' A hg hp hA => ?_
      have e10 := hA 10
      simp [rgDsts] at e10
      simp [RgPreds, Region.binds] at hp
      have hc' : w'.cell? ⟨H, 72, none⟩ = some (.int .i64 (n : Int)) := ((hB1'.below (hgrow hg) (by omega)).cell 72).trans hc72
      go_simp
    · refine rr_call (by decide) (by rfl) fun x w' A hg hp hA => ⟨56, #[.agg hc.toArray, .int .i64 (n : Int)], ?_, ?_⟩
      · have e9 := hA 9
        have e11 := hA 11
        simp [rgDsts] at e9 e11
        simp [RgPreds, Region.binds] at hp
        obtain ⟨h1, h2⟩ := hp
        go_simp
      · refine (from_any hc (by rw [hcl, hashCells_length]) hco (n : Int) w' (hGB.below (hgrow hg) (by omega))).mono ?_
        rintro e w'' ⟨rfl, hb⟩
        exact ⟨_, rfl, hRb hb, by simp [hfrom], by simp⟩
    · refine rr_eq (fun a => hRb (gr a)) (by decide) (by rfl) (by rfl) fun x w' A hg hp hA => ?_
      have e1 := hA 1
      simp [rgDsts] at e1
      go_simp
    · refine rr_eq (fun a => hRb (gr a)) (by decide) (by rfl) (by rfl) fun x w' A hg hp hA => ?_
      have e13 := hA 13
      simp [rgDsts] at e13
      simp [RgPreds, Region.binds] at hp
      have hc' : w'.cell? ⟨H, 72, none⟩ = some (.int .i64 (n : Int)) := ((hB1'.below (hgrow hg) (by omega)).cell 72).trans hc72
      go_simp
    · refine rr_eq (fun a => hRb (gr a)) (by decide) (by rfl) (by rfl) fun x w' A hg hp hA => ?_
      have e14 := hA 14
      simp [rgDsts] at e14
      simp [RgPreds, Region.binds] at hp
      go_simp
    · refine rr_val (by decide) (by rfl) fun x w' A hg hp hA => ⟨_, _, run_allocB A40 rfl, hRb (ga (gr _) _), ?_, ?_⟩
      · simp
        have := (hgrow hg).size
        have := hB2.lt
        exact ⟨by omega, .inl (Blk.new w' _ _)⟩
      · simp [blockOf]
    · refine rr_wp (by decide) (by rfl) fun x w' A hg hp hA K' hK' => ?_
      have e3 := hA 3
      have e12 := hA 12
      simp [rgDsts] at e3 e12
      simp [RgPreds, Region.binds] at hp
      obtain ⟨⟨g, e, hg0, h⟩, h12, _⟩ := hp
      have hturn : ∀ {w'' : World} {cs : List Value}, (cs = zero8.cells ∨ cs = s0.cells) → Blk w' g 40 cs → Blk w'' g 40 (splice cs 0 s0.cells) → w'.grownBy w'' (some g) →
          K' (A.put none undef) w'' := by
        intro w'' cs hcs hB hB2 hg2
        rw [splice_all _ _ (by rcases hcs with rfl | rfl <;> rfl)] at hB2
        refine hK' undef _ (by
          rw [hR]
          refine ⟨hg2.os, hg2.tape, hg2.output, hg2.size, fun j hj => ?_⟩
          by_cases hjg : j = g
          · subst hjg
            rcases hcs with rfl | rfl
            · exact .inr ⟨by omega, hB, hB2⟩
            · exact .inl (hB2.trans hB.symm)
          · exact .inl (hg2.block j hj (by simpa using hjg))) (by simp; exact ⟨g, e, hg0, hB2⟩) (by simp)
      rcases h with h | h
      · exact wp_storeB A40 _ _ rfl g 0 (by simpa [Act.eval, e] using e3) s0.cells (by simpa [Act.eval, h12] using e12) rfl _ _ h (Nat.le_refl 8) (cells_one _) (fun w'' h1 h2 _ => hturn (.inl rfl) h h1 h2)
      · exact wp_storeB A40 _ _ rfl g 0 (by simpa [Act.eval, e] using e3) s0.cells (by simpa [Act.eval, h12] using e12) rfl _ _ h (Nat.le_refl 8) (cells_one _) (fun w'' h1 h2 _ => hturn (.inr rfl) h h1 h2)
  case hfin =>
    intro x w5 hg hall hap
    simp only [RgAll, holds_eq, holds_new, holds_one, and_true] at hall
    obtain ⟨e9, e10, e11, e12, e13, e14, e15, _, g3, e3, hg3, hB3⟩ := hall
    simp only [rgDsts, List.take_succ_cons, List.take_zero, List.filterMap_cons, List.filterMap_nil, putMany, List.foldl_cons, List.foldl_nil, List.setIfInBounds_toArray, List.set_cons_succ, List.set_cons_zero, List.drop_succ_cons, List.drop_zero, e9, e10, e11, e12, e13, e14, e15, e3]
    clear e9 e10 e11 e12 e13 e14 e15 e3 hap
    have hB15 := hB1'.below (hgrow hg) (by omega)
    have hB25 := hB2.below (hgrow hg) (by omega)
    have hb5 : Below H w w5 := hbw.trans ((hgrow hg).mono (by omega))
    clear hB1' hB2 hbw hg c72 hgrow hRb hR
    have X : SC H g3 w hc s0.cells w5 := ⟨by omega, hB15, hB25, hB3, hb5⟩
    have HX := Lib.hid X
    obtain ⟨old, co⟩ := hcell_byte st r n at_ hr64 hat64
    rw [← HN.out.2.2.2.2.1, ← hB15.cell] at co
    have fo := hB15.frozen (8 + at_)
    clear X hB15 hB25 hb5 hB3
    have y0 : (0 : Int) ≤ (at_ : Int) := by omega
    have x0 : (at_ : Int) < 64 := by omega
    go_upto_if 20 with fail
    obtain ⟨w6, hw6⟩ : ∃ w6, w6 = w5.setCell ⟨H, 8 + at_, none⟩ (.int .u8 128) := ⟨_, rfl⟩
    rw [← hw6]
    obtain ⟨r1, hr1⟩ : ∃ r1, r1 = r.set at_ 0x80 := ⟨_, rfl⟩
    have hr1l : r1.length = 64 := by rw [hr1, List.length_set, hr64]
    have X6 : SC H g3 w (hcell st r1 n) s0.cells w6 := by
      have h := HX.out.set (8 + at_) (bv 0x80)
      rw [HN.out.2.2.2.2.1, hcell_setb st r n at_ 0x80 hr64 hat64, ← hr1] at h
      rw [hw6]; exact h
    have HX6 := Lib.hid X6
    have HR1 := Lib.hid hr1
    clear X6 hw6 hr1 HX co fo
    go_cut [] (fun wx => ∃ (s' : S8) (r' : List UInt8), r'.length = 64 ∧ sumf b = dig (blockf s' (r'.take 56 ++ be8 (8 * n)) 0) ∧ SC H g3 w (hcell st r' n) s'.cells wx)
    case first =>
      by_cases h56 : 56 ≤ at_
      · have h56' : (56 : Int) ≤ (at_ : Int) := by omega
        obtain ⟨s1, hs1⟩ : ∃ s1, s1 = blockf s0 r1 0 := ⟨_, rfl⟩
        have HS1 := Lib.hid hs1
        clear hs1
        go_wp2_with (first
          | (go_at_call 55; go_must (refine (block_any s0 r1 hr1l _).mono ?_); rintro e w9 ⟨he, hb9⟩; rw [← HS1.out] at he; subst he)
          | ((with_reducible show wpList _ _ _ (⟨some 21, _, _, _, _, _⟩ :: _) _ _); go_must (refine wpList_loadB (op := ⟨some 21, _, _, _, _, _⟩) A40 rfl _ rfl g3 0 rfl _ _ HX6.out.2.2.2.1 s0.cells rfl rfl ?_))
          | ((with_reducible show wpList _ _ _ (⟨some 23, _, _, _, _, _⟩ :: _) _ _); go_must (refine wpList_loadB (op := ⟨some 23, _, _, _, _, _⟩) A41 rfl _ rfl H 8 rfl _ _ HX6.out.2.1 (r1.map bv) (hcell_rest _ _ _ hr1l) (by rw [List.length_map, hr1l]; rfl) ?_))
          | ((with_reducible show wpList _ _ _ (⟨none, .store 40 _ _, _, _, _, _⟩ :: _) _ _); go_must (refine wpList_storeB (op := ⟨none, _, _, _, _, _⟩) A40 rfl _ _ rfl g3 0 rfl s1.cells rfl rfl _ _ (HX6.out.2.2.2.1.grow hb9) (Nat.le_refl 8) (cells_one _) ?_); intro w10 hB10 hg10 hz10)
          | ((with_reducible show wpList _ _ _ (⟨none, .store 41 _ _, _, _, _, _⟩ :: _) _ _); go_must (refine wpList_storeB (op := ⟨none, _, _, _, _, _⟩) A41 rfl _ _ rfl H 8 rfl (List.replicate 64 (bv 0)) (by rfl) rfl _ _ ((HX6.out.2.1.grow hb9).grown hg10 (by have := HX6.out.1; simp; omega)) (by rw [List.length_replicate, hcell_length _ _ _ hr1l]; omega) (by intro v hv; rw [List.eq_of_mem_replicate hv]; rfl) ?_); intro w11 hB11 hg11 hz11))
        have hz1 := HX6.out.1
        have hz2 := HX6.out.2.2.2.1.lt
        have hz3 := hb9.size
        have e1 := HX6.out.2.2.2.2.size
        rw [splice_all s0.cells s1.cells rfl] at hB10
        have e : List.replicate 64 (bv 0) = (List.replicate 64 (0 : UInt8)).map bv := by simp
        rw [e, hcell_all _ _ _ _ hr1l (by simp)] at hB11
        have X7 : SC H g3 w (hcell st (List.replicate 64 0) n) s1.cells w11 := by
          refine ⟨hz1, hB11, ((HX6.out.2.2.1.grow hb9).grown hg10 (by simp; omega)).grown hg11 (by simp), hB10.grown hg11 (by simp; omega), ?_⟩
          exact (((HX6.out.2.2.2.2.trans (hb9.mono (by omega))).grown hg10 (by omega) (fun j hj => by simp at hj; omega)).grown hg11 (by omega) (fun j hj => by simp at hj; omega))
        have X8 : sumf b = dig (blockf s1 ((List.replicate 64 0).take 56 ++ be8 (8 * n)) 0) := by
          rw [last_hi b (by rw [← HN.out.1, ← HN.out.2.1]; exact h56), HS1.out, HR1.out, HN.out.2.2.2.1, HN.out.2.2.2.2.2, HN.out.2.1, HN.out.1]
        simp only [Act.put]
        go_meet
        exact ⟨s1, List.replicate 64 0, by simp, X8, X7⟩
      · have h56' : (at_ : Int) < 56 := by omega
        go_wp2_with fail
        go_meet
        refine ⟨s0, r1, hr1l, ?_, HX6.out⟩
        rw [last_lo b (by rw [← HN.out.1, ← HN.out.2.1]; omega), HR1.out, HN.out.2.2.2.1, HN.out.2.2.2.2.2, HN.out.2.1, HN.out.1]
    case rest =>
    obtain ⟨s', r', hr', hsum, X⟩ := hcut
    have HX := Lib.hid X
    have HSUM := Lib.hid hsum
    clear X hsum HX6 HR1 hr1l y0 x0 m1
    go_wp2_with fail
    have hd8 := be8_length (8 * n)
    go_loopw [27] (fun v wr => ∃ i : Nat, i ≤ 8 ∧ v = .int .i64 i ∧ SC H g3 w (hcell st (fill8 r' (be8 (8 * n)) i) n) s'.cells wr)
      (fun v _ => 8 - (intOf v).toNat)
    case atStart => exact ⟨0, by omega, rfl, by rw [fill8_zero]; exact HX.out⟩
    case round =>
      clear HX
      obtain ⟨i, hi, rfl, X⟩ := hrel
      have hfl := fill8_length r' (be8 (8 * n)) i hr' hd8 hi
      by_cases hlt : i < 8
      -- A>
      · have c72 : wr.cell? ⟨H, 72, none⟩ = some (.int .i64 (n : Int)) := (X.2.1.cell 72).trans (hcell_72 _ _ _ hfl)
        obtain ⟨old, co⟩ := hcell_byte st (fill8 r' (be8 (8 * n)) i) n (56 + i) hfl (by omega)
        rw [← X.2.1.cell] at co
        have fo := X.2.1.frozen (8 + (56 + i))
        obtain ⟨bt, hbt⟩ : ∃ bt, bt = UInt8.ofNat (8 * n / 2 ^ (56 - 8 * i)) := ⟨_, rfl⟩
        have hget : (be8 (8 * n))[i]? = some bt := by rw [be8_get _ _ hlt, hbt]
        have hval : ((n : Int) * 8 / 2 ^ (56 - 8 * i) % 256) = (bt.toNat : Int) := by
          rw [hbt, UInt8.toNat_ofNat', Int.mul_comm]; simp
        obtain ⟨p, hp⟩ : ∃ p, p = 56 + i := ⟨_, rfl⟩
        rw [← hp] at co fo
        have a1 : 56 + (i : Int) = (p : Int) := by omega
        have HX := Lib.hid (And.intro X (And.intro hget hp))
        have y0 : (0 : Int) ≤ (i : Int) := by omega
        have x0 : (i : Int) < 8 := by omega
        have y1 : (0 : Int) ≤ (p : Int) := by omega
        have x1 : (p : Int) < 64 := by omega
        clear X hbt hget hp
        go_wp2
        have hend := HX.out.1.set (8 + p) (bv bt)
        rw [HX.out.2.2, hcell_setb st _ n (56 + i) bt hfl (by omega), fill8_set _ _ i bt hr' hd8 hlt HX.out.2.1, ← HX.out.2.2] at hend
        exact ⟨⟨i + 1, by omega, by go_num, hend⟩, by simp [intOf]; omega⟩
      -- <A
      · have hi8 : i = 8 := by omega
        rw [hi8, fill8_all _ _ hr' hd8] at X
        rw [hi8, fill8_all _ _ hr' hd8] at hfl
        clear hi8 hi
        obtain ⟨r2, hr2⟩ : ∃ r2, r2 = r'.take 56 ++ be8 (8 * n) := ⟨_, rfl⟩
        rw [← hr2] at X hfl
        obtain ⟨s2, hs2⟩ : ∃ s2, s2 = blockf s' r2 0 := ⟨_, rfl⟩
        have hsum := HSUM.out
        rw [← hr2, ← hs2] at hsum
        have HS2 := Lib.hid (And.intro hsum hs2)
        have HX := Lib.hid X
        clear X hsum hs2 hr2 HSUM hd8
        go_wp2_with (first
          | (go_at_call 55; go_must (refine (block_any s' r2 hfl _).mono ?_); rintro e w9 ⟨he, hb9⟩; rw [← HS2.out.2] at he; subst he)
          | ((with_reducible show wpList _ _ _ (⟨some 44, _, _, _, _, _⟩ :: _) _ _); go_must (refine wpList_loadB (op := ⟨some 44, _, _, _, _, _⟩) A40 rfl _ rfl g3 0 rfl _ _ HX.out.2.2.2.1 s'.cells rfl rfl ?_))
          | ((with_reducible show wpList _ _ _ (⟨some 46, _, _, _, _, _⟩ :: _) _ _); go_must (refine wpList_loadB (op := ⟨some 46, _, _, _, _, _⟩) A41 rfl _ rfl H 8 rfl _ _ HX.out.2.1 (r2.map bv) (hcell_rest _ _ _ hfl) (by rw [List.length_map, hfl]; rfl) ?_))
          | ((with_reducible show wpList _ _ _ (⟨none, .store 40 _ _, _, _, _, _⟩ :: _) _ _); go_must (refine wpList_storeB (op := ⟨none, _, _, _, _, _⟩) A40 rfl _ _ rfl g3 0 rfl s2.cells rfl rfl _ _ (HX.out.2.2.2.1.grow hb9) (Nat.le_refl 8) (cells_one _) ?_); intro w10 hB10 hg10 hz10; rw [splice_all s'.cells s2.cells rfl] at hB10)
          | ((with_reducible show wpList _ _ _ (⟨some 6, _, _, _, _, _⟩ :: _) _ _); go_must (refine wpList_allocB (op := ⟨some 6, _, _, _, _, _⟩) A30 rfl rfl w10.heap.size rfl ?_); intro w11 hB11 hb11 hz11)
          | ((with_reducible show wpList _ _ _ (⟨some 48, _, _, _, _, _⟩ :: _) _ _); go_must (refine wpList_loadB (op := ⟨some 48, _, _, _, _, _⟩) A40 rfl _ rfl g3 0 rfl _ _ (hB10.grow hb11) s2.cells rfl rfl ?_)))
        have X : ST H w9.heap.size w ((fillB (dig s2) (4 * 0) 32).map bv) w11 := by
          have z1 := HX.out.1
          have z2 := HX.out.2.2.2.1.lt
          have z3 := hb9.size
          have z4 := HX.out.2.2.2.2.size
          rw [Nat.mul_zero, fillB_none]
          have hB11' : Blk w11 w9.heap.size 30 (List.replicate 32 (bv 0)) := by rw [← hz10]; exact hB11
          refine ⟨by omega, ((HX.out.2.2.1.grow hb9).grown hg10 (by simp; omega)).grow hb11, hB11', ?_⟩
          exact ((HX.out.2.2.2.2.trans (hb9.mono (by omega))).grown hg10 (by omega) (fun j hj => by simp at hj; omega)).trans (hb11.mono (by omega))
        obtain ⟨g6, hg6⟩ : ∃ g, g = w9.heap.size := ⟨_, rfl⟩
        rw [← hg6] at X ⊢
        replace HX := Lib.hid X
        clear X hB10 hg10 hz10 hB11 hb11 hz11 hb9 hg6
        go_loopw [49] (fun v wr => ∃ i : Nat, i ≤ 8 ∧ v = .int .i64 i ∧ ST H g6 w ((fillB (dig s2) (4 * i) 32).map bv) wr)
          (fun v _ => 8 - (intOf v).toNat)
        case atStart => exact ⟨0, by omega, rfl, HX.out⟩
        case round =>
          clear HX
          obtain ⟨i, hi, rfl, X⟩ := hrel
          by_cases hlt : i < 8
          -- B>
          · have hidx := fun W => run_index8 s2 i hlt W
            obtain ⟨x, hx⟩ : ∃ x, x = s2.at_ i := ⟨_, rfl⟩
            rw [← hx] at hidx
            obtain ⟨p0, hp0⟩ : ∃ p, p = 4 * i + 0 := ⟨_, rfl⟩
            obtain ⟨p1, hp1⟩ : ∃ p, p = 4 * i + 1 := ⟨_, rfl⟩
            obtain ⟨p2, hp2⟩ : ∃ p, p = 4 * i + 2 := ⟨_, rfl⟩
            obtain ⟨p3, hp3⟩ : ∃ p, p = 4 * i + 3 := ⟨_, rfl⟩
            have g0 := dig_at s2 i 0 p0 hlt (by omega) hp0
            have g1 := dig_at s2 i 1 p1 hlt (by omega) hp1
            have g2 := dig_at s2 i 2 p2 hlt (by omega) hp2
            have g3' := dig_at s2 i 3 p3 hlt (by omega) hp3
            rw [← hx] at g0 g1 g2 g3'
            obtain ⟨b0, hb0⟩ : ∃ c, c = UInt8.ofNat (x.toNat / 2 ^ (24 - 8 * 0)) := ⟨_, rfl⟩
            obtain ⟨b1, hb1⟩ : ∃ c, c = UInt8.ofNat (x.toNat / 2 ^ (24 - 8 * 1)) := ⟨_, rfl⟩
            obtain ⟨b2, hb2⟩ : ∃ c, c = UInt8.ofNat (x.toNat / 2 ^ (24 - 8 * 2)) := ⟨_, rfl⟩
            obtain ⟨b3, hb3⟩ : ∃ c, c = UInt8.ofNat (x.toNat / 2 ^ (24 - 8 * 3)) := ⟨_, rfl⟩
            have v0 : (x.toNat : Int) / 16777216 % 256 = (b0.toNat : Int) := by rw [hb0, UInt8.toNat_ofNat']; simp
            have v1 : (x.toNat : Int) / 65536 % 256 = (b1.toNat : Int) := by rw [hb1, UInt8.toNat_ofNat']; simp
            have v2 : (x.toNat : Int) / 256 % 256 = (b2.toNat : Int) := by rw [hb2, UInt8.toNat_ofNat']; simp
            have v3 : (x.toNat : Int) % 256 = (b3.toNat : Int) := by rw [hb3, UInt8.toNat_ofNat']; simp
            rw [← hb0] at g0
            rw [← hb1] at g1
            rw [← hb2] at g2
            rw [← hb3] at g3'
            obtain ⟨o0, c0⟩ := fillB_at (dig s2) (4 * i) 32 p0 (dig_length s2) (by omega) (by omega)
            obtain ⟨o1, c1⟩ := fillB_at (dig s2) (4 * i) 32 p1 (dig_length s2) (by omega) (by omega)
            obtain ⟨o2, c2⟩ := fillB_at (dig s2) (4 * i) 32 p2 (dig_length s2) (by omega) (by omega)
            obtain ⟨o3, c3⟩ := fillB_at (dig s2) (4 * i) 32 p3 (dig_length s2) (by omega) (by omega)
            rw [← X.2.2.1.cell] at c0 c1 c2 c3
            have f0 := X.2.2.1.frozen p0
            have f1 := X.2.2.1.frozen p1
            have f2 := X.2.2.1.frozen p2
            have f3 := X.2.2.1.frozen p3
            have n0 : 4 * (i : Int) = (p0 : Int) := by omega
            have n1 : (p0 : Int) + 1 = (p1 : Int) := by omega
            have n2 : (p0 : Int) + 2 = (p2 : Int) := by omega
            have n3 : (p0 : Int) + 3 = (p3 : Int) := by omega
            have d1 : p0 ≠ p1 := by omega
            have d2 : p0 ≠ p2 := by omega
            have d3 : p0 ≠ p3 := by omega
            have d4 : p1 ≠ p2 := by omega
            have d5 : p1 ≠ p3 := by omega
            have d6 : p2 ≠ p3 := by omega
            have y0 : (0 : Int) ≤ (i : Int) := by omega
            have x0 : (i : Int) < 8 := by omega
            have yp0 : (0 : Int) ≤ (p0 : Int) := by omega
            have yp1 : (0 : Int) ≤ (p1 : Int) := by omega
            have yp2 : (0 : Int) ≤ (p2 : Int) := by omega
            have yp3 : (0 : Int) ≤ (p3 : Int) := by omega
            have xp0 : (p0 : Int) < 32 := by omega
            have xp1 : (p1 : Int) < 32 := by omega
            have xp2 : (p2 : Int) < 32 := by omega
            have xp3 : (p3 : Int) < 32 := by omega
            have HX := Lib.hid (And.intro X (And.intro (And.intro hp0 (And.intro hp1 (And.intro hp2 hp3))) (And.intro g0 (And.intro g1 (And.intro g2 g3')))))
            clear X hx hp0 hp1 hp2 hp3 g0 g1 g2 g3' hb0 hb1 hb2 hb3
            go_wp2
            obtain ⟨X, ⟨hp0, hp1, hp2, hp3⟩, g0, g1, g2, g3'⟩ := HX.out
            rw [Nat.add_zero] at hp0
            have dl := dig_length s2
            have hend := (((X.set p0 (bv b0)).set p1 (bv b1)).set p2 (bv b2)).set p3 (bv b3)
            rw [fill4 (dig s2) i p0 p1 p2 p3 b0 b1 b2 b3 dl hlt hp0 hp1 hp2 hp3 g0 g1 g2 g3'] at hend
            exact ⟨⟨i + 1, by omega, by go_num, hend⟩, by simp [intOf]; omega⟩
          -- <B
          · have hi8 : i = 8 := by omega
            rw [hi8, fillB_full _ _ (dig_length s2)] at X
            clear hi8
            obtain ⟨d, hd⟩ : ∃ d, d = (dig s2).map bv := ⟨_, rfl⟩
            have hdl : d.length = (List.replicate 32 (bv 0)).length := by rw [hd]; simp [dig_length]
            have hd1 : ∀ v ∈ d, v.oneCell' = true := by rw [hd]; exact bytes_oneCell _
            rw [← hd] at X
            have HD := Lib.hid hd
            clear hd
            obtain ⟨h1, h2, h3, h4⟩ := X
            go_wp2_with (first
              | ((with_reducible show wpList _ _ _ (⟨some 80, _, _, _, _, _⟩ :: _) _ _); go_must (refine wpList_loadB (op := ⟨some 80, _, _, _, _, _⟩) A30 rfl _ rfl g6 0 rfl _ _ h3 d ((congrArg (List.take _) List.drop_zero).trans (List.take_of_length_le (Nat.le_of_eq hdl))) hdl ?_))
              | ((with_reducible show wpList _ _ _ (⟨none, .store 30 _ _, _, _, _, _⟩ :: _) _ _); go_must (refine wpList_storeB (op := ⟨none, _, _, _, _, _⟩) A30 rfl _ _ rfl (H + 1) 0 rfl d rfl hdl _ _ h2 (Nat.le_of_eq ((Nat.zero_add _).trans hdl)) hd1 ?_); intro w20 hB20 hgr20 _))
            rw [splice_all _ _ hdl] at hB20
            refine ret_cell A30 Tryd.results27 (H + 1) rfl _ d hB20 hdl rfl ⟨by rw [HD.out, HS2.out.1], ?_⟩
            exact h4.grown hgr20 (by have := h2.lt; omega) (fun j hj => by simp at hj; omega)
end Go.Proofs.YtoemceehmiaigaaDoor.Sha
