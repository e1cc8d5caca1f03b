/- weirlaw04.ShaNested: the walk. -/
import Derived.Test.YtoemceehmiaigaaDoorShaMac5
import Derived.Test.YtoemceehmiaigaaDoorLawSums
import Derived.Test.YtoemceehmiaigaaDoorShaAid
import Derived.Deep.DeepCutAuto
import Derived.Lib.SmallJoins
namespace Go.Proofs.YtoemceehmiaigaaDoor.LawNested
open Go.RowKit Go.Proofs.YtoemceehmiaigaaDoor.Mem Go.Proofs.YtoemceehmiaigaaDoor.Loan Go.Proofs.YtoemceehmiaigaaDoor.Sha Go.Proofs.YtoemceehmiaigaaDoor.LawSums
set_option linter.unusedVariables false

theorem run_make1 {P : Program} {t e : TypeId} {z : Value} {by_ : Nat} (E : Elt P t e [z] by_) {ρ : Operand → Value} {w : World} {o : Oper} (l c : Operand) (hop : o.op = Op.makeSlice t l c) (kl kc : IntKind) (L C : Int) (n : Nat) (hl : ρ l = .int kl L) (hc : ρ c = .int kc C) (hL : L = (n : Int)) (hC : C = (n : Int))
    (hb : by_ * n ≤ 281474976710656) (h63 : n ≤ maxLen) :
    (execOp ρ o).run P w = .ok (.value (.slice (some ⟨w.heap.size, 0, none⟩) n n)) (w.alloc (.cells (List.replicate n z).toArray e)) := by
  obtain ⟨i, z', hi, hz, hs, hby, hcs⟩ := E.inf
  subst hL hC
  have hb' : (i.bytes : Int) * (n : Int) ≤ 281474976710656 := by
    have h : ((i.bytes * n : Nat) : Int) ≤ 281474976710656 := by rw [hby]; omega
    rwa [Int.natCast_mul] at h
  have hrun := run_make (P := P) w t e i z' E.und hi hz kl kc n n (by omega) (Int.le_refl _) hb' (by unfold maxLen at h63; omega)
  simp only [Int.toNat_natCast] at hrun
  have he : (madeCells z'.cells (n * i.size)) = (List.replicate n z).toArray := by
    rw [hcs, hs]
    have := toList_madeCells_one z n
    simp only [List.length_singleton, Nat.mul_one]
    rw [← this]
  rw [← he]
  simp [execOp, hop, hl, hc, hrun, Result.andThen]

theorem own_cap {w : World} {B : Nat} {e : TypeId} {size n : Nat} {v : Value} {xs : List Value} (h : w.ownsRow B e size v n xs) : ∃ A c, v = .slice A n c ∧ n ≤ c := by
  rcases h.2 with ⟨rfl, rfl⟩ | ⟨g, cap, cur, rfl, _, _, hc, _⟩
  · exact ⟨_, _, rfl, Nat.le_refl _⟩
  · exact ⟨_, _, rfl, hc⟩

/-- the key with noughts behind it, and the key's digest, are the same key -/
theorem keyOf_short (q : List UInt8) (p : Nat) (h : q.length + p ≤ 64) : Sha.keyOf (q ++ List.replicate p 0) = q ++ List.replicate (64 - q.length) 0 := by
  have e : shortK (q ++ List.replicate p 0) = q ++ List.replicate p 0 := by unfold shortK; rw [if_neg (by simp; omega)]
  unfold Sha.keyOf
  rw [e, List.append_assoc, List.replicate_append_replicate, List.length_append, List.length_replicate]
  congr 2
  omega
theorem hmac_wide (k m : List UInt8) (p : Nat) (h : (shortK k).length + p ≤ 64) : hmacf (shortK k ++ List.replicate p 0) m = hmacf k m := by
  unfold hmacf
  rw [keyOf_short _ _ h]
  rfl
theorem hmac_short (k m : List UInt8) : hmacf (shortK k) m = hmacf k m := by
  have := hmac_wide k m 0 (by have := shortK_length k; omega)
  simpa using this

/-- the rows in and out while they are filled -/
structure NX (w0 : World) (g1 g2 : Nat) (d1 d2 : List UInt8) (i : Nat) (W : World) : Prop where
  b1 : Blk W g1 5 ((fillB d1 i 64).map bv)
  b2 : Blk W g2 5 ((fillB d2 i 64).map bv)
  low : Below w0.heap.size w0 W
  ne : g1 ≠ g2 ∧ w0.heap.size ≤ g1 ∧ w0.heap.size ≤ g2
theorem NX.set {w0 W : World} {g1 g2 : Nat} {d1 d2 : List UInt8} {i : Nat} (h : NX w0 g1 g2 d1 d2 i W) (h1 : d1.length = 64) (h2 : d2.length = 64) (hi : i < 64) (x y : UInt8) (hx : d1[i]? = some x) (hy : d2[i]? = some y) :
    NX w0 g1 g2 d1 d2 (i + 1) ((W.setCell ⟨g1, i, none⟩ (bv x)).setCell ⟨g2, i, none⟩ (bv y)) := by
  obtain ⟨n1, n2, n3⟩ := h.ne
  have b1 := (h.b1.set_ i (bv x)).far (p := ⟨g2, i, none⟩) n1 (bv y)
  have b2 := (h.b2.far (p := ⟨g1, i, none⟩) (Ne.symm n1) (bv x)).set_ i (bv y)
  rw [fillB_set d1 i 64 x h1 hi hx] at b1
  rw [fillB_set d2 i 64 y h2 hi hy] at b2
  exact ⟨b1, b2, gs (gs h.low n2 _) n3 _, n1, n2, n3⟩

set_option maxHeartbeats 3200000 in
set_option maxRecDepth 40000 in
theorem law_any (A : Option Addr) (c : Nat) (k : List UInt8) (B : Option Addr) (cb : Nat) (m : List UInt8) (z : Int) (w : World) (ha : RB w A k) (hca : k.length ≤ c) (hb : RB w B m) (hcb : m.length ≤ cb) (hlk : k.length ≤ 1048576) (hlm : m.length ≤ 1048576)
    (hz : -9223372036854775808 ≤ z ∧ z ≤ 9223372036854775807) (hG : GB w) :
    Calls Tryd.prog 9 #[.slice A k.length c, .slice B m.length cb, .int .i64 z] w fun e w' => e = .returned (.bool true) ∧ Below w.heap.size w w' := by
  have HA := Lib.hid (And.intro ha hca)
  have HB := Lib.hid (And.intro hb hcb)
  have HG := Lib.hid hG
  have HZ := Lib.hid hz
  obtain ⟨N, hN⟩ : ∃ N, N = k.length := ⟨_, rfl⟩
  obtain ⟨M, hM⟩ : ∃ M, M = m.length := ⟨_, rfl⟩
  rw [← hN] at hlk ⊢
  rw [← hM] at hlm ⊢
  have HN := Lib.hid hN
  have HM := Lib.hid hM
  clear ha hca hb hcb hz hG hN hM
  have hidx := abc_index
  have kc := fun (w : World) (C : Array Value) (n c : Nat) => Lib.run_convert_bytes_const (P := Tryd.prog) w 32 5 C n c Tryd.underlying32 Tryd.underlying5
  obtain ⟨d0, hd0⟩ : ∃ d, d = (sumf [97, 98, 99]).map bv := ⟨_, rfl⟩
  rw [← hd0] at hidx
  have HD0 := Lib.hid hd0
  clear hd0
  have hNN : (N : Int) ≤ 1048576 := by omega
  go_enter Tryd.func9, Tryd.ntmps9
  go_upto_if 24 with (first
    | (go_at_call 19; go_must (refine (psum_any [97, 98, 99] _ _ _ ((rvm_new w [bv 97, bv 98, bv 99] _ _).rb' [97, 98, 99] rfl) (by decide) (by decide) (HG.out.grow (ga (gr w) _))).mono ?_); rintro e w1 ⟨he, hb1⟩; rw [← HD0.out] at he; subst he))
  have hb0 : Below w.heap.size w w1 := gt (ga (gr w) _) hb1
  have HX := Lib.hid hb0
  clear hb0 hb1 kc hidx HD0
  go_cut [7] (fun v wx => ∃ K n cK, v = .slice K n cK ∧ n = (shortK k).length ∧ n ≤ cK ∧ RB wx K (shortK k) ∧ Below w.heap.size w wx)
  case first =>
    by_cases hbig : 64 < N
    · have hbig' : (64 : Int) < (N : Int) := by omega
      have hqs : shortK k = sumf k := by unfold shortK; rw [if_pos (by have := HN.out; omega)]
      obtain ⟨d, hd⟩ : ∃ d, d = (sumf k).map bv := ⟨_, rfl⟩
      have k1 : d.length = (List.replicate 32 (bv 0)).length := by rw [hd, List.length_map, sumf_length]; simp
      have p1 : ∀ v ∈ d, v.oneCell' = true := by rw [hd]; exact bytes_oneCell _
      have HD := Lib.hid (And.intro hd hqs)
      clear hbig hd hqs
      go_wp2_with (first
        | (go_at_call 19; go_must (refine (psum_n k A N c _ HN.out (HA.out.1.below HX.out) (by have := HA.out.2; have := HN.out; omega) (by omega) (HG.out.grow HX.out)).mono ?_); rintro e w3 ⟨he, hb3⟩; rw [← HD.out.1] at he; subst he)
        | ((with_reducible show wpList _ _ _ (⟨some 8, _, _, _, _, _⟩ :: _) _ _); go_must (refine wpList_allocB (op := ⟨some 8, _, _, _, _, _⟩) A30 rfl rfl w3.heap.size rfl ?_); intro w4 hBw4 hbw4 hzw4)
        | ((with_reducible show wpList _ _ _ (⟨none, .store 30 (.tmp 8) _, _, _, _, _⟩ :: _) _ _); go_must (refine wpList_storeB (op := ⟨none, _, _, _, _, _⟩) A30 rfl _ _ rfl w3.heap.size 0 rfl d rfl k1 _ _ hBw4 (Nat.le_of_eq ((Nat.zero_add _).trans k1)) p1 ?_); intro w5 hBw5 hgw5 hzw5; rw [splice_all _ _ k1] at hBw5))
      go_meet
      have h15 : Below w1.heap.size w1 w5 := gst hb3 hbw4 hgw5 hb3.size
      rw [HD.out.1, ← HD.out.2] at hBw5
      exact ⟨some ⟨w3.heap.size, 0, none⟩, 32, 32, rfl, by rw [HD.out.2, sumf_length], Nat.le_refl _, hBw5.rv.rb, gt HX.out h15⟩
    · have hbig' : ¬ (64 : Int) < (N : Int) := by omega
      go_wp2_with fail
      go_meet
      have hqs : shortK k = k := by unfold shortK; rw [if_neg (by have := HN.out; omega)]
      exact ⟨A, N, c, rfl, by rw [hqs]; exact HN.out, by have := HA.out.2; have := HN.out; omega, by rw [hqs]; exact HA.out.1.below HX.out, HX.out⟩
  case rest =>
    clear HX
    obtain ⟨K, n, cK, rfl, hn, hcK, hrK, hlo⟩ := hcut
    obtain ⟨d1, hd1⟩ : ∃ d, d = padK (Sha.keyOf k) 0x36 := ⟨_, rfl⟩
    obtain ⟨d2, hd2⟩ : ∃ d, d = padK (Sha.keyOf k) 0x5C := ⟨_, rfl⟩
    have hl1 : d1.length = 64 := by rw [hd1, padK_length, keyOf_length]
    have hl2 : d2.length = 64 := by rw [hd2, padK_length, keyOf_length]
    obtain ⟨q, hq⟩ : ∃ q, q = shortK k := ⟨_, rfl⟩
    have hq64 : q.length ≤ 64 := by rw [hq]; exact shortK_length k
    rw [← hq] at hn hrK
    have HN' := Lib.hid hn
    have HK := Lib.hid hrK
    have HL := Lib.hid hlo
    have hn64 : n ≤ 64 := by omega
    have in1 : ∀ i, (h : i < q.length) → d1[i]? = some (q[i] ^^^ 0x36) ∧ d2[i]? = some (q[i] ^^^ 0x5C) := by
      intro i h
      have hk : (Sha.keyOf k)[i]? = some q[i] := by unfold Sha.keyOf; rw [← hq, List.getElem?_append_left h, List.getElem?_eq_getElem h]
      rw [hd1, hd2]
      simp [padK, hk]
    have in2 : ∀ i, q.length ≤ i → i < 64 → d1[i]? = some 0x36 ∧ d2[i]? = some 0x5C := by
      intro i h h64
      have hk : (Sha.keyOf k)[i]? = some 0 := by unfold Sha.keyOf; rw [← hq, List.getElem?_append_right h, List.getElem?_replicate, if_pos (by omega)]
      rw [hd1, hd2]
      simp [padK, hk]
    have HI := Lib.hid (And.intro in1 in2)
    have HD := Lib.hid (And.intro hd1 (And.intro hd2 hq))
    have HL1 := Lib.hid (And.intro hl1 hl2)
    clear hn hrK hlo in1 in2 hd1 hd2 hq hl1 hl2 hq64
    have hnn : (n : Int) ≤ 64 := by omega
    go_upto_region 7 with fail
    refine wp_region_rrT (fun a b => Below a.heap.size a b) (fun _ _ _ h g => gt h g) (fun _ _ h => h.size) (fun a => (gr a).drew) 3
      [.new 28 (fun v W => ∃ g, v = .slice (some ⟨g, 0, none⟩) 64 64 ∧ wc.heap.size ≤ g ∧ Blk W g 5 (List.replicate 64 (.int .u8 0))),
       .new 29 (fun v W => ∃ g, v = .slice (some ⟨g, 0, none⟩) 64 64 ∧ wc.heap.size ≤ g ∧ Blk W g 5 (List.replicate 64 (.int .u8 0))),
       ⟨[28, 9], fun vs _ => ∃ v, vs = [v, v], false⟩]
      (by kernel_rfl) (by kernel_rfl) (by kernel_rfl) (by kernel_rfl) ?hst ?hob ?hfin
    case hst =>
      intro s hs
      simp only [List.mem_cons, List.not_mem_nil, or_false] at hs
      rcases hs with rfl | rfl | rfl
      · rintro vs w1 w2 ⟨v, rfl, g, rfl, hg, h⟩ hb
        exact ⟨_, rfl, g, rfl, hg, h.grow hb⟩
      · rintro vs w1 w2 ⟨v, rfl, g, rfl, hg, h⟩ hb
        exact ⟨_, rfl, g, rfl, hg, h.grow hb⟩
      · exact fun _ _ _ h _ => h
    case hob =>
      simp only [List.take_succ_cons, List.take_zero]
      refine rrs_cons ?_ (rrs_cons ?_ (rrs_cons ?_ rrs_nil))
      · refine rr_val (by decide) (by rfl) fun x w' A hg hp hA => ⟨_, _, run_make1 (t := 32) E8 (o := ⟨some 28, _, _, _, _, _⟩) _ _ rfl .i64 .i64 64 64 64 rfl rfl rfl rfl (by decide) (by decide), ga (gr _) _, ?_, ?_⟩
        · simp
          have := hg.size
          exact ⟨by omega, Blk.new w' _ _⟩
        · simp [blockOf]
      · refine rr_val (by decide) (by rfl) fun x w' A hg hp hA => ⟨_, _, run_make1 (t := 32) E8 (o := ⟨some 29, _, _, _, _, _⟩) _ _ rfl .i64 .i64 64 64 64 rfl rfl rfl rfl (by decide) (by decide), ga (gr _) _, ?_, ?_⟩
        · simp
          have := hg.size
          exact ⟨by omega, Blk.new w' _ _⟩
        · simp [blockOf]
      · refine rr_val (by decide) (by rfl) fun x w' A hg hp hA => ⟨x 28, w', ?_, gr _, ?_, ?_⟩
        · have e28 := hA 28
          simp [rgDsts] at e28
          go_simp
        · simp [Sp.holds, rgUpd]
        · simp [Sp.own]
    case hfin =>
    intro x w4 hg hall hap
    simp only [RgAll, holds_eq, holds_new, and_true] at hall
    obtain ⟨⟨g1, e28, hg1, hB1⟩, ⟨g2, e29, hg2, hB2⟩, e9⟩ := hall
    simp [Sp.holds] at e9
    rw [e28] at e9
    simp [RgApart, Sp.own, Sp.new, e28, e29, blockOf] at hap
    simp only [rgDsts, List.take_succ_cons, List.take_zero, List.filterMap_cons, List.filterMap_nil, putMany, List.foldl_cons, List.foldl_nil, List.setIfInBounds_toArray, List.set_cons_succ, List.set_cons_zero, List.drop_succ_cons, List.drop_zero, e28, e29, e9]
    clear e28 e29 e9
    have X : NX wc g1 g2 d1 d2 0 w4 := by
      refine ⟨?_, ?_, hg, by first | exact hap | exact (fun h => hap h.symm) | omega, hg1, hg2⟩
      · rw [fillB_none]; exact hB1
      · rw [fillB_none]; exact hB2
    have HX := Lib.hid X
    clear X hap hB1 hB2 hg hg1 hg2
    go_upto_region 8 with fail
    go_wp2_with fail
    go_loopw [30] (fun v wr => ∃ i : Nat, i ≤ 64 ∧ v = .int .i64 i ∧ NX wc g1 g2 d1 d2 i wr) (fun v _ => 64 - (intOf v).toNat)
    case atStart => exact ⟨0, by omega, rfl, HX.out⟩
    case round =>
      clear HX
      obtain ⟨i, hi, rfl, X⟩ := hrel
      have HX := Lib.hid X
      have B1 := X.b1
      have B2 := X.b2
      obtain ⟨n1, n2, n3⟩ := X.ne
      by_cases hlt : i < 64
      -- A>
      · have x0 : (i : Int) < 64 := by omega
        have y0 : (0 : Int) ≤ (i : Int) := by omega
        have f1 := B1.frozen i
        obtain ⟨old1, c1⟩ := B1.at_ (i := i) (by rw [List.length_map, fillB_length _ _ _ HL1.out.1 hi]; exact hlt)
        by_cases hin : i < n
        · have x1 : (i : Int) < (n : Int) := by omega
          have hiq : i < q.length := by have := HN'.out; omega
          obtain ⟨ad, hA, c0⟩ := (HK.out.below X.low) i hiq
          obtain ⟨u, hu⟩ : ∃ u, u = q[i] := ⟨_, rfl⟩
          have I := HI.out.1 i hiq
          rw [← hu] at c0 I
          subst hA
          have HE := Lib.hid (X.set HL1.out.1 HL1.out.2 hlt _ _ I.1 I.2)
          have v1 : bits .xor .u8 (u.toNat : Int) 54 = ((u ^^^ 0x36).toNat : Int) := xor_b u 0x36
          have v2 : bits .xor .u8 (u.toNat : Int) 92 = ((u ^^^ 0x5C).toNat : Int) := xor_b u 0x5C
          obtain ⟨s1, hs1⟩ : ∃ s, s = u ^^^ 0x36 := ⟨_, rfl⟩
          obtain ⟨s2, hs2⟩ : ∃ s, s = u ^^^ 0x5C := ⟨_, rfl⟩
          rw [← hs1] at v1 HE
          rw [← hs2] at v2 HE
          obtain ⟨old2, c2⟩ := (B2.far (p := ⟨g1, i, none⟩) (Ne.symm n1) (.int .u8 (s1.toNat : Int))).at_ (i := i) (by rw [List.length_map, fillB_length _ _ _ HL1.out.2 hi]; exact hlt)
          have f2 := (B2.far (p := ⟨g1, i, none⟩) (Ne.symm n1) (.int .u8 (s1.toNat : Int))).frozen i
          have c0' : wr.cell? (ad.add i) = some (.int .u8 (u.toNat : Int)) := c0
          clear hu hs1 hs2 I c0 X B1 B2 hlt hin hiq HX
          go_wp2
          exact ⟨⟨i + 1, by omega, by go_num, HE.out⟩, by simp [intOf]; omega⟩
        · have x1 : ¬ (i : Int) < (n : Int) := by omega
          have I := HI.out.2 i (by have := HN'.out; omega) hlt
          have HE := Lib.hid (X.set HL1.out.1 HL1.out.2 hlt _ _ I.1 I.2)
          obtain ⟨old2, c2⟩ := (B2.far (p := ⟨g1, i, none⟩) (Ne.symm n1) (.int .u8 54)).at_ (i := i) (by rw [List.length_map, fillB_length _ _ _ HL1.out.2 hi]; exact hlt)
          have f2 := (B2.far (p := ⟨g1, i, none⟩) (Ne.symm n1) (.int .u8 54)).frozen i
          have v1 : bits .xor .u8 0 54 = 54 := by decide
          have v2 : bits .xor .u8 0 92 = 92 := by decide
          clear I X B1 B2 hlt hin HX
          go_wp2
          exact ⟨⟨i + 1, by omega, by go_num, HE.out⟩, by simp [intOf]; omega⟩
      -- <A
      · obtain rfl : i = 64 := by omega
        clear hlt HX
        have b1 := X.b1
        have b2 := X.b2
        rw [fillB_full _ _ HL1.out.1] at b1
        rw [fillB_full _ _ HL1.out.2] at b2
        have hlow : Below wc.heap.size wc wr := X.low
        obtain ⟨e1, e2, e3⟩ := X.ne
        have own1 : wr.ownsRow wc.heap.size 5 1 (.slice (some ⟨g1, 0, none⟩) 64 64) 64 (d1.map bv) := by
          have h := b1.own (base := wc.heap.size) e2 (by rw [List.length_map, HL1.out.1]; decide)
          rwa [List.length_map, HL1.out.1] at h
        obtain ⟨s1, hs1⟩ : ∃ s, s = sumf (d1 ++ m) := ⟨_, rfl⟩
        obtain ⟨s2, hs2⟩ : ∃ s, s = sumf (d2 ++ s1) := ⟨_, rfl⟩
        have hs2' : s2 = hmacf k m := by rw [hs2, hs1, HD.out.1, HD.out.2.1]; rfl
        obtain ⟨D1, hD1⟩ : ∃ s, s = s1.map bv := ⟨_, rfl⟩
        obtain ⟨D2, hD2⟩ : ∃ s, s = s2.map bv := ⟨_, rfl⟩
        have k1 : D1.length = (List.replicate 32 (bv 0)).length := by rw [hD1, List.length_map, hs1, sumf_length]; simp
        have k2 : D2.length = (List.replicate 32 (bv 0)).length := by rw [hD2, List.length_map, hs2, sumf_length]; simp
        have p1 : ∀ v ∈ D1, v.oneCell' = true := by rw [hD1]; exact bytes_oneCell _
        have p2 : ∀ v ∈ D2, v.oneCell' = true := by rw [hD2]; exact bytes_oneCell _
        have HS := Lib.hid (And.intro hs1 (And.intro hs2 (And.intro hD1 (And.intro hD2 hs2'))))
        have HW := Lib.hid hlow
        have HB1 := Lib.hid own1
        have HB2 := Lib.hid b2
        have z0 := HL.out.size
        clear hs1 hs2 hD1 hD2 hs2' X b1 b2 B1 B2 own1 hlow hi n1 n2 n3
        go_upto_region 17 with (first
          | (go_at_call 19; go_must (refine (psum_n (d1 ++ m) A1 (64 + M) c1 _ (by rw [List.length_append, HL1.out.1, HM.out]) (own_rb' (by rw [List.map_append]; exact hv1)) hc1 (by omega) (HG.out.grow (gt HL.out hlowa))).mono ?_); rintro e w5 ⟨he, hb5⟩; rw [← HS.out.1, ← HS.out.2.2.1] at he; subst he)
          | ((with_reducible show wpList _ _ _ (⟨some 54, _, _, _, _, _⟩ :: _) _ _); go_must (refine wpList_app E8 rfl (.tmp 52) (.tmp 53) rfl wc.heap.size _ 64 (d1.map bv) rfl HB1.out B M cb (m.map bv) rfl (HB.out.1.below (gt HL.out HW.out)).rv (by simp [HM.out]) (bytes_oneCell m) (by unfold maxLen; omega) (by omega) HW.out.size ?_); intro v1 wa hv1 hga hoa; have hlowa := below_own HW.out HB1.out hga HW.out.size; obtain ⟨A1, c1, rfl, hc1⟩ := own_cap hv1)
          | ((with_reducible show wpList _ _ _ (⟨some 13, _, _, _, _, _⟩ :: _) _ _); go_must (refine wpList_allocB (op := ⟨some 13, _, _, _, _, _⟩) A30 rfl rfl w5.heap.size rfl ?_); intro w6 hB6 hb6 hz6)
          | ((with_reducible show wpList _ _ _ (⟨none, .store 30 (.tmp 13) _, _, _, _, _⟩ :: _) _ _); go_must (refine wpList_storeB (op := ⟨none, _, _, _, _, _⟩) A30 rfl _ _ rfl w5.heap.size 0 rfl D1 rfl k1 _ _ hB6 (Nat.le_of_eq ((Nat.zero_add _).trans k1)) p1 ?_); intro w7 hB7 hg7 hz7; rw [splice_all _ _ k1] at hB7))
        have h57 : Below wa.heap.size wa w7 := gst hb5 hb6 hg7 hb5.size
        have hb2 : Blk w7 g2 5 (d2.map bv) := (HB2.out.grown (show wr.grownBy wa (some g1) from hga) (fun e => e1 (by injection e with e; exact e.symm))).grow h57
        have own2 : w7.ownsRow wc.heap.size 5 1 (.slice (some ⟨g2, 0, none⟩) 64 64) 64 (d2.map bv) := by
          have h := hb2.own (base := wc.heap.size) e3 (by rw [List.length_map, HL1.out.2]; decide)
          rwa [List.length_map, HL1.out.2] at h
        have hlow7 : Below wc.heap.size wc w7 := gt hlowa h57
        obtain ⟨b13, hb13⟩ : ∃ b, b = w5.heap.size := ⟨_, rfl⟩
        rw [← hb13] at hB7 ⊢
        replace HW := Lib.hid hlow7
        replace HB1 := Lib.hid own2
        replace HB2 := Lib.hid hB7
        clear h57 hb2 own2 hlow7 hb13 hB7 hb5 hB6 hb6 hz6 hg7 hz7 hv1 hga hoa hc1 hlowa
        go_upto_region 18 with (first
          | (go_at_call 19; go_must (refine (psum_n (d2 ++ s1) A2 (64 + 32) c2 _ (by rw [List.length_append, HL1.out.2, HS.out.1, sumf_length]) (own_rb' (by rw [List.map_append, ← HS.out.2.2.1]; exact hv2)) hc2 (by omega) (HG.out.grow (gt HL.out hlowb))).mono ?_); rintro e w8 ⟨he, hb8⟩; rw [← HS.out.2.1, ← HS.out.2.2.2.1] at he; subst he)
          | ((with_reducible show wpList _ _ _ (⟨some 58, _, _, _, _, _⟩ :: _) _ _); go_must (refine wpList_app E8 rfl (.tmp 56) (.tmp 57) rfl wc.heap.size _ 64 (d2.map bv) rfl HB1.out (some ⟨b13, 0, none⟩) 32 32 D1 rfl HB2.out.rv (by rw [k1]; simp) p1 (by unfold maxLen; omega) (by omega) HW.out.size ?_); intro v2 wb hv2 hgb hob; have hlowb := below_own HW.out HB1.out hgb HW.out.size; obtain ⟨A2, c2, rfl, hc2⟩ := own_cap hv2)
          | ((with_reducible show wpList _ _ _ (⟨some 14, _, _, _, _, _⟩ :: _) _ _); go_must (refine wpList_allocB (op := ⟨some 14, _, _, _, _, _⟩) A30 rfl rfl w8.heap.size rfl ?_); intro w9 hB9 hb9 hz9)
          | ((with_reducible show wpList _ _ _ (⟨none, .store 30 (.tmp 14) _, _, _, _, _⟩ :: _) _ _); go_must (refine wpList_storeB (op := ⟨none, _, _, _, _, _⟩) A30 rfl _ _ rfl w8.heap.size 0 rfl D2 rfl k2 _ _ hB9 (Nat.le_of_eq ((Nat.zero_add _).trans k2)) p2 ?_); intro w10 hB10 hg10 hz10; rw [splice_all _ _ k2] at hB10))
        have h810 : Below wb.heap.size wb w10 := gst hb8 hb9 hg10 hb8.size
        have hlow10 : Below wc.heap.size wc w10 := gt hlowb h810
        obtain ⟨b14, hb14⟩ : ∃ b, b = w8.heap.size := ⟨_, rfl⟩
        rw [← hb14] at hB10 ⊢
        have hKw : RB w10 K q := HK.out.below hlow10
        replace HW := Lib.hid hlow10
        replace HB1 := Lib.hid hKw
        replace HB2 := Lib.hid hB10
        clear h810 hlow10 hb14 hB10 hKw hb8 hB9 hb9 hz9 hg10 hz10 hv2 hgb hob hc2 hlowb


        have hneq : ∀ W, (binOp .neq 30 (.agg D2.toArray) (.agg D2.toArray)).run Tryd.prog W = .ok (.bool false) W := fun W => by rw [HS.out.2.2.2.1, HS.out.2.1]; exact dig_eql _ W
        have heqi : ∀ W, (Op.equalIn 10000 30 (.agg D2.toArray) (.agg D2.toArray)).run Tryd.prog W = .ok true W := fun W => by rw [HS.out.2.2.2.1, HS.out.2.1]; exact dig_eqi _ W
        simp only [Act.put, List.setIfInBounds_toArray, List.set_cons_succ, List.set_cons_zero]
        refine wp_region_qb (by kernel_rfl) (by kernel_rfl) ?_
        go_big_quiet_step (fail)
        go_big_quiet_step (fail)
        refine wq_call (f := 34) (args := #[.slice A N c, .slice B M cb]) (v := .agg D2.toArray) rfl (fun w' _ => by go_simp) (fun w' hC => ?_) ?_
        · have hlow : Below w.heap.size w w' := gt (gt HL.out HW.out) hC
          rw [HS.out.2.2.2.1, HS.out.2.2.2.2]
          exact phmac_any k m A B N M c cb w' HN.out HM.out (HA.out.1.below hlow) (HB.out.1.below hlow) (by have := HA.out.2; have := HN.out; omega) (by have := HB.out.2; have := HM.out; omega) (by omega) (by omega) (HG.out.grow hlow)
        simp only [Act.put, List.setIfInBounds_toArray, List.set_cons_succ, List.set_cons_zero]
        refine wq_loadB (o := ⟨some 63, _, _, _, _, _⟩) A30 rfl _ rfl b14 0 rfl _ _ (fun w' hC => From.blk hC HB2.out) D2 (full k2) k2 ?_
        simp only [Act.put, List.setIfInBounds_toArray, List.set_cons_succ, List.set_cons_zero]
        refine wq_val (o := ⟨some 64, _, _, _, _, _⟩) (v := .bool false) rfl (fun w' _ => by go_simp) ?_
        simp only [Act.put, List.setIfInBounds_toArray, List.set_cons_succ, List.set_cons_zero]
        go_big_quiet_step (fail)
        go_big_quiet_step (fail)
        go_big_quiet_step (fail)
        refine wq_call (f := 34) (args := #[.slice K n cK, .slice B M cb]) (v := .agg D2.toArray) rfl (fun w' _ => by go_simp) (fun w' hC => ?_) ?_
        · have hlow : Below w.heap.size w w' := gt (gt HL.out HW.out) hC
          rw [HS.out.2.2.2.1, HS.out.2.2.2.2, ← hmac_short k m, ← HD.out.2.2]
          exact phmac_any q m K B n M cK cb w' (by rw [HN'.out, HD.out.2.2]) HM.out (HB1.out.below hC) (HB.out.1.below hlow) hcK (by have := HB.out.2; have := HM.out; omega) (by omega) (by omega) (HG.out.grow hlow)
        simp only [Act.put, List.setIfInBounds_toArray, List.set_cons_succ, List.set_cons_zero]
        refine wq_loadB (o := ⟨some 69, _, _, _, _, _⟩) A30 rfl _ rfl b14 0 rfl _ _ (fun w' hC => From.blk hC HB2.out) D2 (full k2) k2 ?_
        simp only [Act.put, List.setIfInBounds_toArray, List.set_cons_succ, List.set_cons_zero]
        refine wq_val (o := ⟨some 70, _, _, _, _, _⟩) (v := .bool false) rfl (fun w' _ => by go_simp) ?_
        simp only [Act.put, List.setIfInBounds_toArray, List.set_cons_succ, List.set_cons_zero]
        refine wq_val (o := ⟨some 71, _, _, _, _, _⟩) (v := .bool false) rfl (fun w' _ => by go_simp) ?_
        simp only [Act.put, List.setIfInBounds_toArray, List.set_cons_succ, List.set_cons_zero]
        refine wpQuiet_nil ?_
        intro w11 h11
        have hlow11 := gt HW.out h11
        have hb11 : Blk w11 b14 30 D2 := HB2.out.grow h11
        have hk11 := HK.out.below hlow11
        replace HW := Lib.hid hlow11
        replace HB1 := Lib.hid hk11
        replace HB2 := Lib.hid hb11
        clear hlow11 hb11 hk11 h11 hneq heqi
        obtain ⟨Mx, hMx⟩ : ∃ x, x = 65 - n := ⟨_, rfl⟩
        have e65 : (65 : Int) - (n : Int) = (Mx : Int) := by omega
        obtain ⟨p, hp⟩ : ∃ p, p = placeN z Mx := ⟨_, rfl⟩
        have hpl : p + n ≤ 64 := by have := placeN_lt z Mx (by omega); omega
        obtain ⟨T, hT⟩ : ∃ T, T = n + p := ⟨_, rfl⟩
        have eT : (n : Int) + (p : Int) = (T : Int) := by omega
        have hT64 : T ≤ 64 := by omega
        have HP := Lib.hid (And.intro hMx (And.intro hp hT))
        have hMx1 : 0 < Mx ∧ Mx ≤ 65 := by omega
        have hpp : (p : Int) ≤ 64 := by omega
        clear hMx hp hT
        go_upto_region 21 with (first
          | (go_at_call 28; go_must (refine (place_any z Mx HZ.out hMx1.1 (by omega) _).mono ?_); rintro e w12 ⟨he, rfl⟩; rw [← HP.out.2.1] at he; subst he)
          | ((with_reducible show wpList _ _ _ (⟨some 80, _, _, _, _, _⟩ :: _) _ _); go_must (refine wpList_make1 E8 rfl _ _ rfl .i64 .i64 (T : Int) (T : Int) T rfl rfl rfl rfl (by omega) (by unfold maxLen; omega) w12.heap.size rfl ?_); intro w13 hB13 hb13 hz13))
        have hone := bytes_oneCell q
        go_upto_region 22 with (first
          | ((with_reducible show wpList _ _ _ (⟨some 83, _, _, _, _, _⟩ :: _) _ _); go_must (refine wpList_copy1 E8 rfl (.tmp 81) (.tmp 82) rfl w12.heap.size 0 T T K n cK rfl rfl _ _ hB13 (q.map bv) (by rw [List.length_map]; exact HN'.out.symm) ((HB1.out.below hb13).rv) (by simp) hone ?_); intro w14 hB14 hb14 hz14 hg14))
        have h1214 : Below w12.heap.size w12 w14 := hb13.grown hg14 (by omega) (fun j hj => by simp at hj; omega)
        obtain ⟨g, hg⟩ : ∃ g, g = w12.heap.size := ⟨_, rfl⟩
        rw [← hg] at hB14 ⊢
        obtain ⟨wd, hwd⟩ : ∃ x, x = q ++ List.replicate p 0 := ⟨_, rfl⟩
        have hqn : q.length = n := HN'.out.symm
        have hwl : wd.length = T := by rw [hwd, List.length_append, List.length_replicate, hqn, HP.out.2.2]
        have hB14' : Blk w14 g 5 (wd.map bv) := by
          have e : splice (List.replicate T (.int .u8 0 : Value)) 0 ((q.map bv).take T) = wd.map bv := by
            rw [hwd, List.take_of_length_le (by rw [List.length_map, hqn, HP.out.2.2]; omega), HP.out.2.2]
            unfold splice
            simp only [List.take_zero, List.nil_append, Nat.zero_add, List.length_map, List.map_append, List.map_replicate, hqn, List.drop_replicate]
            rw [show n + p - n = p by omega]
            rfl
          rw [← e]; exact hB14
        have hwide : hmacf wd m = hmacf k m := by rw [hwd, HD.out.2.2]; exact hmac_wide k m p (by rw [← HD.out.2.2, hqn]; omega)
        have hlow14 := gt HW.out h1214
        have hb14 : Blk w14 b14 30 D2 := HB2.out.grow h1214
        replace HW := Lib.hid hlow14
        replace HB1 := Lib.hid hB14'
        replace HB2 := Lib.hid hb14
        obtain ⟨key, hkey⟩ : ∃ key, key = Sha.keyOf wd := ⟨_, rfl⟩
        have hkl : key.length = 64 := by rw [hkey]; exact keyOf_length wd
        obtain ⟨m1, hm1⟩ : ∃ x, x = mcell key (padK key 0x36) := ⟨_, rfl⟩
        obtain ⟨m2, hm2⟩ : ∃ x, x = mcell key (begunB key (padK key 0x36) ++ m) := ⟨_, rfl⟩
        have HE := Lib.hid (And.intro hkey (And.intro hm1 (And.intro hm2 (And.intro hwide hwl))))
        have HKL := Lib.hid hkl
        clear hlow14 hb14 hB14' hB14 h1214 hg14 hz14 hB13 hb13 hz13 hone hwd hqn hwl hwide hkey hm1 hm2 hkl hg
        have heqi : ∀ W, (Op.equalIn 10000 30 (.agg D2.toArray) (.agg D2.toArray)).run Tryd.prog W = .ok true W := fun W => by rw [HS.out.2.2.2.1, HS.out.2.1]; exact dig_eqi _ W
        simp only [Act.put, List.setIfInBounds_toArray, List.set_cons_succ, List.set_cons_zero]
        refine wp_region_qb (by kernel_rfl) (by kernel_rfl) ?_
        go_big_quiet_step (fail)
        go_big_quiet_step (fail)
        refine wq_call (f := 34) (args := #[.slice (some ⟨g, 0, none⟩) T T, .slice B M cb]) (v := .agg D2.toArray) rfl (fun w' _ => by go_simp) (fun w' hC => ?_) ?_
        · have hlow : Below w.heap.size w w' := gt (gt HL.out HW.out) hC
          rw [HS.out.2.2.2.1, HS.out.2.2.2.2, ← HE.out.2.2.2.1]
          exact phmac_any wd m _ B T M T cb w' HE.out.2.2.2.2.symm HM.out ((HB1.out.grow hC).rv.rb) (HB.out.1.below hlow) (Nat.le_refl _) (by have := HB.out.2; have := HM.out; omega) (by omega) (by omega) (HG.out.grow hlow)
        simp only [Act.put, List.setIfInBounds_toArray, List.set_cons_succ, List.set_cons_zero]
        refine wq_loadB (o := ⟨some 87, _, _, _, _, _⟩) A30 rfl _ rfl b14 0 rfl _ _ (fun w' hC => From.blk hC HB2.out) D2 (full k2) k2 ?_
        simp only [Act.put, List.setIfInBounds_toArray, List.set_cons_succ, List.set_cons_zero]
        refine wq_val (o := ⟨some 88, _, _, _, _, _⟩) (v := .bool true) rfl (fun w' _ => by go_simp) ?_
        simp only [Act.put, List.setIfInBounds_toArray, List.set_cons_succ, List.set_cons_zero]
        go_big_quiet_step (fail)
        go_big_quiet_step (fail)
        refine wq_call (f := 30) (args := #[.slice (some ⟨g, 0, none⟩) T T]) (v := .agg m1.toArray) rfl (fun w' _ => by go_simp) (fun w' hC => ?_) ?_
        · have hlow : Below w.heap.size w w' := gt (gt HL.out HW.out) hC
          rw [HE.out.2.1, HE.out.1]
          have h := newmac_any wd (some ⟨g, 0, none⟩) T w' ((HB1.out.grow hC).rv.rb) (Nat.le_of_eq HE.out.2.2.2.2) (by have := HE.out.2.2.2.2; omega) (HG.out.grow hlow)
          rw [HE.out.2.2.2.2] at h
          exact h
        simp only [Act.put, List.setIfInBounds_toArray, List.set_cons_succ, List.set_cons_zero]
        go_big_quiet_step (fail)
        refine wq_call (f := 31) (args := #[.agg m1.toArray, .slice B M cb]) (v := .agg m2.toArray) rfl (fun w' _ => by go_simp) (fun w' hC => ?_) ?_
        · have hlow : Below w.heap.size w w' := gt (gt HL.out HW.out) hC
          rw [HE.out.2.1, HE.out.2.2.1]
          exact mwrite_any key (padK key 0x36) m HKL.out B M cb w' HM.out (HB.out.1.below hlow) (by have := HB.out.2; have := HM.out; omega) (HG.out.grow hlow) (by rw [padK_length, HKL.out]; omega)
        simp only [Act.put, List.setIfInBounds_toArray, List.set_cons_succ, List.set_cons_zero]
        refine wq_call (f := 32) (args := #[.agg m2.toArray]) (v := .agg D2.toArray) rfl (fun w' _ => by go_simp) (fun w' hC => ?_) ?_
        · have hlow : Below w.heap.size w w' := gt (gt HL.out HW.out) hC
          rw [HE.out.2.2.1, HS.out.2.2.2.1, HS.out.2.2.2.2, ← HE.out.2.2.2.1, hmac_eq wd m, ← HE.out.1]
          exact msum_any key _ HKL.out w' (HG.out.grow hlow) (by rw [List.length_append]; unfold begunB; have := HM.out; split <;> rw [padK_length, HKL.out] <;> omega)
        simp only [Act.put, List.setIfInBounds_toArray, List.set_cons_succ, List.set_cons_zero]
        refine wq_loadB (o := ⟨some 95, _, _, _, _, _⟩) A30 rfl _ rfl b14 0 rfl _ _ (fun w' hC => From.blk hC HB2.out) D2 (full k2) k2 ?_
        simp only [Act.put, List.setIfInBounds_toArray, List.set_cons_succ, List.set_cons_zero]
        refine wq_val (o := ⟨some 96, _, _, _, _, _⟩) (v := .bool true) rfl (fun w' _ => by go_simp) ?_
        simp only [Act.put, List.setIfInBounds_toArray, List.set_cons_succ, List.set_cons_zero]
        refine wq_val (o := ⟨some 97, _, _, _, _, _⟩) (v := .bool true) rfl (fun w' _ => by go_simp) ?_
        simp only [Act.put, List.setIfInBounds_toArray, List.set_cons_succ, List.set_cons_zero]
        go_big_quiet_step (fail)
        refine wpQuiet_nil ?_
        intro w15 h15
        have hlow : Below w.heap.size w w15 := gt (gt HL.out HW.out) h15
        go_wp2
        go_ret
        exact ⟨rfl, hlow⟩

end Go.Proofs.YtoemceehmiaigaaDoor.LawNested
