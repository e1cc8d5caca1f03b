/- weirlaw28.WireFeeds: the walk. -/
import Derived.Test.YtojemdggbcklkaaDoorWNext
import Derived.Test.YtojemdggbcklkaaDoorLawStays
namespace Go.Proofs.YtojemdggbcklkaaDoor.WireR
open Go.RowKit Go.Proofs.YtojemdggbcklkaaDoor.Mem Go.Proofs.YtojemdggbcklkaaDoor.Wire Go.Proofs.YtojemdggbcklkaaDoor.Strs Go.Proofs.YtojemdggbcklkaaDoor.Heads
set_option linter.unusedVariables false
set_option linter.unusedSimpArgs false
set_option maxRecDepth 8000

/-- a piece as the walk meets it -/
structure Pc where
  A : Option Addr
  c : Nat
  l : List UInt8
def Pc.ok (w : World) (r : Pc) : Prop := RB w r.A r.l ∧ r.l.length ≤ r.c ∧ r.l.length ≤ 1048576
def Pc.cell (r : Pc) : Value := .slice r.A r.l.length r.c
structure FsSt (w wr : World) (N G : Nat) (k kn W n : Nat) (R : Bytes) (v7 v0 : Value) : Prop where
  le : k ≤ N
  low : Below w.heap.size w wr
  own : wr.ownsRow w.heap.size 5 1 v7 n (R.map bv)
  len : n = R.length
  feed : FeedAt wr G (G + 1) v0 (feedS R).rest (feedS R).done (feedS R).e
  kn : kn = (feedS R).l.length
  wk : W ≤ 4194304
  wl : n ≤ 4194304
  ne : ∀ X, v7.ownBlock = some X → X ≠ G ∧ v0.ownBlock ≠ some X
  gG : w.heap.size ≤ G
  hG : G < wr.heap.size
  h0 : ∀ Y, v0.ownBlock = some Y → w.heap.size ≤ Y
set_option maxHeartbeats 16000000 in
theorem law_feeds (A : Option Addr) (c : Nat) (rs : List Pc) (w : World) (hr : RV w A (rs.map Pc.cell)) (hp : ∀ r ∈ rs, r.ok w) (hl : rs.length ≤ 1048576) :
    Calls Tryd.prog 9 #[.slice A rs.length c] w fun e w' => e = .returned (.bool true) ∧ Below w.heap.size w w' := by
  have HR := Lib.hid hr
  have HP := Lib.hid hp
  clear hr hp
  obtain ⟨N, hN⟩ : ∃ N, N = rs.length := ⟨_, rfl⟩
  rw [← hN] at hl ⊢
  have HN := Lib.hid hN
  clear hN
  have hll : (N : Int) ≤ 1048576 := by omega
  go_enter Tryd.func9, Tryd.ntmps9
  go_upto_region 6 with (first
    | ((with_reducible show wpList _ _ _ (⟨some 19, _, _, _, _, _⟩ :: _) _ _); go_must (refine WireW.wpList_bconst (o := ⟨some 19, _, _, _, _, _⟩) rfl (.tmp 18) rfl (n := 28) (c := 28) (by simp [Act.eval]) plainB rfl ?_); intro w1 hr1 hb1; have H1 := Lib.hid (And.intro hr1 hb1); clear hr1 hb1)
    | (go_at_call 21; go_must (refine (put_nil _ _).mono ?_); rintro e w2 ⟨rfl, rfl⟩)
    | (go_at_call 22; go_must (refine (new_any _).mono ?_); rintro e w3 ⟨rfl, hB3, hb3⟩; have H3 := Lib.hid (And.intro hB3 hb3); clear hB3 hb3)
    | (go_at_call 23; go_must (refine (rest_nil _).mono ?_); rintro e w4 ⟨rfl, rfl⟩)
    | (go_at_call 14; go_must (refine (awake_any _).mono ?_); rintro e w5 ⟨rfl, hb5⟩; have H5 := Lib.hid hb5; clear hb5))
  have hFA : FeedAt w5 w1.heap.size (w1.heap.size + 1) (.slice none 0 0) (feedS []).rest (feedS []).done (feedS []).e := by
    rw [feed_nil]
    exact ⟨H3.out.1.grow H5.out, World.ownsRow_nil _ _ _ _, by omega⟩
  have hS : FsSt w w5 N w1.heap.size 0 0 0 0 [] (.slice none 0 0) (.slice none 0 0) := by
    have s1 := H1.out.2.size
    have s3 := H3.out.2.size
    have s4 := H3.out.1.lt
    have s5 := H5.out.size
    exact ⟨Nat.zero_le _, gt H1.out.2 (gt H3.out.2 H5.out), World.ownsRow_nil _ _ _ _, rfl, hFA, by rw [feed_nil]; rfl, by omega, by omega, (fun X e => by cases e), s1, by omega, (fun Y e => by cases e)⟩
  obtain ⟨G, hG⟩ : ∃ G, G = w1.heap.size := ⟨_, rfl⟩
  rw [← hG] at hS ⊢
  have HS := Lib.hid hS
  clear hS hFA hG H1 H3 H5
  go_wp2
  go_loopw [7, 8, 9, 10] (fun v7 v8 v9 v10 wr => ∃ (k kn W n : Nat) (R : Bytes) (v0 : Value), v8 = .int .i64 kn ∧ v9 = .int .i64 W ∧ v10 = .int .i64 k ∧ FsSt w wr N G k kn W n R v7 v0) (fun _ _ _ v10 _ => N - (intOf v10).toNat)
  case atStart => exact ⟨0, 0, 0, 0, [], .slice none 0 0, rfl, rfl, rfl, HS.out⟩
  case round =>
    clear HS
    obtain ⟨k, kn, W, n, R, v0, rfl, rfl, rfl, FS⟩ := hrel
    replace FS := Lib.hid FS
    obtain ⟨S0, cs, hv7, hcs⟩ := own_slice FS.out.own
    subst hv7
    by_cases hlt : k < N
    · have hlen : k < (rs.map Pc.cell).length := by rw [List.length_map, ← HN.out]; exact hlt
      have hlen' : k < rs.length := by rw [← HN.out]; exact hlt
      obtain ⟨ad, hA, h9⟩ := HR.out k hlen
      obtain ⟨r, hrr⟩ : ∃ r, r = rs[k] := ⟨_, rfl⟩
      have hok : r.ok w := HP.out r (by rw [hrr]; exact List.getElem_mem _)
      have hcell : ∀ X, Below w.heap.size w X → X.cell? (ad.add k) = some (.slice r.A r.l.length r.c) := fun X hX => (HR.out.below hX).cells hA k _ (by rw [List.getElem?_map, List.getElem?_eq_getElem hlen', hrr]; rfl)
      obtain ⟨PA, pc, p⟩ := r
      unfold Pc.ok at hok
      simp only at hcell hok
      obtain ⟨pn, hpn⟩ : ∃ x, x = p.length := ⟨_, rfl⟩
      rw [← hpn] at hcell hok
      have HC := Lib.hid (And.intro hcell (And.intro hok hpn))
      have hc1 := hcell wr FS.out.low
      subst hA
      clear h9 hrr hok hcell hpn hlen hlen'
      have hlt' : (k : Int) < (N : Int) := by omega
      have h0k : (0 : Int) ≤ (k : Int) := by omega
      go_upto_region 12 with (first
        | ((with_reducible show wpList _ _ _ (⟨some 55, _, _, _, _, _⟩ :: _) _ _); go_must (refine wpList_app EB rfl (.tmp 50) (.tmp 54) rfl w.heap.size (.slice S0 n cs) n (R.map bv) rfl FS.out.own PA pn pc (p.map bv) rfl (HC.out.2.1.1.below FS.out.low).rv (by rw [List.length_map, HC.out.2.2]; simp) (by intro u hu; rw [List.mem_map] at hu; obtain ⟨_, _, rfl⟩ := hu; rfl) (by have := FS.out.wl; have := HC.out.2.1.2.2; unfold maxLen; omega) (by have := FS.out.wl; have := HC.out.2.1.2.2; omega) FS.out.low.size ?_); intro v1 w1 ho1 hg1 hv1; obtain ⟨S1, c1, rfl, hcs1⟩ := own_slice ho1; have H1 := Lib.hid (And.intro ho1 (And.intro hg1 (And.intro hv1 hcs1))); clear ho1 hg1 hv1 hcs1))
      obtain ⟨nn, hnn⟩ : ∃ x, x = n + pn := ⟨_, rfl⟩
      obtain ⟨R1, hR1⟩ : ∃ x, x = R ++ p := ⟨_, rfl⟩
      have hn1 : nn = R1.length := by rw [hnn, hR1, List.length_append, FS.out.len, HC.out.2.2]
      have hown1 : w1.ownsRow w.heap.size 5 1 (.slice S1 nn c1) nn (R1.map bv) := by
        have := H1.out.1
        rw [← hnn, ← List.map_append, ← hR1] at this
        exact this
      have hg1 := H1.out.2.1
      have hv1 := H1.out.2.2.1
      have hcs1 := H1.out.2.2.2
      rw [← hnn] at hv1 hcs1 ⊢
      have hX0 : ∀ X, (Value.slice S0 n cs).ownBlock = some X → w.heap.size ≤ X := fun X e => (FS.out.own.lt X e).1
      have hlow1 : Below w.heap.size w w1 := FS.out.low.grown hg1 FS.out.low.size hX0
      have hfe1 : FeedAt w1 G (G + 1) v0 (feedS R).rest (feedS R).done (feedS R).e := FS.out.feed.kept hg1 (fun e => (FS.out.ne G e.symm).1 rfl) (fun Y e e2 => (FS.out.ne Y e2.symm).2 e)
      have hs1 : wr.heap.size ≤ w1.heap.size := hg1.size
      have hne1 : ∀ X, (Value.slice S1 nn c1).ownBlock = some X → X ≠ G ∧ v0.ownBlock ≠ some X ∧ X < w1.heap.size := fun X e => by
        have hx := (hown1.lt X e).2
        rcases hv1 with h | h
        · have := FS.out.ne X (h ▸ e); exact ⟨this.1, this.2, hx⟩
        · rw [e] at h; injection h with h
          have := FS.out.hG
          refine ⟨by omega, fun e2 => ?_, hx⟩
          have := (FS.out.feed.own.lt X e2).2
          omega
      have HX := Lib.hid (And.intro hown1 (And.intro hlow1 (And.intro hfe1 (And.intro hs1 (And.intro hne1 (And.intro hcs1 (And.intro hnn (And.intro hR1 hn1))))))))
      clear H1 hown1 hg1 hv1 hcs1 hX0 hlow1 hfe1 hs1 hne1 hR1 hn1 hnn hc1 hcs hl
      obtain ⟨W1, hW1⟩ : ∃ x, x = W + nn := ⟨_, rfl⟩
      have eW : (W : Int) + (nn : Int) = (W1 : Int) := by omega
      have bW : (W : Int) ≤ 4194304 := by have := FS.out.wk; omega
      have bn : (nn : Int) ≤ 5242880 := by have := FS.out.wl; have := HC.out.2.1.2.2; have := HX.out.2.2.2.2.2.2.1; omega
      have mW : IntKind.i64.wrap (W1 : Int) = (W1 : Int) := by rw [IntKind.wrap_i64]; omega
      by_cases hbig : 4194304 < W1
      · have d1 : decide ((4194304 : Int) < (W1 : Int)) = true := by rw [decide_eq_true_eq]; omega
        clear bW bn hbig hW1
        go_wp2
        go_ret
        exact ⟨rfl, HX.out.2.1⟩
      · have d1 : decide ((4194304 : Int) < (W1 : Int)) = false := by rw [decide_eq_false_iff_not]; omega
        have hnn4 : nn ≤ 4194304 := by omega
        have HW := Lib.hid (And.intro hW1 (And.intro hnn4 (show W1 ≤ 4194304 by omega)))
        clear bW bn hW1 hbig
        have hlens := feed_lens R1.length R1 (Nat.le_refl _)
        have hfl := feed_len R1.length R1 (Nat.le_refl _)
        have hgot := got_more R p
        rw [← HX.out.2.2.2.2.2.2.2.1] at hgot
        have hcf := rfeed_any S1 nn c1 R1 w1 (own_rv HX.out.1).rb HX.out.2.2.2.2.2.2.2.2 HX.out.2.2.2.2.2.1 (by omega)
        have hcp := fun (w2 : World) (h : Below w1.heap.size w1 w2) => put_next (HX.out.2.2.1.below h) PA pn pc p (HC.out.2.1.1.below (HX.out.2.1.trans (h.mono HX.out.2.1.size))) HC.out.2.2 (by have := FS.out.hG; have := HX.out.2.2.2.1; have := h.size; omega) (by have := FS.out.len; have := HC.out.2.2; have := HX.out.2.2.2.2.2.2.1; omega)
        unfold FeedPost at hcf
        unfold NextPost at hcp
        rw [← HX.out.2.2.2.2.2.2.2.1] at hcp
        obtain ⟨F, hF⟩ : ∃ x, x = feedS R1 := ⟨_, rfl⟩
        rw [← hF] at hlens hfl hgot hcf hcp
        obtain ⟨L2, hL2⟩ : ∃ x, x = gotL R p := ⟨_, rfl⟩
        rw [← hL2] at hgot hcp
        obtain ⟨fr, hfr⟩ : ∃ x, x = F.rest.length := ⟨_, rfl⟩
        obtain ⟨fe, hfe⟩ : ∃ x, x = F.e := ⟨_, rfl⟩
        obtain ⟨fn, hfn⟩ : ∃ x, x = F.l.length := ⟨_, rfl⟩
        obtain ⟨gn, hgn⟩ : ∃ x, x = L2.length := ⟨_, rfl⟩
        rw [← hfr, ← hfe] at hcf
        rw [← hfe] at hcp
        have hkn : fn = kn + gn := by rw [hfn, hgot, List.length_append, FS.out.kn, hgn]
        have HH := Lib.hid (And.intro hlens (And.intro (show fn ≤ R1.length by omega) (And.intro hgot (And.intro hF (And.intro hfr (And.intro hfe (And.intro hfn (And.intro hgn hkn))))))))
        have hgn0 : gn ≤ 4194304 := by have := HX.out.2.2.2.2.2.2.2.2; omega
        have hfn0 : kn ≤ fn := by omega
        have d2 : decide ((fn : Int) < (kn : Int)) = false := by rw [decide_eq_false_iff_not]; omega
        have CF := Lib.hid hcf
        have CP := Lib.hid hcp
        clear hlens hfl hgot hcf hcp hF hL2 hfr hfe hfn hgn hkn
        have d3 : decide (fn < kn) = false := by rw [decide_eq_false_iff_not]; omega
        have d4 : (kn ≤ fn) = True := by simp [hfn0]
        go_upto_region 16 with (first
          | (go_at_call 24; go_must (refine (CF.out).mono ?_); rintro e w2 ⟨hb2, v11, rfl, hl11⟩; obtain ⟨A11, c11, rfl, hc11⟩ := hl11.slice; rw [← HH.out.2.2.2.2.2.2.1] at hl11 hc11 ⊢; have H2 := Lib.hid (And.intro hb2 (And.intro hl11 hc11)); clear hb2 hl11 hc11))
        have hc2 := HC.out.1 w2 (HX.out.2.1.trans (H2.out.1.mono HX.out.2.1.size))
        go_upto_region 17 with (first
          | (go_at_call 21; go_must (refine (CP.out _ H2.out.1).mono ?_); rintro e w3 ⟨hfr3, u, v', rfl, hl3, hf3, hv3⟩; obtain ⟨Au, cu, rfl, hcu⟩ := hl3.slice; rw [← HH.out.2.2.2.2.2.2.2.1] at hl3 hcu ⊢; have H3 := Lib.hid (And.intro hfr3 (And.intro hl3 (And.intro hf3 (And.intro hv3 hcu)))); clear hfr3 hl3 hf3 hv3 hcu))
        clear hc2
        have sl1 := FS.out.hG
        have sl2 := HX.out.2.2.2.1
        have sl3 := H2.out.1.size
        have sl4 := H3.out.1.size
        have hall3 : RL w3 w1.heap.size (.slice A11 fn c11) F.l := H2.out.2.1.keep (fun q hq hq2 => H3.out.1.block q hq2 (by omega) (fun e => by have := (FS.out.feed.own.lt q e.symm).2; omega))
        have hread3 : ReadsR w3 (if c11 = kn then A11 else A11.map (·.add (kn * 5))) L2 := by
          have := (RL.reads hall3).2.drop (m := kn) (c := c11) (by rw [← HH.out.2.2.2.2.2.2.1]; exact hfn0) (by rw [← HH.out.2.2.2.2.2.2.1]; exact H2.out.2.2)
          rw [HH.out.2.2.1, List.drop_left' FS.out.kn.symm] at this
          exact this
        have hsame := fun (D : Option Addr) (hD : D = (if c11 = kn then A11 else A11.map (·.add (kn * 5)))) => same_all Au gn cu D (c11 - kn) L2 w3 HH.out.2.2.2.2.2.2.2.1 (RL.reads H3.out.2.1).2 (hD ▸ hread3) (by omega) (fun r hr => HH.out.1 r (by rw [HH.out.2.2.1]; exact List.mem_append_right _ hr))
        have hsub : fn - kn = gn := by have := HH.out.2.2.2.2.2.2.2.2; omega
        have hrest := rest_any H3.out.2.2.1
        rw [← HH.out.2.2.2.2.1] at hrest
        have SA := Lib.hid hsame
        have RS := Lib.hid hrest
        have SL := Lib.hid (And.intro sl1 (And.intro sl2 (And.intro sl3 (And.intro sl4 hsub))))
        clear hsame hrest hall3 hread3 sl1 sl2 sl3 sl4 hsub
        go_wp2_with (first
          | (go_at_call 23; go_must (refine (RS.out).mono ?_); rintro e w4 ⟨rfl, rfl⟩)
          | ((with_reducible show wpList _ _ _ (⟨some 96, _, _, _, _, _⟩ :: _) _ _); go_must (refine wpList_behindR (o := ⟨some 96, _, _, _, _, _⟩) (by simp [Region.wanted, yielded]) (.tmp 94) (.tmp 95) rfl rfl rfl hfn0 ?_); intro D hD; rw [SL.out.2.2.2.2]; have HD := Lib.hid hD; clear hD)
          | (go_at_call 25; go_must (refine (SA.out _ HD.out).mono ?_); rintro e w5 ⟨rfl, hb5⟩; have H5 := Lib.hid hb5; clear hb5))
        refine ⟨⟨k + 1, fn, W1, nn, R1, v', rfl, rfl, by rw [Int.natCast_add]; rfl, ?_⟩, by simp only [intOf]; omega⟩
        have hfr3 := H3.out.1
        have hv' := H3.out.2.2.2.1
        have t1 := SL.out.1
        have t2 := SL.out.2.1
        have t3 := SL.out.2.2.1
        have t4 := SL.out.2.2.2.1
        have t5 := H5.out.size
        have t6 := FS.out.gG
        have t7 := FS.out.low.size
        have hlow3 : Below w.heap.size w w3 := below_fr (HX.out.2.1.trans (H2.out.1.mono HX.out.2.1.size)) hfr3 (by have := HX.out.2.1.size; omega) t6 FS.out.h0
        refine ⟨by omega, hlow3.trans (H5.out.mono hlow3.size), ?_, HX.out.2.2.2.2.2.2.2.2, ?_, HH.out.2.2.2.2.2.2.1.trans (by rw [HH.out.2.2.2.1]), HW.out.2.2, HW.out.2.1, ?_, t6, by omega, ?_⟩
        · refine own_below' (own_keep (own_below' HX.out.1 H2.out.1) (fun X e hX => ?_)) H5.out
          have := HX.out.2.2.2.2.1 X e
          exact hfr3.block X hX this.1 (fun e2 => this.2.1 e2.symm)
        · have := H3.out.2.2.1.below H5.out
          rw [HH.out.2.2.2.2.2.1, HH.out.2.2.2.1] at this
          exact this
        · intro X e
          have h1 := HX.out.2.2.2.2.1 X e
          refine ⟨h1.1, fun e2 => ?_⟩
          rcases hv' with rfl | h
          · exact h1.2.1 e2
          · have := h X e2; omega
        · intro Y e
          rcases hv' with rfl | h
          · exact FS.out.h0 Y e
          · have := h Y e; omega
    · have hge : decide ((k : Int) < (N : Int)) = false := by rw [decide_eq_false_iff_not]; omega
      go_wp2
      go_ret
      exact ⟨rfl, FS.out.low⟩
end Go.Proofs.YtojemdggbcklkaaDoor.WireR
