/- weirlaw28.WirePieces: the walk. (Printed by mklstream.py.) -/
import Derived.Test.YtojemdggbcklkaaDoorWPieces
import Derived.Test.YtojemdggbcklkaaDoorLawStays
import Derived.Test.YtojemdggbcklkaaDoorLawTwice
import Derived.Deep.CutBlock
namespace Go.Proofs.YtojemdggbcklkaaDoor.WireR
open Go.RowKit Go.Proofs.YtojemdggbcklkaaDoor.Mem Go.Proofs.YtojemdggbcklkaaDoor.Wire Go.Proofs.YtojemdggbcklkaaDoor.Strs Go.Proofs.YtojemdggbcklkaaDoor.Heads
set_option linter.unusedVariables false
set_option linter.unusedSimpArgs false
set_option maxRecDepth 8000

theorem wpList_head {w : World} {ops : Array Oper} {rest : List Oper} {o : Oper} {a : Act} {Q : Exit → Act → World → Prop} (hgd : o.guard = none) (x y : Operand) (ho : o.op = .slice 22 x none (some y) none) {A : Option Addr} {n c m : Nat} (hx : a.eval x = .slice A n c) (hy : a.eval y = .int .i64 (m : Int)) (hm : m ≤ c)
    (h : ∀ D, D = (if c = 0 then A else A.map (·.add 0)) → wpList Tryd.prog ops Q rest (a.put o.dst (.slice D m c)) w) : wpList Tryd.prog ops Q (o :: rest) a w := by
  refine wpList_plain hgd fun K hK => ?_
  unfold Oper.wp
  rw [cut_head ho hx hy hm]
  exact hK _ _ (h _ rfl)
theorem rb_head {w : World} {A : Option Addr} {s : List UInt8} {c k : Nat} (h : RB w A s) (hc : s.length ≤ c) : RB w (if c = 0 then A else A.map (·.add 0)) (s.take k) := by
  have := rb_behind (l := 0) (c := c) h (Nat.zero_le _) hc
  rw [List.drop_zero] at this
  exact this.take k
theorem Chn.one {w : World} {o : Option Nat} : ∀ {lo hi : Nat} {cs : List (List Value)} {rs : List Req}, Chn w o lo cs rs hi → ∀ u ∈ cs.flatten, u.oneCell' = true
  | _, _, [], [], h, u, hu => by simp at hu
  | _, _, c :: cs, r :: rs, ⟨mid, h1, h2⟩, u, hu => by
    rw [List.flatten_cons, List.mem_append] at hu
    rcases hu with hu | hu
    · obtain ⟨A, k, A2, k2, m, e, _⟩ := h1
      rw [e] at hu
      simp at hu
      rcases hu with rfl | rfl | rfl | rfl | rfl <;> rfl
    · exact h2.one u hu
  | _, _, [], _ :: _, h, _, _ => h.elim
  | _, _, _ :: _, [], h, _, _ => h.elim
def u16V (z : Nat) : Value := .int .u16 (z : Int)
structure StSt (w w6 wr : World) (raw : Bytes) (G2 n cn i at_ m cd : Nat) (D : Option Addr) (v9 v0 : Value) : Prop where
  ile : i ≤ cn
  ale : at_ ≤ n
  me : m = n - at_
  mc : m ≤ cd
  rb : RB w D (raw.drop at_)
  st : w6.grownBy wr (some G2)
  pf : PF wr w6.heap.size v9 v0.ownBlock (feedS (raw.take at_)).l
  fd : FeedAt wr G2 (G2 + 1) v0 (feedS (raw.take at_)).rest (feedS (raw.take at_)).done (feedS (raw.take at_)).e
  h0 : ∀ Y, v0.ownBlock = some Y → w6.heap.size ≤ Y
set_option maxHeartbeats 16000000 in
theorem law_stream (A : Option Addr) (n c : Nat) (raw : List UInt8) (C : Option Addr) (cn cc : Nat) (zs : List Nat) (w : World) (hA : RB w A raw) (hn : n = raw.length) (hc : n ≤ c) (hl : n ≤ 1073741824)
    (hz : RV w C (zs.map u16V)) (hcn : cn = zs.length) (hzb : ∀ z ∈ zs, z ≤ 65535) (hcl : cn ≤ 1073741824) :
    Calls Tryd.prog 10 #[.slice A n c, .slice C cn cc] w fun e w' => e = .returned (.bool true) ∧ Below w.heap.size w w' := by
  have HA := Lib.hid (And.intro hA (And.intro hn hc))
  have HZ := Lib.hid (And.intro hz (And.intro hcn hzb))
  have hll : (n : Int) ≤ 1073741824 := by omega
  have hcll : (cn : Int) ≤ 1073741824 := by omega
  clear hA hn hc hz hcn hzb
  by_cases hbig : 262144 < n ∨ 1024 < cn
  · have b1 : decide ((262144 : Int) < (n : Int)) = decide (262144 < n) := by simp [decide_eq_decide]; omega
    have b2 : decide ((1024 : Int) < (cn : Int)) = decide (1024 < cn) := by simp [decide_eq_decide]; omega
    by_cases h1 : 262144 < n
    · have b3 : decide ((262144 : Int) < (n : Int)) = true := by rw [decide_eq_true_eq]; omega
      clear b1 b2 hbig h1
      go_enter Tryd.func10, Tryd.ntmps10
      go_wp2_with (first
        | (go_at_call 22; (with_reducible show Calls _ _ #[] w _); go_must (refine (new_any _).mono ?_); rintro e w1 ⟨rfl, hB1, hb1⟩; have H1 := Lib.hid (And.intro hB1 hb1); clear hB1 hb1)
        | (go_at_call 22; go_must (refine (new_any _).mono ?_); rintro e w2 ⟨rfl, hB2, hb2⟩; have H2 := Lib.hid (And.intro hB2 hb2); clear hB2 hb2)
        | (go_at_call 14; go_must (refine (awake_any _).mono ?_); rintro e w3 ⟨rfl, hb3⟩; have H3 := Lib.hid hb3; clear hb3))
      go_ret
      exact ⟨rfl, gt H1.out.2 (gt H2.out.2 H3.out)⟩
    · have b3 : decide ((262144 : Int) < (n : Int)) = false := by rw [decide_eq_false_iff_not]; omega
      have b4 : decide ((1024 : Int) < (cn : Int)) = true := by rw [decide_eq_true_eq]; omega
      clear b1 b2 hbig h1
      go_enter Tryd.func10, Tryd.ntmps10
      go_wp2_with (first
        | (go_at_call 22; (with_reducible show Calls _ _ #[] w _); go_must (refine (new_any _).mono ?_); rintro e w1 ⟨rfl, hB1, hb1⟩; have H1 := Lib.hid (And.intro hB1 hb1); clear hB1 hb1)
        | (go_at_call 22; go_must (refine (new_any _).mono ?_); rintro e w2 ⟨rfl, hB2, hb2⟩; have H2 := Lib.hid (And.intro hB2 hb2); clear hB2 hb2)
        | (go_at_call 14; go_must (refine (awake_any _).mono ?_); rintro e w3 ⟨rfl, hb3⟩; have H3 := Lib.hid hb3; clear hb3))
      go_ret
      exact ⟨rfl, gt H1.out.2 (gt H2.out.2 H3.out)⟩
  · have b3 : decide ((262144 : Int) < (n : Int)) = false := by rw [decide_eq_false_iff_not]; omega
    have b4 : decide ((1024 : Int) < (cn : Int)) = false := by rw [decide_eq_false_iff_not]; omega
    have HN := Lib.hid (And.intro (show n ≤ 262144 by omega) (show cn ≤ 1024 by omega))
    clear hbig hl hcl
    go_enter Tryd.func10, Tryd.ntmps10
    go_upto_region 7 with (first
      | (go_at_call 22; (with_reducible show Calls _ _ #[] w _); go_must (refine (new_any _).mono ?_); rintro e w1 ⟨rfl, hB1, hb1⟩; have H1 := Lib.hid (And.intro hB1 hb1); clear hB1 hb1)
      | (go_at_call 22; go_must (refine (new_any _).mono ?_); rintro e w2 ⟨rfl, hB2, hb2⟩; have H2 := Lib.hid (And.intro hB2 hb2); clear hB2 hb2)
      | (go_at_call 14; go_must (refine (awake_any _).mono ?_); rintro e w3 ⟨rfl, hb3⟩; have H3 := Lib.hid hb3; clear hb3)
      | ((with_reducible show wpList _ _ _ (⟨some 47, _, _, _, _, _⟩ :: _) _ _); go_must (refine Seal.wpList_zeroG EB (by decide) rfl rfl w3.heap.size rfl ?_); intro w4 ho4 hb4 hz4; have O4 := Lib.hid (OwnB.of_own (l := []) ho4); have H4 := Lib.hid hb4; clear ho4 hb4 hz4)
      | ((with_reducible show wpList _ _ _ (⟨some 49, _, _, _, _, _⟩ :: _) _ _); go_must (refine wpList_appBB rfl (.tmp 47) (.tmp 48) rfl Tryd.underlying22 (by kernel_rfl) rfl O4.out H4.out.size A n c raw rfl HA.out.2.1 (HA.out.1.below (gt H1.out.2 (gt H2.out.2 (gt H3.out H4.out)))) (by have := HN.out.1; have := HA.out.2.1; simp; omega) ?_); intro v5 w5 ho hg; have H5 := Lib.hid (OwnB.below O4.out H4.out hg H4.out.size); rw [List.nil_append] at ho; obtain ⟨S5, c5, rfl, hc5⟩ := OwnB.form ho HA.out.2.1; have O5 := Lib.hid (And.intro (OwnB.rd ho) hc5); clear ho hg hc5)
      | (go_at_call 21; go_must (refine (put_nextO (R := []) (show FeedAt w5 w.heap.size (w.heap.size + 1) (.slice none 0 0) (feedS []).rest (feedS []).done (feedS []).e from by rw [feed_nil]; exact ⟨(H1.out.1.grow (gt H2.out.2 (gt H3.out H5.out))), World.ownsRow_nil _ _ _ _, Nat.lt_succ_self _⟩) S5 n c5 raw O5.out.1 HA.out.2.1 (by have := H1.out.1.lt; have := H2.out.2.size; have := H3.out.size; have := H5.out.size; omega) (by have := HN.out.1; have := HA.out.2.1; simp; omega)).mono ?_); rintro e w6 ⟨hfr6, u, v1, K6, rfl, hk1, hk2, hrl6, hf6, hv6⟩; rw [List.nil_append] at hf6 ⊢; rw [show gotL [] raw = (feedS raw).l by rw [gotL, feed_nil]; simp] at hrl6; have H6 := Lib.hid (And.intro hfr6 (And.intro hk1 (And.intro hk2 (And.intro hrl6 (And.intro hf6 hv6))))); clear hfr6 hk1 hk2 hrl6 hf6 hv6))
    obtain ⟨G2, hG2⟩ : ∃ x, x = w1.heap.size := ⟨_, rfl⟩
    obtain ⟨fe, hfe⟩ : ∃ x, x = (feedS raw).e := ⟨_, rfl⟩
    obtain ⟨wn, hwn⟩ : ∃ x, x = (feedS raw).l.length := ⟨_, rfl⟩
    obtain ⟨Au, cu, hu, hcu⟩ := H6.out.2.2.2.1.slice
    rw [← hwn] at hu hcu
    subst hu
    have s1 := H1.out.2.size
    have s1' := H1.out.1.lt
    have s2 := H2.out.2.size
    have s2' := H2.out.1.lt
    have s3 := H3.out.size
    have s5 := H5.out.size
    have s6 := H6.out.1.size
    have hb25 : Below w2.heap.size w2 w5 := gt H3.out H5.out
    have hblk6 : Blk w6 G2 78 [.slice none 0 0, .bool false, .int .i64 0] := by
      have := H2.out.1.grow hb25
      rw [← hG2] at this
      exact (H6.out.1.block G2 (by omega) (by omega) (fun e => by cases e)).trans this
    have hlow6 : Below w.heap.size w w6 := below_fr (gt H1.out.2 (gt H2.out.2 hb25)) H6.out.1 (by omega) (Nat.le_refl _) (fun Y e => by cases e)
    have hfd6 : FeedAt w6 G2 (G2 + 1) (.slice none 0 0) (feedS (raw.take 0)).rest (feedS (raw.take 0)).done (feedS (raw.take 0)).e := by
      rw [List.take_zero, feed_nil]
      exact ⟨hblk6, World.ownsRow_nil _ _ _ _, Nat.lt_succ_self _⟩
    have hpf6 : PF w6 w6.heap.size (.slice none 0 0) (Value.slice none 0 0).ownBlock (feedS (raw.take 0)).l := by
      rw [List.take_zero, feed_nil]
      exact PF.nil _ _ _
    have hS : StSt w w6 w6 raw G2 n cn 0 0 n c A (.slice none 0 0) (.slice none 0 0) :=
      ⟨Nat.zero_le _, Nat.zero_le _, by simp, HA.out.2.2, by rw [List.drop_zero]; exact HA.out.1, World.grownBy.refl _ _, hpf6, hfd6, fun Y e => by cases e⟩
    have hY1 : ∀ Y, v1.ownBlock = some Y → Y ≠ G2 ∧ w.heap.size ≤ Y := fun Y e => by
      rcases H6.out.2.2.2.2.2 with rfl | h
      · cases e
      · have := h Y e; have := H6.out.2.1; omega
    have HW := Lib.hid (And.intro hlow6 (And.intro hY1 (And.intro (show G2 < w5.heap.size by omega) (And.intro (show w.heap.size < G2 + 1 ∧ w.heap.size ≠ G2 by omega) (And.intro (show G2 < w6.heap.size ∧ w5.heap.size ≤ w6.heap.size by omega) (And.intro hfe (And.intro hwn hcu)))))))
    have HS := Lib.hid hS
    rw [← hG2, ← hfe]
    clear s1 s1' s2 s2' s3 s5 s6 hb25 hblk6 hlow6 hfd6 hpf6 hS hY1 hG2 hfe hwn hcu H1 H2 H3 H4 O4 H5 O5
    obtain ⟨G1, hG1⟩ : ∃ x, x = w.heap.size := ⟨_, rfl⟩
    rw [← hG1]
    have HG1 := Lib.hid hG1
    clear hG1
    go_wp2
    go_loopw [9, 10, 11] (fun v9 v10 v11 wr => ∃ (i at_ m cd : Nat) (D : Option Addr) (v0 : Value), v11 = .int .i64 i ∧ v10 = .slice D m cd ∧ StSt w w6 wr raw G2 n cn i at_ m cd D v9 v0) (fun _ _ v11 _ => cn - (intOf v11).toNat)
    case atStart => exact ⟨0, 0, n, c, A, .slice none 0 0, rfl, rfl, HS.out⟩
    case round =>
      clear HS
      obtain ⟨i, at_, m, cd, D, v0, rfl, rfl, FS⟩ := hrel
      replace FS := Lib.hid FS
      obtain ⟨S0, cs0, hv9, hcs0⟩ := FS.out.pf.slice
      obtain ⟨ln, hln⟩ : ∃ x, x = (feedS (raw.take at_)).l.length := ⟨_, rfl⟩
      rw [← hln] at hv9 hcs0
      subst hv9
      have HLN := Lib.hid (And.intro hln hcs0)
      clear hln hcs0
      by_cases hlt : i < cn
      -- A>
      · have hil : i < (zs.map u16V).length := by rw [List.length_map, ← HZ.out.2.1]; exact hlt
        have hil' : i < zs.length := by rw [← HZ.out.2.1]; exact hlt
        obtain ⟨ad, hAd, h9⟩ := HZ.out.1 i hil
        obtain ⟨z, hz⟩ : ∃ z, z = zs[i] := ⟨_, rfl⟩
        have hzb : z ≤ 65535 := HZ.out.2.2 z (by rw [hz]; exact List.getElem_mem _)
        have hlowr : Below w.heap.size w wr := HW.out.1.grown FS.out.st HW.out.1.size (fun j hj => by injection hj with hj; have := HW.out.2.2.2.1; omega)
        have hcell : wr.cell? (ad.add i) = some (.int .u16 (z : Int)) := (HZ.out.1.below hlowr).cells hAd i _ (by rw [List.getElem?_map, List.getElem?_eq_getElem hil', hz]; rfl)
        have HLW := Lib.hid hlowr
        subst hAd
        clear h9 hil hil' hz hlowr
        have hlt' : (i : Int) < (cn : Int) := by omega
        have hi0 : (0 : Int) ≤ (i : Int) := by omega
        have hz0 : (0 : Int) ≤ (z : Int) := by omega
        have hz1 : (z : Int) ≤ 65535 := by omega
        go_upto_region 13 with fail
        obtain ⟨k, hk⟩ : ∃ k, k = min z m := ⟨_, rfl⟩
        have hki : min (z : Int) (m : Int) = (k : Int) := by omega
        have hkm : k ≤ m := by omega
        rw [hki]
        obtain ⟨p, hp⟩ : ∃ p, p = (raw.drop at_).take k := ⟨_, rfl⟩
        have hpl : k = p.length := by rw [hp, List.length_take, List.length_drop]; have := FS.out.me; have := HA.out.2.1; omega
        obtain ⟨R1, hR1⟩ : ∃ x, x = raw.take (at_ + k) := ⟨_, rfl⟩
        have hRp : raw.take at_ ++ p = R1 := by rw [hp, hR1, List.take_add]
        have hcp := fun (W : World) (h : Below wr.heap.size wr W) (S : Option Addr) (cS : Nat) (hS : RB W S p) => put_nextO (FS.out.fd.below h) S k cS p hS hpl (by have := FS.out.fd.blk.lt; have := h.size; omega) (by have := HN.out.1; have := HA.out.2.1; have := FS.out.ale; have := FS.out.me; rw [List.length_take]; omega)
        unfold NextPostO at hcp
        rw [hRp] at hcp
        have hgot := got_more (raw.take at_) p
        rw [hRp] at hgot
        obtain ⟨L2, hL2⟩ : ∃ x, x = gotL (raw.take at_) p := ⟨_, rfl⟩
        rw [← hL2] at hgot hcp
        have hfl := feed_len R1.length R1 (Nat.le_refl _)
        have hR1l : R1.length ≤ 262144 := by rw [hR1, List.length_take]; have := HN.out.1; have := HA.out.2.1; omega
        obtain ⟨gn, hgn⟩ : ∃ x, x = L2.length := ⟨_, rfl⟩
        have hsum : (feedS (raw.take at_)).l.length + gn ≤ 262144 := by rw [hgot, List.length_append, ← hgn] at hfl; omega
        have hEs := FS.out.st.size
        have CP := Lib.hid hcp
        have HP := Lib.hid (And.intro hp (And.intro hpl (And.intro hR1 (And.intro hgot (And.intro hgn (And.intro hsum (And.intro hkm hEs)))))))
        clear hcp hgot hfl hR1l hgn hsum hk hki hkm hp hpl hR1 hRp hL2 hzb hz0 hz1 hcell hEs
        go_upto_region 14 with (first
          | ((with_reducible show wpList _ _ _ (⟨some 70, _, _, _, _, _⟩ :: _) _ _); go_must (refine Seal.wpList_zeroG EB (by decide) rfl rfl wr.heap.size rfl ?_); intro w7 ho4 hb4 hz4; have O7 := Lib.hid (OwnB.of_own (l := []) ho4); have H7 := Lib.hid hb4; clear ho4 hb4 hz4)
          | ((with_reducible show wpList _ _ _ (⟨some 73, _, _, _, _, _⟩ :: _) _ _); go_must (refine wpList_head rfl (.tmp 71) (.tmp 72) rfl rfl rfl (by have := HP.out.2.2.2.2.2.2.1; have := FS.out.mc; omega) ?_); intro D7 hD7; have HD7 := Lib.hid hD7; clear hD7)
          | ((with_reducible show wpList _ _ _ (⟨some 74, _, _, _, _, _⟩ :: _) _ _); go_must (refine wpList_appBB rfl (.tmp 70) (.tmp 73) rfl Tryd.underlying22 (by kernel_rfl) rfl O7.out H7.out.size D7 k cd p rfl HP.out.2.1 (by rw [HD7.out, HP.out.1]; exact rb_head (FS.out.rb.below (HLW.out.trans (H7.out.mono HLW.out.size))) (by rw [List.length_drop]; have := FS.out.me; have := FS.out.mc; have := HA.out.2.1; omega)) (by have := HN.out.1; have := HP.out.2.1; have := HP.out.2.2.2.2.2.2.1; have := FS.out.me; simp; omega) ?_); intro v8 w8 ho hg; have H8 := Lib.hid (OwnB.below O7.out H7.out hg H7.out.size); rw [List.nil_append] at ho; obtain ⟨S8, c8, rfl, hc8⟩ := OwnB.form ho HP.out.2.1; have O8 := Lib.hid (And.intro (OwnB.rd ho) hc8); clear ho hg hc8)
          | (go_at_call 21; go_must (refine (CP.out w8 H8.out S8 c8 O8.out.1).mono ?_); rintro e w9 ⟨hfr9, u9, v9', K9, rfl, hk1, hk2, hrl9, hf9, hv9⟩; obtain ⟨A9, c9, rfl, hc9⟩ := hrl9.slice; rw [← HP.out.2.2.2.2.1] at hrl9 hc9 ⊢; have H9 := Lib.hid (And.intro hfr9 (And.intro hk1 (And.intro hk2 (And.intro hrl9 (And.intro hf9 hv9))))); clear hfr9 hk1 hk2 hrl9 hf9 hv9 hc9))
        obtain ⟨rows9, hown9, hall9, hlt9⟩ := PF.put (FS.out.pf.below H8.out) H9.out.1 HW.out.2.2.2.2.1.1
        obtain ⟨rows2, hown2, hchn2, _⟩ := H9.out.2.2.2.1.ex
        rw [← HLN.out.1] at hown9
        rw [← HP.out.2.2.2.2.1] at hown2
        have HQ := Lib.hid (And.intro hown9 (And.intro hall9 (And.intro hlt9 (And.intro hown2 hchn2))))
        clear hown9 hall9 hlt9 hown2 hchn2
        go_wp2_with (first
          | ((with_reducible show wpList _ _ _ (⟨some 80, _, _, _, _, _⟩ :: _) _ _); go_must (refine wpList_app ER rfl (.tmp 78) (.tmp 79) rfl w6.heap.size (.slice S0 ln cs0) ln rows9.flatten rfl HQ.out.1 A9 gn c9 rows2.flatten rfl (own_rv HQ.out.2.2.2.1) HQ.out.2.2.2.1.1 HQ.out.2.2.2.2.one (by have := HP.out.2.2.2.2.2.1; have := HLN.out.1; unfold maxLen; omega) (by have := HP.out.2.2.2.2.2.1; have := HLN.out.1; omega) (by have := HP.out.2.2.2.2.2.2.2; have := H8.out.size; have := H9.out.2.1; have := H9.out.2.2.1; omega) ?_); intro v10 w10 ho10 hg10 hv10; have H10 := Lib.hid (And.intro ho10 (And.intro hg10 hv10)); clear ho10 hg10 hv10)
          | ((with_reducible show wpList _ _ _ (⟨some 83, _, _, _, _, _⟩ :: _) _ _); go_must (refine wpList_behind rfl (.tmp 81) (.tmp 82) rfl rfl rfl HP.out.2.2.2.2.2.2.1 ?_); intro D11 hD11; have HD11 := Lib.hid hD11; clear hD11))
        refine ⟨⟨i + 1, at_ + k, m - k, cd - k, D11, v9', by rw [Int.natCast_add]; rfl, rfl, ?_⟩, by simp only [intOf]; omega⟩
        have t1 := HP.out.2.2.2.2.2.2.1
        have t2 := HP.out.2.2.2.2.2.2.2
        have t3 := H8.out.size
        have t4 := H9.out.1.size
        have t5 := H9.out.2.1
        have t6 := H9.out.2.2.1
        have t7 := HW.out.2.2.2.2.1.1
        have t8 := FS.out.me
        have t9 := FS.out.ale
        have t10 := H10.out.2.1.size
        have hv9 := H9.out.2.2.2.2.2
        have y0 : ∀ Y, v0.ownBlock = some Y → w6.heap.size ≤ Y ∧ Y < w8.heap.size := fun Y e => ⟨FS.out.h0 Y e, ((FS.out.fd.below H8.out).own.lt Y e).2⟩
        refine ⟨by omega, by omega, by omega, by have := FS.out.mc; omega, ?_, ?_, ?_, ?_, ?_⟩
        · have := rb_behind (l := k) (c := cd) FS.out.rb (by rw [List.length_drop]; have := HA.out.2.1; omega) (by rw [List.length_drop]; have := HA.out.2.1; have := FS.out.mc; omega)
          rw [← HD11.out, List.drop_drop] at this
          exact this
        · refine ⟨H10.out.2.1.os.trans (H9.out.1.os.trans (H8.out.os.trans FS.out.st.os)), H10.out.2.1.tape.trans (H9.out.1.tape.trans (H8.out.tape.trans FS.out.st.tape)), H10.out.2.1.output.trans (H9.out.1.output.trans (H8.out.output.trans FS.out.st.output)), by omega, fun q hq hne => ?_⟩
          refine (H10.out.2.1.block q (by omega) (fun e => ?_)).trans ((H9.out.1.block q (by omega) (fun e => hne (by rw [e])) (fun e => ?_)).trans ((H8.out.block q (by omega)).trans (FS.out.st.block q hq hne)))
          · have := (HQ.out.1.lt q e.symm).1; omega
          · have := y0 q e.symm; omega
        · have hpf := PF.step HQ.out.2.1 HQ.out.2.2.1 HQ.out.2.2.2.2 t6 t4 (by omega) (fun Y e => (y0 Y e).2) hv9 (fun Y e => (H9.out.2.2.2.2.1.own.lt Y e).2) (by rw [← HLN.out.1, ← HP.out.2.2.2.2.1]; exact H10.out.1) H10.out.2.1 H10.out.2.2
          rw [← HP.out.2.2.2.1, HP.out.2.2.1] at hpf
          exact hpf
        · have hfa := H9.out.2.2.2.2.1.kept H10.out.2.1 (fun e => by have := (HQ.out.1.lt G2 e.symm).1; omega) (fun Y e e2 => by
            have h3 := HQ.out.2.2.1 Y e2.symm
            rcases hv9 with rfl | h
            · exact h3.1 e.symm
            · have := h Y e; omega)
          rw [HP.out.2.2.1] at hfa
          exact hfa
        · intro Y e
          rcases hv9 with rfl | h
          · exact FS.out.h0 Y e
          · have := h Y e; omega
      -- <A
      · have hge : decide ((i : Int) < (cn : Int)) = false := by rw [decide_eq_false_iff_not]; omega
        go_upto_region 16 with fail
        clear hge hlt
        obtain ⟨p, hp⟩ : ∃ p, p = raw.drop at_ := ⟨_, rfl⟩
        have hpl : m = p.length := by rw [hp, List.length_drop]; have := FS.out.me; have := HA.out.2.1; omega
        have hRp : raw.take at_ ++ p = raw := by rw [hp, List.take_append_drop]
        have hcp := fun (W : World) (h : Below wr.heap.size wr W) (S : Option Addr) (cS : Nat) (hS : RB W S p) => put_nextO (FS.out.fd.below h) S m cS p hS hpl (by have := FS.out.fd.blk.lt; have := h.size; omega) (by have := HN.out.1; have := HA.out.2.1; have := FS.out.ale; have := FS.out.me; rw [List.length_take]; omega)
        unfold NextPostO at hcp
        rw [hRp, ← HW.out.2.2.2.2.2.1] at hcp
        have hgot := got_more (raw.take at_) p
        rw [hRp] at hgot
        obtain ⟨L2, hL2⟩ : ∃ x, x = gotL (raw.take at_) p := ⟨_, rfl⟩
        rw [← hL2] at hgot hcp
        have hfl := feed_len raw.length raw (Nat.le_refl _)
        obtain ⟨gn, hgn⟩ : ∃ x, x = L2.length := ⟨_, rfl⟩
        have hsum : ln + gn = wn := by rw [HW.out.2.2.2.2.2.2.1, hgot, List.length_append, ← hgn, HLN.out.1]
        have hwn6 : wn ≤ 262144 := by rw [HW.out.2.2.2.2.2.2.1]; have := HN.out.1; have := HA.out.2.1; omega
        have hEs := FS.out.st.size
        have hlowr : Below w.heap.size w wr := HW.out.1.grown FS.out.st HW.out.1.size (fun j hj => by injection hj with hj; have := HW.out.2.2.2.1; omega)
        have HLW := Lib.hid hlowr
        have CP := Lib.hid hcp
        have HP := Lib.hid (And.intro hp (And.intro hpl (And.intro hgot (And.intro hgn (And.intro hsum (And.intro hwn6 hEs))))))
        clear hcp hgot hfl hgn hsum hwn6 hpl hp hRp hL2 hEs hlowr
        go_upto_region 17 with (first
          | ((with_reducible show wpList _ _ _ (⟨some 86, _, _, _, _, _⟩ :: _) _ _); go_must (refine Seal.wpList_zeroG EB (by decide) rfl rfl wr.heap.size rfl ?_); intro w7 ho4 hb4 hz4; have O7 := Lib.hid (OwnB.of_own (l := []) ho4); have H7 := Lib.hid hb4; clear ho4 hb4 hz4)
          | ((with_reducible show wpList _ _ _ (⟨some 88, _, _, _, _, _⟩ :: _) _ _); go_must (refine wpList_appBB rfl (.tmp 86) (.tmp 87) rfl Tryd.underlying22 (by kernel_rfl) rfl O7.out H7.out.size D m cd p rfl HP.out.2.1 (by rw [HP.out.1]; exact FS.out.rb.below (HLW.out.trans (H7.out.mono HLW.out.size))) (by have := HN.out.1; have := HP.out.2.1; have := FS.out.me; simp; omega) ?_); intro v8 w8 ho hg; have H8 := Lib.hid (OwnB.below O7.out H7.out hg H7.out.size); rw [List.nil_append] at ho; obtain ⟨S8, c8, rfl, hc8⟩ := OwnB.form ho HP.out.2.1; have O8 := Lib.hid (And.intro (OwnB.rd ho) hc8); clear ho hg hc8)
          | (go_at_call 21; go_must (refine (CP.out w8 H8.out S8 c8 O8.out.1).mono ?_); rintro e w9 ⟨hfr9, u9, v9', K9, rfl, hk1, hk2, hrl9, hf9, hv9⟩; obtain ⟨A9, c9, rfl, hc9⟩ := hrl9.slice; rw [← HP.out.2.2.2.1] at hrl9 hc9 ⊢; have H9 := Lib.hid (And.intro hfr9 (And.intro hk1 (And.intro hk2 (And.intro hrl9 (And.intro hf9 hv9))))); clear hfr9 hk1 hk2 hrl9 hf9 hv9 hc9))
        obtain ⟨rows9, hown9, hall9, hlt9⟩ := PF.put (FS.out.pf.below H8.out) H9.out.1 HW.out.2.2.2.2.1.1
        obtain ⟨rows2, hown2, hchn2, h29⟩ := H9.out.2.2.2.1.ex
        rw [← HLN.out.1] at hown9
        rw [← HP.out.2.2.2.1] at hown2
        have HQ := Lib.hid (And.intro hown9 (And.intro hall9 (And.intro hlt9 (And.intro hown2 hchn2))))
        clear hown9 hall9 hlt9 hown2 hchn2 h29
        go_upto_region 18 with (first
          | ((with_reducible show wpList _ _ _ (⟨some 94, _, _, _, _, _⟩ :: _) _ _); go_must (refine wpList_app ER rfl (.tmp 92) (.tmp 93) rfl w6.heap.size (.slice S0 ln cs0) ln rows9.flatten rfl HQ.out.1 A9 gn c9 rows2.flatten rfl (own_rv HQ.out.2.2.2.1) HQ.out.2.2.2.1.1 HQ.out.2.2.2.2.one (by have := HP.out.2.2.2.2; unfold maxLen; omega) (by have := HP.out.2.2.2.2; omega) (by have := HP.out.2.2.2.2.2.2; have := H8.out.size; have := H9.out.2.1; have := H9.out.2.2.1; omega) ?_); intro v10 w10 ho10 hg10 hv10; obtain ⟨S10, c10, rfl, hc10⟩ := own_slice ho10; have H10 := Lib.hid (And.intro ho10 (And.intro hg10 hv10)); clear ho10 hg10 hv10 hc10; rw [HP.out.2.2.2.2.1]))
        have t2 := HP.out.2.2.2.2.2.2
        have t3 := H8.out.size
        have t4 := H9.out.1.size
        have t5 := H9.out.2.1
        have t6 := H9.out.2.2.1
        have t7 := HW.out.2.2.2.2.1.1
        have t10 := H10.out.2.1.size
        have hv9 := H9.out.2.2.2.2.2
        have y0 : ∀ Y, v0.ownBlock = some Y → w6.heap.size ≤ Y ∧ Y < w8.heap.size := fun Y e => ⟨FS.out.h0 Y e, ((FS.out.fd.below H8.out).own.lt Y e).2⟩
        have hst : w6.grownBy w10 (some G2) := by
          refine ⟨H10.out.2.1.os.trans (H9.out.1.os.trans (H8.out.os.trans FS.out.st.os)), H10.out.2.1.tape.trans (H9.out.1.tape.trans (H8.out.tape.trans FS.out.st.tape)), H10.out.2.1.output.trans (H9.out.1.output.trans (H8.out.output.trans FS.out.st.output)), by omega, fun q hq hne => ?_⟩
          refine (H10.out.2.1.block q (by omega) (fun e => ?_)).trans ((H9.out.1.block q (by omega) (fun e => hne (by rw [e])) (fun e => ?_)).trans ((H8.out.block q (by omega)).trans (FS.out.st.block q hq hne)))
          · have := (HQ.out.1.lt q e.symm).1; omega
          · have := y0 q e.symm; omega
        have hpf := PF.step HQ.out.2.1 HQ.out.2.2.1 HQ.out.2.2.2.2 t6 t4 (by omega) (fun Y e => (y0 Y e).2) hv9 (fun Y e => (H9.out.2.2.2.2.1.own.lt Y e).2) (by rw [← HLN.out.1, ← HP.out.2.2.2.1]; exact H10.out.1) H10.out.2.1 H10.out.2.2
        rw [← HP.out.2.2.1] at hpf
        have hfa := H9.out.2.2.2.2.1.kept H10.out.2.1 (fun e => by have := (HQ.out.1.lt G2 e.symm).1; omega) (fun Y e e2 => by
          have h3 := HQ.out.2.2.1 Y e2.symm
          rcases hv9 with rfl | h
          · exact h3.1 e.symm
          · have := h Y e; omega)
        rw [HP.out.2.2.2.2.1] at hpf
        have hff : FeedAt w10 G1 (G1 + 1) v1 (feedS raw).rest (feedS raw).done (feedS raw).e := by
          rw [HG1.out]
          exact H6.out.2.2.2.2.1.kept hst (fun e => by injection e with e; have := HW.out.2.2.2.1; omega) (fun Y e e2 => by injection e2 with e2; exact (HW.out.2.1 Y e).1 e2)
        have hwh : RL w10 w5.heap.size (.slice Au wn cu) (feedS raw).l := H6.out.2.2.2.1.rl.far hst HW.out.2.2.1
        have hlow10 : Below w.heap.size w w10 := HW.out.1.grown hst HW.out.1.size (fun j hj => by injection hj with hj; have := HW.out.2.2.2.1; omega)
        have hsame := same_all Au wn cu S10 c10 (feedS raw).l w10 HW.out.2.2.2.2.2.2.1 hwh.reads.2 hpf.reads.2 (by have := HP.out.2.2.2.2.2.1; omega) (feed_lens raw.length raw (Nat.le_refl _))
        have hr1 := rest_any hff
        have hr2 := rest_any hfa
        obtain ⟨fr, hfr⟩ : ∃ x, x = (feedS raw).rest.length := ⟨_, rfl⟩
        rw [← hfr] at hr1 hr2
        have SA := Lib.hid hsame
        have RS := Lib.hid (And.intro hr1 hr2)
        have HT := Lib.hid (And.intro hff (And.intro hwh (And.intro hlow10 (And.intro hfr HP.out.2.2.2.2.2.1))))
        clear t2 t3 t4 t5 t6 t7 t10 hv9 y0 hst hpf hfa hff hwh hlow10 hsame hr1 hr2 hfr
        go_upto_region 20 with (first
          | (go_at_call 23; (with_reducible show Calls _ _ #[.pointer (some ⟨G1, _, _⟩)] _ _); go_must (refine (RS.out.1).mono ?_); rintro e w4 ⟨rfl, rfl⟩)
          | (go_at_call 23; (with_reducible show Calls _ _ #[.pointer (some ⟨G2, _, _⟩)] _ _); go_must (refine (RS.out.2).mono ?_); rintro e w4 ⟨rfl, rfl⟩)
          | (go_at_call 25; go_must (refine (SA.out).mono ?_); rintro e w11 ⟨rfl, hb11⟩; have H11 := Lib.hid hb11; clear hb11))
        have HG := Lib.hid (And.intro (HT.out.1.below H11.out) (And.intro (HT.out.2.1.below H11.out) (And.intro (HT.out.2.2.1.trans (H11.out.mono HT.out.2.2.1.size)) (And.intro HT.out.2.2.2.1 (And.intro HT.out.2.2.2.2 (And.intro HW.out.2.2.2.2.2.1 HW.out.2.2.2.2.2.2.1))))))
        clear HT H11 RS SA H10 HQ H9 O8 H8 O7 H7 CP HP HLW HLN FS HW H6 HG1
        go_wp2
        go_loopw [17, 18] (fun v17 v18 wr => ∃ (at2 j : Nat), v17 = .int .i64 at2 ∧ v18 = .int .i64 j ∧ Front raw j at2 ∧ Below w11.heap.size w11 wr) (fun _ v18 _ => wn - (intOf v18).toNat)
        case atStart => exact ⟨0, 0, rfl, rfl, Front.start raw, Below.refl _ _⟩
        case round =>
          obtain ⟨at2, j, rfl, rfl, HF, hlw⟩ := hrel
          replace HF := Lib.hid HF
          have HLW := Lib.hid hlw
          clear hlw
          by_cases hlt : j < wn
          -- A>
          · obtain ⟨r, N, hread, hget, hN1, hNs, hN6, hcl, hfr'⟩ := HF.out.step (by rw [← HG.out.2.2.2.2.2.2]; exact hlt)
            have hlen := all_len hread
            obtain ⟨D2, hD2⟩ : ∃ D, D = (if c = at2 then A else A.map (·.add at2)) := ⟨_, rfl⟩
            obtain ⟨nm, hnm⟩ : ∃ x, x = n - at2 := ⟨_, rfl⟩
            have ha2 : at2 ≤ n := by have := HF.out.2.1; have := HA.out.2.1; omega
            have cp := fun (W : World) (h : Below w.heap.size w W) => read_any D2 nm (c - at2) (raw.drop at2) W (by rw [hD2]; exact rb_behind (HA.out.1.below h) (by have := HA.out.2.1; omega) (by have := HA.out.2.1; have := HA.out.2.2; omega)) (by rw [List.length_drop, hnm, HA.out.2.1]) (by have := HA.out.2.2; omega) (by have := HN.out.1; omega)
            simp only [hread] at cp
            obtain ⟨adu, cU, hAu, hsp, hq, hcU⟩ := ((HG.out.2.1.below HLW.out).reads.2).at_ (i := j) (by rw [← HG.out.2.2.2.2.2.2]; exact hlt)
            have hrj : (feedS raw).l[j]'(by rw [← HG.out.2.2.2.2.2.2]; exact hlt) = r := by
              rw [List.getElem?_eq_getElem (by rw [← HG.out.2.2.2.2.2.2]; exact hlt)] at hget
              injection hget
            rw [hrj] at hq
            have hcU5 := hq.len
            obtain ⟨A8, k8, P8, q8, hc8, hv8, hb8, hs8, _, _, _, _⟩ := hq
            have sm := fun (W : World) A5 k5 A7 k7 B5 l5 B7 l7 h1 h2 h3 h4 h5 h6 => same_req (w := W) r r A5 k5 A7 k7 B5 l5 B7 l7 rfl h1 h2 h3 h4 h5 h6 (by omega) (by omega)
            obtain ⟨smm, hsm⟩ : ∃ x, x = (⟨r.method.toArray⟩ : ByteArray) := ⟨_, rfl⟩
            obtain ⟨stg, hst⟩ : ∃ x, x = (⟨r.target.toArray⟩ : ByteArray) := ⟨_, rfl⟩
            obtain ⟨hm, hhm⟩ : ∃ x, x = r.headers.length := ⟨_, rfl⟩
            obtain ⟨bl, hbl⟩ : ∃ x, x = r.body.length := ⟨_, rfl⟩
            obtain ⟨cl, hcl'⟩ : ∃ x, x = r.close := ⟨_, rfl⟩
            unfold ReadPost at cp
            simp only at cp
            rw [← hsm, ← hst, ← hhm, ← hbl, ← hcl'] at cp sm hc8
            rw [← hcl', ← HG.out.2.2.2.2.2.2] at hcl
            have CP := Lib.hid cp
            have SM := Lib.hid sm
            have HU := Lib.hid (And.intro hsp (And.intro hcU (And.intro hcU5 (And.intro hc8 (And.intro hv8 (And.intro hb8 hs8))))))
            have hnN : at2 + N ≤ n := by have := HA.out.2.1; omega
            have HD := Lib.hid (And.intro hD2 (And.intro hnm (And.intro ha2 (And.intro hfr' (And.intro hcl hnN)))))
            have i1 : decide ((N : Int) < 1) = false := by rw [decide_eq_false_iff_not]; omega
            have i2 : (n : Int) - (at2 : Int) = (nm : Int) := by omega
            have i3 : IntKind.i64.wrap (nm : Int) = (nm : Int) := by rw [IntKind.wrap_i64]; omega
            have i4 : decide ((nm : Int) < (N : Int)) = false := by rw [decide_eq_false_iff_not]; omega
            have HD9 := Lib.hid (show N ≤ nm by omega)
            have i5 : (0 : Int) ≤ (j : Int) := by omega
            have i6 : (j : Int) < (wn : Int) := by omega
            have i7 : (wn : Int) ≤ 262144 := by have := HG.out.2.2.2.2.1; omega
            have i8 : (at2 : Int) + (N : Int) ≤ 1073741824 := by omega
            subst hAu
            clear cp sm hread hget hN1 hNs hN6 hcl hfr' hlen hD2 hnm ha2 hsp hcU hcU5 hc8 hv8 hb8 hs8 hrj hsm hst hhm hbl hcl' hnN
            go_upto_region 25 with (first
              | ((with_reducible show wpList _ _ _ (⟨some 120, _, _, _, _, _⟩ :: _) _ _); go_must (refine wpList_behind rfl (.tmp 118) (.tmp 119) rfl rfl rfl HD.out.2.2.1 ?_); intro D2' hD2'; obtain rfl : D2 = D2' := HD.out.1.trans hD2'.symm; clear hD2'; rw [← HD.out.2.1])
              | (go_at_call 16; (with_reducible show Calls _ _ #[_] _ _); go_must (refine (CP.out _ (HG.out.2.2.1.trans (HLW.out.mono HG.out.2.2.1.size))).mono ?_); rintro e w12 hp; obtain ⟨hb, A1, k1, P1, q1, K1, rfl, ho1, hK1, hw1, hob1⟩ := hp; have A12 := Lib.hid (gt HLW.out hb); have E12 := Lib.hid hb; have R1 := Lib.hid (And.intro ho1 hob1); clear ho1 hK1 hw1 hob1; clear hb)
              | ((with_reducible show wpList _ _ _ (⟨some 19, .alloc _, _, _, _, _⟩ :: _) _ _); go_must (refine wpList_allocB AR rfl rfl w12.heap.size rfl ?_); intro w12a hBx hbx hzx; have H12 := Lib.hid (And.intro hBx hbx); clear hBx hbx hzx)
              | ((with_reducible show wpList _ _ _ (⟨none, .store _ (.tmp 19) _, _, _, _, _⟩ :: _) _ _); go_must (refine wpList_storeB AR rfl (.tmp 19) (.tmp 122) rfl w12.heap.size 0 rfl [.string smm, .string stg, .slice A1 hm k1, .slice P1 bl q1, .bool cl] rfl rfl _ _ H12.out.1 (by simp) (by simp [Value.oneCell']) ?_); intro w12b hBy hgy hzy
                 simp only [splice, List.take_zero, List.nil_append, List.length_cons, List.length_nil, List.drop_succ_cons, List.drop_zero, List.append_nil, Nat.zero_add, List.drop_nil] at hBy
                 have D12 := Lib.hid (H12.out.2.grown hgy H12.out.2.size (fun j hj => by injection hj with hj; omega))
                 have C12 := Lib.hid hBy
                 have B12 := Lib.hid (gt A12.out D12.out)
                 clear hBy hgy hzy))
            have LW12 := Lib.hid (show Below wr.heap.size wr w12b from gt E12.out D12.out)
            obtain ⟨h19, hh19⟩ : ∃ x, x = w12.heap.size := ⟨_, rfl⟩
            have C19 : Blk w12b h19 30 [.string smm, .string stg, .slice A1 hm k1, .slice P1 bl q1, .bool cl] := hh19 ▸ C12.out
            have e4 := C19.cell 4
            simp only [List.getElem?_cons_succ, List.getElem?_cons_zero] at e4
            have HC19 := Lib.hid C19
            rw [← hh19]
            clear C19 hh19
            try simp only [Act.put, List.setIfInBounds_toArray, List.set_cons_succ, List.set_cons_zero]
            refine wp_region_qb (by kernel_rfl) (by kernel_rfl) ?_
            refine wq_val (o := ⟨some 125, _, _, _, _, _⟩) (v := .int .i64 0) rfl (fun w' hC => by go_simp) ?_
            simp only [Act.put, List.setIfInBounds_toArray, List.set_cons_succ, List.set_cons_zero]
            refine wq_val (o := ⟨some 126, _, _, _, _, _⟩) (v := .bool false) rfl (fun w' hC => by go_simp) ?_
            simp only [Act.put, List.setIfInBounds_toArray, List.set_cons_succ, List.set_cons_zero]
            refine wq_val (o := ⟨some 127, _, _, _, _, _⟩) (v := .bool false) rfl (fun w' hC => by go_simp) ?_
            simp only [Act.put, List.setIfInBounds_toArray, List.set_cons_succ, List.set_cons_zero]
            refine wq_val (o := ⟨some 128, _, _, _, _, _⟩) (v := .int .i64 (N : Int)) rfl (fun w' hC => by go_simp) ?_
            simp only [Act.put, List.setIfInBounds_toArray, List.set_cons_succ, List.set_cons_zero]
            refine wq_val (o := ⟨some 129, _, _, _, _, _⟩) (v := .bool false) rfl (fun w' hC => by go_simp) ?_
            simp only [Act.put, List.setIfInBounds_toArray, List.set_cons_succ, List.set_cons_zero]
            refine wq_val (o := ⟨some 130, _, _, _, _, _⟩) (v := .bool false) rfl (fun w' hC => by go_simp) ?_
            simp only [Act.put, List.setIfInBounds_toArray, List.set_cons_succ, List.set_cons_zero]
            refine wq_val (o := ⟨some 131, _, _, _, _, _⟩) (v := .bool false) rfl (fun w' hC => by go_simp) ?_
            simp only [Act.put, List.setIfInBounds_toArray, List.set_cons_succ, List.set_cons_zero]
            refine wq_val (o := ⟨some 132, _, _, _, _, _⟩) (v := .int .i64 (N : Int)) rfl (fun w' hC => by go_simp) ?_
            simp only [Act.put, List.setIfInBounds_toArray, List.set_cons_succ, List.set_cons_zero]
            refine wq_val (o := ⟨some 133, _, _, _, _, _⟩) (v := .slice A n c) rfl (fun w' hC => by go_simp) ?_
            simp only [Act.put, List.setIfInBounds_toArray, List.set_cons_succ, List.set_cons_zero]
            refine wq_val (o := ⟨some 134, _, _, _, _, _⟩) (v := .int .i64 (n : Int)) rfl (fun w' hC => by go_simp) ?_
            simp only [Act.put, List.setIfInBounds_toArray, List.set_cons_succ, List.set_cons_zero]
            refine wq_val (o := ⟨some 135, _, _, _, _, _⟩) (v := .int .i64 (at2 : Int)) rfl (fun w' hC => by go_simp) ?_
            simp only [Act.put, List.setIfInBounds_toArray, List.set_cons_succ, List.set_cons_zero]
            refine wq_val (o := ⟨some 136, _, _, _, _, _⟩) (v := .int .i64 (nm : Int)) rfl (fun w' hC => by go_simp) ?_
            simp only [Act.put, List.setIfInBounds_toArray, List.set_cons_succ, List.set_cons_zero]
            refine wq_val (o := ⟨some 137, _, _, _, _, _⟩) (v := .bool false) rfl (fun w' hC => by go_simp; exact HD9.out) ?_
            simp only [Act.put, List.setIfInBounds_toArray, List.set_cons_succ, List.set_cons_zero]
            refine wq_val (o := ⟨some 138, _, _, _, _, _⟩) (v := .bool false) rfl (fun w' hC => by go_simp) ?_
            simp only [Act.put, List.setIfInBounds_toArray, List.set_cons_succ, List.set_cons_zero]
            refine wq_val (o := ⟨some 139, _, _, _, _, _⟩) (v := .bool false) rfl (fun w' hC => by go_simp) ?_
            simp only [Act.put, List.setIfInBounds_toArray, List.set_cons_succ, List.set_cons_zero]
            refine wq_loadB (o := ⟨some 140, _, _, _, _, _⟩) AR rfl _ rfl h19 0 rfl _ _ (fun w' hC => From.blk hC HC19.out) [.string smm, .string stg, .slice A1 hm k1, .slice P1 bl q1, .bool cl] (by simp) rfl ?_
            simp only [Act.put, List.setIfInBounds_toArray, List.set_cons_succ, List.set_cons_zero]
            refine wq_val (o := ⟨some 141, _, _, _, _, _⟩) (v := .slice (some adu) wn cu) rfl (fun w' hC => by go_simp) ?_
            simp only [Act.put, List.setIfInBounds_toArray, List.set_cons_succ, List.set_cons_zero]
            refine wq_val (o := ⟨some 142, _, _, _, _, _⟩) (v := .int .i64 (j : Int)) rfl (fun w' hC => by go_simp) ?_
            simp only [Act.put, List.setIfInBounds_toArray, List.set_cons_succ, List.set_cons_zero]
            refine wq_val (o := ⟨some 143, _, _, _, _, _⟩) (v := .pointer (some (adu.add (j * 5)))) rfl (fun w' hC => by go_simp) ?_
            simp only [Act.put, List.setIfInBounds_toArray, List.set_cons_succ, List.set_cons_zero]
            refine wq_val (o := ⟨some 144, _, _, _, _, _⟩) (v := .agg #[.string smm, .string stg, .slice A8 hm k8, .slice P8 bl q8, .bool cl]) rfl (fun w' hC => by
              have k := load_req (w := w') (k := j) HU.out.1 (fun q v hv => cell_grow (cell_grow (HU.out.2.1 q v hv) (LW12.out)) hC) HU.out.2.2.1
              rw [HU.out.2.2.2.1] at k
              simp [execOp, Act.eval, k, Result.andThen]) ?_
            simp only [Act.put, List.setIfInBounds_toArray, List.set_cons_succ, List.set_cons_zero]
            refine wq_call (f := 17) (args := #[.agg #[.string smm, .string stg, .slice A1 hm k1, .slice P1 bl q1, .bool cl], .agg #[.string smm, .string stg, .slice A8 hm k8, .slice P8 bl q8, .bool cl]]) (v := .bool true) rfl (fun w' _ => by go_simp) (fun w' hC => ?_) ?_
            · exact SM.out w' A1 k1 P1 q1 A8 k8 P8 q8 ((own_rv R1.out.1).below (gt D12.out hC)) ((HU.out.2.2.2.2.1.below LW12.out).below hC) ((own_rv R1.out.2).rb.below (gt D12.out hC)) ((HU.out.2.2.2.2.2.1.below LW12.out).below hC) (own_spot R1.out.1) HU.out.2.2.2.2.2.2
            simp only [Act.put, List.setIfInBounds_toArray, List.set_cons_succ, List.set_cons_zero]
            refine wq_val (o := ⟨some 146, _, _, _, _, _⟩) (v := .bool false) rfl (fun w' hC => by go_simp) ?_
            simp only [Act.put, List.setIfInBounds_toArray, List.set_cons_succ, List.set_cons_zero]
            refine wq_val (o := ⟨some 147, _, _, _, _, _⟩) (v := .bool false) rfl (fun w' hC => by go_simp) ?_
            simp only [Act.put, List.setIfInBounds_toArray, List.set_cons_succ, List.set_cons_zero]
            refine wq_val (o := ⟨some 148, _, _, _, _, _⟩) (v := .bool false) rfl (fun w' hC => by go_simp) ?_
            simp only [Act.put, List.setIfInBounds_toArray, List.set_cons_succ, List.set_cons_zero]
            refine wq_val (o := ⟨some 149, _, _, _, _, _⟩) (v := .pointer (some ⟨h19, 4, none⟩)) rfl (fun w' hC => by go_simp) ?_
            simp only [Act.put, List.setIfInBounds_toArray, List.set_cons_succ, List.set_cons_zero]
            refine wq_val (o := ⟨some 150, _, _, _, _, _⟩) (v := .bool cl) rfl (fun w' hC => by have := cell_grow e4 hC; go_simp) ?_
            simp only [Act.put, List.setIfInBounds_toArray, List.set_cons_succ, List.set_cons_zero]
            refine wq_val (o := ⟨some 151, _, _, _, _, _⟩) (v := .pointer (some ⟨h19, 4, none⟩)) rfl (fun w' hC => by go_simp) ?_
            simp only [Act.put, List.setIfInBounds_toArray, List.set_cons_succ, List.set_cons_zero]
            refine wq_val (o := ⟨some 152, _, _, _, _, _⟩) (v := .bool cl) rfl (fun w' hC => by have := cell_grow e4 hC; go_simp) ?_
            simp only [Act.put, List.setIfInBounds_toArray, List.set_cons_succ, List.set_cons_zero]
            refine wq_val (o := ⟨some 153, _, _, _, _, _⟩) (v := .bool cl) rfl (fun w' hC => by go_simp) ?_
            simp only [Act.put, List.setIfInBounds_toArray, List.set_cons_succ, List.set_cons_zero]
            have hjcl := HD.out.2.2.2.2.1
            cases cl
            · clear hjcl
              refine BigFrame.wpQuiet_skip rfl ?_
              simp only [Act.put, List.setIfInBounds_toArray, List.set_cons_succ, List.set_cons_zero]
              refine BigFrame.wpQuiet_skip rfl ?_
              simp only [Act.put, List.setIfInBounds_toArray, List.set_cons_succ, List.set_cons_zero]
              refine BigFrame.wpQuiet_skip rfl ?_
              simp only [Act.put, List.setIfInBounds_toArray, List.set_cons_succ, List.set_cons_zero]
              refine BigFrame.wpQuiet_skip rfl ?_
              simp only [Act.put, List.setIfInBounds_toArray, List.set_cons_succ, List.set_cons_zero]
              refine BigFrame.wpQuiet_skip rfl ?_
              simp only [Act.put, List.setIfInBounds_toArray, List.set_cons_succ, List.set_cons_zero]
              refine wq_val (o := ⟨some 159, _, _, _, _, _⟩) (v := .bool false) rfl (fun w' hC => by go_simp) ?_
              simp only [Act.put, List.setIfInBounds_toArray, List.set_cons_succ, List.set_cons_zero]
              refine wq_val (o := ⟨some 160, _, _, _, _, _⟩) (v := .bool false) rfl (fun w' hC => by go_simp) ?_
              simp only [Act.put, List.setIfInBounds_toArray, List.set_cons_succ, List.set_cons_zero]
              refine wq_val (o := ⟨some 161, _, _, _, _, _⟩) (v := .bool false) rfl (fun w' hC => by go_simp) ?_
              simp only [Act.put, List.setIfInBounds_toArray, List.set_cons_succ, List.set_cons_zero]
              refine wpQuiet_nil ?_
              intro w13 h13
              have H13 := Lib.hid h13
              clear h13 e4
              go_wp2
              exact ⟨⟨at2 + N, j + 1, by rw [Int.natCast_add], by rw [Int.natCast_add]; rfl, HD.out.2.2.2.1, gt (gt HLW.out LW12.out) H13.out⟩, by simp only [intOf]; omega⟩
            · have hjw := hjcl rfl
              clear hjcl
              have z1 : (wn : Int) - 1 = (j : Int) := by omega
              have z2 : IntKind.i64.wrap (j : Int) = (j : Int) := by rw [IntKind.wrap_i64]; omega
              have HJ := Lib.hid hjw
              clear hjw
              refine wq_val (o := ⟨some 154, _, _, _, _, _⟩) (v := .int .i64 (j : Int)) rfl (fun w' hC => by go_simp) ?_
              simp only [Act.put, List.setIfInBounds_toArray, List.set_cons_succ, List.set_cons_zero]
              refine wq_val (o := ⟨some 155, _, _, _, _, _⟩) (v := .slice (some adu) wn cu) rfl (fun w' hC => by go_simp) ?_
              simp only [Act.put, List.setIfInBounds_toArray, List.set_cons_succ, List.set_cons_zero]
              refine wq_val (o := ⟨some 156, _, _, _, _, _⟩) (v := .int .i64 (wn : Int)) rfl (fun w' hC => by go_simp) ?_
              simp only [Act.put, List.setIfInBounds_toArray, List.set_cons_succ, List.set_cons_zero]
              refine wq_val (o := ⟨some 157, _, _, _, _, _⟩) (v := .int .i64 (j : Int)) rfl (fun w' hC => by go_simp) ?_
              simp only [Act.put, List.setIfInBounds_toArray, List.set_cons_succ, List.set_cons_zero]
              refine wq_val (o := ⟨some 158, _, _, _, _, _⟩) (v := .bool true) rfl (fun w' hC => by go_simp) ?_
              simp only [Act.put, List.setIfInBounds_toArray, List.set_cons_succ, List.set_cons_zero]
              refine wq_val (o := ⟨some 159, _, _, _, _, _⟩) (v := .bool true) rfl (fun w' hC => by go_simp) ?_
              simp only [Act.put, List.setIfInBounds_toArray, List.set_cons_succ, List.set_cons_zero]
              refine wq_val (o := ⟨some 160, _, _, _, _, _⟩) (v := .bool false) rfl (fun w' hC => by go_simp) ?_
              simp only [Act.put, List.setIfInBounds_toArray, List.set_cons_succ, List.set_cons_zero]
              refine wq_val (o := ⟨some 161, _, _, _, _, _⟩) (v := .bool false) rfl (fun w' hC => by go_simp) ?_
              simp only [Act.put, List.setIfInBounds_toArray, List.set_cons_succ, List.set_cons_zero]
              refine wpQuiet_nil ?_
              intro w13 h13
              have H13 := Lib.hid h13
              clear h13 e4 z1 z2
              go_wp2
              exact ⟨⟨at2 + N, j + 1, by rw [Int.natCast_add], by rw [Int.natCast_add]; rfl, HD.out.2.2.2.1, gt (gt HLW.out LW12.out) H13.out⟩, by simp only [intOf]; omega⟩
          -- <A
          · have hge : decide ((j : Int) < (wn : Int)) = false := by rw [decide_eq_false_iff_not]; omega
            go_upto_region 28 with fail
            clear hge
            have hj : j = (feedS raw).l.length := by have := HF.out.1; have := HG.out.2.2.2.2.2.2; omega
            obtain ⟨ha2, hlast⟩ := Front.last (hj ▸ HF.out)
            obtain ⟨D2, hD2⟩ : ∃ D, D = (if c = at2 then A else A.map (·.add at2)) := ⟨_, rfl⟩
            obtain ⟨nm, hnm⟩ : ∃ x, x = n - at2 := ⟨_, rfl⟩
            have ha3 : at2 ≤ n := by have := HA.out.2.1; omega
            have cp := fun (W : World) (h : Below w.heap.size w W) => read_any D2 nm (c - at2) (raw.drop at2) W (by rw [hD2]; exact rb_behind (HA.out.1.below h) (by have := HA.out.2.1; omega) (by have := HA.out.2.1; have := HA.out.2.2; omega)) (by rw [List.length_drop, hnm, HA.out.2.1]) (by have := HA.out.2.2; omega) (by have := HN.out.1; omega)
            rw [← HG.out.2.2.2.2.2.2, ← HG.out.2.2.2.2.2.1] at hlast
            have hlr : Below w.heap.size w wr := HG.out.2.2.1.trans (HLW.out.mono HG.out.2.2.1.size)
            have HD := Lib.hid (And.intro hD2 (And.intro hnm ha3))
            have hrs := rest_any (HG.out.1.below HLW.out)
            rw [← HG.out.2.2.2.1] at hrs
            have i2 : (n : Int) - (at2 : Int) = (nm : Int) := by omega
            have i3 : IntKind.i64.wrap (nm : Int) = (nm : Int) := by rw [IntKind.wrap_i64]; omega
            have i7 : (wn : Int) ≤ 262144 := by have := HG.out.2.2.2.2.1; omega
            clear hlt hj ha2 hD2 hnm ha3 HF
            rcases hlast with ⟨r, h0, hget, hrc, hfe0, hfr0⟩ | ⟨hnc, hrd⟩
            · obtain ⟨q, hq⟩ : ∃ q, q = wn - 1 := ⟨_, rfl⟩
              obtain ⟨adu, cU, hAu, hsp, hqU, hcU⟩ := ((HG.out.2.1.below HLW.out).reads.2).at_ (i := q) (by rw [← HG.out.2.2.2.2.2.2]; omega)
              have hrj : (feedS raw).l[q]'(by rw [← HG.out.2.2.2.2.2.2]; omega) = r := by
                rw [← hq, List.getElem?_eq_getElem (by rw [← HG.out.2.2.2.2.2.2]; omega)] at hget
                injection hget
              rw [hrj] at hqU
              obtain ⟨A8, k8, P8, q8, hc8, h99⟩ := hqU
              have hcell := hcU 4 (.bool true) (by rw [hc8, hrc]; rfl)
              clear hcU hc8 hrj hget
              subst hAu
              subst hfe0
              have q0 : 0 < wn := h0
              have z1 : (wn : Int) - 1 = (q : Int) := by omega
              have z2 : IntKind.i64.wrap (q : Int) = (q : Int) := by rw [IntKind.wrap_i64]; omega
              have z3 : decide ((0 : Int) < (wn : Int)) = true := by rw [decide_eq_true_eq]; omega
              have z4 : (q : Int) < (wn : Int) := by omega
              have z5 : (0 : Int) ≤ (q : Int) := by omega
              have hfr1 : fr = 0 := by rw [HG.out.2.2.2.1, hfr0]; rfl
              subst hfr1
              clear h99 hfr0 h0 hrc hq
              have HCE := Lib.hid hcell
              clear hcell
              cases hrd : readAll (raw.drop at2) with
              | error er =>
                simp only [hrd] at cp
                have CP := Lib.hid cp
                have HLR := Lib.hid hlr
                have HFE := Lib.hid (And.intro (HG.out.1.below HLW.out) HG.out.2.2.2.1)
                clear cp hlr hrd hrs
                go_upto_region 29 with (first
                  | ((with_reducible show wpList _ _ _ (⟨some 168, _, _, _, _, _⟩ :: _) _ _); go_must (refine wpList_behind rfl (.tmp 166) (.tmp 167) rfl rfl rfl HD.out.2.2 ?_); intro D2' hD2'; obtain rfl : D2 = D2' := HD.out.1.trans hD2'.symm; clear hD2'; rw [← HD.out.2.1])
                  | (go_at_call 16; (with_reducible show Calls _ _ #[_] _ _); go_must (refine (CP.out _ HLR.out).mono ?_); rintro e w14 hp; obtain ⟨hb, rfl⟩ := hp; have A14 := Lib.hid (gt HLR.out hb); have E14 := Lib.hid hb; clear hb)
                  | ((with_reducible show wpList _ _ _ (⟨some 22, .alloc _, _, _, _, _⟩ :: _) _ _); go_must (refine wpList_allocB AR rfl rfl w14.heap.size rfl ?_); intro w14a hBx hbx hzx; have H14 := Lib.hid (And.intro hBx hbx); clear hBx hbx hzx)
                  | ((with_reducible show wpList _ _ _ (⟨none, .store _ (.tmp 22) _, _, _, _, _⟩ :: _) _ _); go_must (refine wpList_storeB AR rfl (.tmp 22) (.tmp 170) rfl w14.heap.size 0 rfl [.string ⟨#[]⟩, .string ⟨#[]⟩, .slice none 0 0, .slice none 0 0, .bool false] rfl rfl _ _ H14.out.1 (by simp) (by simp [Value.oneCell']) ?_); intro w14b hBy hgy hzy
                     simp only [splice, List.take_zero, List.nil_append, List.length_cons, List.length_nil, List.drop_succ_cons, List.drop_zero, List.append_nil, Nat.zero_add, List.drop_nil] at hBy
                     have D14 := Lib.hid (H14.out.2.grown hgy H14.out.2.size (fun j hj => by injection hj with hj; omega))
                     have C14 := Lib.hid hBy
                     have B14 := Lib.hid (gt A14.out D14.out)
                     clear hBy hgy hzy))
                have hw14 : Below wr.heap.size wr w14b := gt E14.out D14.out
                have hc1 := cell_grow HCE.out hw14
                obtain ⟨gU, oU, sU⟩ := adu
                simp only at hsp
                subst hsp
                rw [add_none, ← Nat.add_assoc] at hc1
                have hrs := rest_any (HFE.out.1.below hw14)
                rw [← HFE.out.2] at hrs
                have RS := Lib.hid hrs
                have HBB := Lib.hid (show Below w.heap.size w w14b from B14.out)
                clear hrs hw14
                go_wp2_with (first
                  | (go_at_call 23; go_must (refine (RS.out).mono ?_); rintro e w15 ⟨rfl, rfl⟩))
                go_ret
                exact ⟨rfl, HBB.out⟩
              | ok x =>
                obtain ⟨r2, N2⟩ := x
                simp only [hrd] at cp
                obtain ⟨smm, hsm⟩ : ∃ x, x = (⟨r2.method.toArray⟩ : ByteArray) := ⟨_, rfl⟩
                obtain ⟨stg, hst⟩ : ∃ x, x = (⟨r2.target.toArray⟩ : ByteArray) := ⟨_, rfl⟩
                obtain ⟨hm, hhm⟩ : ∃ x, x = r2.headers.length := ⟨_, rfl⟩
                obtain ⟨bl, hbl⟩ : ∃ x, x = r2.body.length := ⟨_, rfl⟩
                obtain ⟨cl, hcl'⟩ : ∃ x, x = r2.close := ⟨_, rfl⟩
                unfold ReadPost at cp
                simp only at cp
                rw [← hsm, ← hst, ← hhm, ← hbl, ← hcl'] at cp
                have CP := Lib.hid cp
                have HLR := Lib.hid hlr
                have HFE := Lib.hid (And.intro (HG.out.1.below HLW.out) HG.out.2.2.2.1)
                clear cp hlr hrd hrs hsm hst hhm hbl hcl'
                go_upto_region 29 with (first
                  | ((with_reducible show wpList _ _ _ (⟨some 168, _, _, _, _, _⟩ :: _) _ _); go_must (refine wpList_behind rfl (.tmp 166) (.tmp 167) rfl rfl rfl HD.out.2.2 ?_); intro D2' hD2'; obtain rfl : D2 = D2' := HD.out.1.trans hD2'.symm; clear hD2'; rw [← HD.out.2.1])
                  | (go_at_call 16; (with_reducible show Calls _ _ #[_] _ _); go_must (refine (CP.out _ HLR.out).mono ?_); rintro e w14 hp; obtain ⟨hb, A1, k1, P1, q1, K1, rfl, ho1, hK1, hw1, hob1⟩ := hp; have A14 := Lib.hid (gt HLR.out hb); have E14 := Lib.hid hb; have R1 := Lib.hid (And.intro ho1 hob1); clear ho1 hK1 hw1 hob1; clear hb)
                  | ((with_reducible show wpList _ _ _ (⟨some 22, .alloc _, _, _, _, _⟩ :: _) _ _); go_must (refine wpList_allocB AR rfl rfl w14.heap.size rfl ?_); intro w14a hBx hbx hzx; have H14 := Lib.hid (And.intro hBx hbx); clear hBx hbx hzx)
                  | ((with_reducible show wpList _ _ _ (⟨none, .store _ (.tmp 22) _, _, _, _, _⟩ :: _) _ _); go_must (refine wpList_storeB AR rfl (.tmp 22) (.tmp 170) rfl w14.heap.size 0 rfl [.string smm, .string stg, .slice A1 hm k1, .slice P1 bl q1, .bool cl] rfl rfl _ _ H14.out.1 (by simp) (by simp [Value.oneCell']) ?_); intro w14b hBy hgy hzy
                     simp only [splice, List.take_zero, List.nil_append, List.length_cons, List.length_nil, List.drop_succ_cons, List.drop_zero, List.append_nil, Nat.zero_add, List.drop_nil] at hBy
                     have D14 := Lib.hid (H14.out.2.grown hgy H14.out.2.size (fun j hj => by injection hj with hj; omega))
                     have C14 := Lib.hid hBy
                     have B14 := Lib.hid (gt A14.out D14.out)
                     clear hBy hgy hzy))
                have hw14 : Below wr.heap.size wr w14b := gt E14.out D14.out
                have hc1 := cell_grow HCE.out hw14
                obtain ⟨gU, oU, sU⟩ := adu
                simp only at hsp
                subst hsp
                rw [add_none, ← Nat.add_assoc] at hc1
                have hrs := rest_any (HFE.out.1.below hw14)
                rw [← HFE.out.2] at hrs
                have RS := Lib.hid hrs
                have HBB := Lib.hid (show Below w.heap.size w w14b from B14.out)
                clear hrs hw14
                go_wp2_with (first
                  | (go_at_call 23; go_must (refine (RS.out).mono ?_); rintro e w15 ⟨rfl, rfl⟩))
                go_ret
                exact ⟨rfl, HBB.out⟩
            · by_cases hw0 : wn = 0
              · subst hw0
                clear hnc
                rcases hrd with ⟨hrd, hfe0, hfr0⟩ | ⟨er, hrd, hne, hfe0, hfr0⟩
                · have hfr1 : fr = nm := by rw [HG.out.2.2.2.1, hfr0, HD.out.2.1, HA.out.2.1]
                  subst hfr1
                  subst hfe0
                  clear hfr0
                  simp only [hrd] at cp
                  have CP := Lib.hid cp
                  have HLR := Lib.hid hlr
                  have HFE := Lib.hid (And.intro (HG.out.1.below HLW.out) HG.out.2.2.2.1)
                  clear cp hlr hrd hrs
                  go_upto_region 29 with (first
                    | ((with_reducible show wpList _ _ _ (⟨some 168, _, _, _, _, _⟩ :: _) _ _); go_must (refine wpList_behind rfl (.tmp 166) (.tmp 167) rfl rfl rfl HD.out.2.2 ?_); intro D2' hD2'; obtain rfl : D2 = D2' := HD.out.1.trans hD2'.symm; clear hD2'; rw [← HD.out.2.1])
                    | (go_at_call 16; (with_reducible show Calls _ _ #[_] _ _); go_must (refine (CP.out _ HLR.out).mono ?_); rintro e w14 hp; obtain ⟨hb, rfl⟩ := hp; have A14 := Lib.hid (gt HLR.out hb); have E14 := Lib.hid hb; clear hb)
                    | ((with_reducible show wpList _ _ _ (⟨some 22, .alloc _, _, _, _, _⟩ :: _) _ _); go_must (refine wpList_allocB AR rfl rfl w14.heap.size rfl ?_); intro w14a hBx hbx hzx; have H14 := Lib.hid (And.intro hBx hbx); clear hBx hbx hzx)
                    | ((with_reducible show wpList _ _ _ (⟨none, .store _ (.tmp 22) _, _, _, _, _⟩ :: _) _ _); go_must (refine wpList_storeB AR rfl (.tmp 22) (.tmp 170) rfl w14.heap.size 0 rfl [.string ⟨#[]⟩, .string ⟨#[]⟩, .slice none 0 0, .slice none 0 0, .bool false] rfl rfl _ _ H14.out.1 (by simp) (by simp [Value.oneCell']) ?_); intro w14b hBy hgy hzy
                       simp only [splice, List.take_zero, List.nil_append, List.length_cons, List.length_nil, List.drop_succ_cons, List.drop_zero, List.append_nil, Nat.zero_add, List.drop_nil] at hBy
                       have D14 := Lib.hid (H14.out.2.grown hgy H14.out.2.size (fun j hj => by injection hj with hj; omega))
                       have C14 := Lib.hid hBy
                       have B14 := Lib.hid (gt A14.out D14.out)
                       clear hBy hgy hzy))
                  have hw14 : Below wr.heap.size wr w14b := gt E14.out D14.out
                  have hrs := rest_any (HFE.out.1.below hw14)
                  rw [← HFE.out.2] at hrs
                  have RS := Lib.hid hrs
                  have HBB := Lib.hid (show Below w.heap.size w w14b from B14.out)
                  clear hrs hw14
                  go_wp2_with (first
                    | (go_at_call 23; go_must (refine (RS.out).mono ?_); rintro e w15 ⟨rfl, rfl⟩))
                  go_ret
                  exact ⟨rfl, HBB.out⟩
                · have her := all_err hrd
                  have hfr1 : fr = 0 := by rw [HG.out.2.2.2.1, hfr0]; rfl
                  subst hfr1
                  subst hfe0
                  have y1 : ((fe : Int) == 283) = false := by rw [beq_eq_false_iff_ne]; omega
                  have y2 : ((fe : Int) == 0) = false := by rw [beq_eq_false_iff_ne]; omega
                  have y3 : (fe : Int) ≠ 0 := by omega
                  have y4 : ((fe : Int) != 0) = true := by simp; omega
                  clear hfr0 hne her
                  simp only [hrd] at cp
                  have CP := Lib.hid cp
                  have HLR := Lib.hid hlr
                  have HFE := Lib.hid (And.intro (HG.out.1.below HLW.out) HG.out.2.2.2.1)
                  clear cp hlr hrd hrs
                  go_upto_region 29 with (first
                    | ((with_reducible show wpList _ _ _ (⟨some 168, _, _, _, _, _⟩ :: _) _ _); go_must (refine wpList_behind rfl (.tmp 166) (.tmp 167) rfl rfl rfl HD.out.2.2 ?_); intro D2' hD2'; obtain rfl : D2 = D2' := HD.out.1.trans hD2'.symm; clear hD2'; rw [← HD.out.2.1])
                    | (go_at_call 16; (with_reducible show Calls _ _ #[_] _ _); go_must (refine (CP.out _ HLR.out).mono ?_); rintro e w14 hp; obtain ⟨hb, rfl⟩ := hp; have A14 := Lib.hid (gt HLR.out hb); have E14 := Lib.hid hb; clear hb)
                    | ((with_reducible show wpList _ _ _ (⟨some 22, .alloc _, _, _, _, _⟩ :: _) _ _); go_must (refine wpList_allocB AR rfl rfl w14.heap.size rfl ?_); intro w14a hBx hbx hzx; have H14 := Lib.hid (And.intro hBx hbx); clear hBx hbx hzx)
                    | ((with_reducible show wpList _ _ _ (⟨none, .store _ (.tmp 22) _, _, _, _, _⟩ :: _) _ _); go_must (refine wpList_storeB AR rfl (.tmp 22) (.tmp 170) rfl w14.heap.size 0 rfl [.string ⟨#[]⟩, .string ⟨#[]⟩, .slice none 0 0, .slice none 0 0, .bool false] rfl rfl _ _ H14.out.1 (by simp) (by simp [Value.oneCell']) ?_); intro w14b hBy hgy hzy
                       simp only [splice, List.take_zero, List.nil_append, List.length_cons, List.length_nil, List.drop_succ_cons, List.drop_zero, List.append_nil, Nat.zero_add, List.drop_nil] at hBy
                       have D14 := Lib.hid (H14.out.2.grown hgy H14.out.2.size (fun j hj => by injection hj with hj; omega))
                       have C14 := Lib.hid hBy
                       have B14 := Lib.hid (gt A14.out D14.out)
                       clear hBy hgy hzy))
                  have hw14 : Below wr.heap.size wr w14b := gt E14.out D14.out
                  have hrs := rest_any (HFE.out.1.below hw14)
                  rw [← HFE.out.2] at hrs
                  have RS := Lib.hid hrs
                  have HBB := Lib.hid (show Below w.heap.size w w14b from B14.out)
                  clear hrs hw14
                  go_wp2_with (first
                    | (go_at_call 23; go_must (refine (RS.out).mono ?_); rintro e w15 ⟨rfl, rfl⟩))
                  go_ret
                  exact ⟨rfl, HBB.out⟩
              · obtain ⟨q, hq⟩ : ∃ q, q = wn - 1 := ⟨_, rfl⟩
                obtain ⟨adu, cU, hAu, hsp, hqU, hcU⟩ := ((HG.out.2.1.below HLW.out).reads.2).at_ (i := q) (by rw [← HG.out.2.2.2.2.2.2]; omega)
                have hget : (feedS raw).l[wn - 1]? = some ((feedS raw).l[q]'(by rw [← HG.out.2.2.2.2.2.2]; omega)) := by
                  rw [← hq, List.getElem?_eq_getElem (by rw [← HG.out.2.2.2.2.2.2]; omega)]
                have hrc := hnc _ (by omega) hget
                obtain ⟨A8, k8, P8, q8, hc8, h99⟩ := hqU
                have hcell := hcU 4 (.bool false) (by rw [hc8, hrc]; rfl)
                clear hcU hc8 hget hrc hnc
                subst hAu
                have z1 : (wn : Int) - 1 = (q : Int) := by omega
                have z2 : IntKind.i64.wrap (q : Int) = (q : Int) := by rw [IntKind.wrap_i64]; omega
                have z3 : decide ((0 : Int) < (wn : Int)) = true := by rw [decide_eq_true_eq]; omega
                have z4 : (q : Int) < (wn : Int) := by omega
                have z5 : (0 : Int) ≤ (q : Int) := by omega
                have q0 : 0 < wn := by omega
                have HCE := Lib.hid hcell
                clear h99 hcell hq hw0
                rcases hrd with ⟨hrd, hfe0, hfr0⟩ | ⟨er, hrd, hne, hfe0, hfr0⟩
                · have hfr1 : fr = nm := by rw [HG.out.2.2.2.1, hfr0, HD.out.2.1, HA.out.2.1]
                  subst hfr1
                  subst hfe0
                  clear hfr0
                  simp only [hrd] at cp
                  have CP := Lib.hid cp
                  have HLR := Lib.hid hlr
                  have HFE := Lib.hid (And.intro (HG.out.1.below HLW.out) HG.out.2.2.2.1)
                  clear cp hlr hrd hrs
                  go_upto_region 29 with (first
                    | ((with_reducible show wpList _ _ _ (⟨some 168, _, _, _, _, _⟩ :: _) _ _); go_must (refine wpList_behind rfl (.tmp 166) (.tmp 167) rfl rfl rfl HD.out.2.2 ?_); intro D2' hD2'; obtain rfl : D2 = D2' := HD.out.1.trans hD2'.symm; clear hD2'; rw [← HD.out.2.1])
                    | (go_at_call 16; (with_reducible show Calls _ _ #[_] _ _); go_must (refine (CP.out _ HLR.out).mono ?_); rintro e w14 hp; obtain ⟨hb, rfl⟩ := hp; have A14 := Lib.hid (gt HLR.out hb); have E14 := Lib.hid hb; clear hb)
                    | ((with_reducible show wpList _ _ _ (⟨some 22, .alloc _, _, _, _, _⟩ :: _) _ _); go_must (refine wpList_allocB AR rfl rfl w14.heap.size rfl ?_); intro w14a hBx hbx hzx; have H14 := Lib.hid (And.intro hBx hbx); clear hBx hbx hzx)
                    | ((with_reducible show wpList _ _ _ (⟨none, .store _ (.tmp 22) _, _, _, _, _⟩ :: _) _ _); go_must (refine wpList_storeB AR rfl (.tmp 22) (.tmp 170) rfl w14.heap.size 0 rfl [.string ⟨#[]⟩, .string ⟨#[]⟩, .slice none 0 0, .slice none 0 0, .bool false] rfl rfl _ _ H14.out.1 (by simp) (by simp [Value.oneCell']) ?_); intro w14b hBy hgy hzy
                       simp only [splice, List.take_zero, List.nil_append, List.length_cons, List.length_nil, List.drop_succ_cons, List.drop_zero, List.append_nil, Nat.zero_add, List.drop_nil] at hBy
                       have D14 := Lib.hid (H14.out.2.grown hgy H14.out.2.size (fun j hj => by injection hj with hj; omega))
                       have C14 := Lib.hid hBy
                       have B14 := Lib.hid (gt A14.out D14.out)
                       clear hBy hgy hzy))
                  have hw14 : Below wr.heap.size wr w14b := gt E14.out D14.out
                  have hc1 := cell_grow HCE.out hw14
                  obtain ⟨gU, oU, sU⟩ := adu
                  simp only at hsp
                  subst hsp
                  rw [add_none, ← Nat.add_assoc] at hc1
                  have hrs := rest_any (HFE.out.1.below hw14)
                  rw [← HFE.out.2] at hrs
                  have RS := Lib.hid hrs
                  have HBB := Lib.hid (show Below w.heap.size w w14b from B14.out)
                  clear hrs hw14
                  go_wp2_with (first
                    | (go_at_call 23; go_must (refine (RS.out).mono ?_); rintro e w15 ⟨rfl, rfl⟩))
                  go_ret
                  exact ⟨rfl, HBB.out⟩
                · have her := all_err hrd
                  have hfr1 : fr = 0 := by rw [HG.out.2.2.2.1, hfr0]; rfl
                  subst hfr1
                  subst hfe0
                  have y1 : ((fe : Int) == 283) = false := by rw [beq_eq_false_iff_ne]; omega
                  have y2 : ((fe : Int) == 0) = false := by rw [beq_eq_false_iff_ne]; omega
                  have y3 : (fe : Int) ≠ 0 := by omega
                  have y4 : ((fe : Int) != 0) = true := by simp; omega
                  clear hfr0 hne her
                  simp only [hrd] at cp
                  have CP := Lib.hid cp
                  have HLR := Lib.hid hlr
                  have HFE := Lib.hid (And.intro (HG.out.1.below HLW.out) HG.out.2.2.2.1)
                  clear cp hlr hrd hrs
                  go_upto_region 29 with (first
                    | ((with_reducible show wpList _ _ _ (⟨some 168, _, _, _, _, _⟩ :: _) _ _); go_must (refine wpList_behind rfl (.tmp 166) (.tmp 167) rfl rfl rfl HD.out.2.2 ?_); intro D2' hD2'; obtain rfl : D2 = D2' := HD.out.1.trans hD2'.symm; clear hD2'; rw [← HD.out.2.1])
                    | (go_at_call 16; (with_reducible show Calls _ _ #[_] _ _); go_must (refine (CP.out _ HLR.out).mono ?_); rintro e w14 hp; obtain ⟨hb, rfl⟩ := hp; have A14 := Lib.hid (gt HLR.out hb); have E14 := Lib.hid hb; clear hb)
                    | ((with_reducible show wpList _ _ _ (⟨some 22, .alloc _, _, _, _, _⟩ :: _) _ _); go_must (refine wpList_allocB AR rfl rfl w14.heap.size rfl ?_); intro w14a hBx hbx hzx; have H14 := Lib.hid (And.intro hBx hbx); clear hBx hbx hzx)
                    | ((with_reducible show wpList _ _ _ (⟨none, .store _ (.tmp 22) _, _, _, _, _⟩ :: _) _ _); go_must (refine wpList_storeB AR rfl (.tmp 22) (.tmp 170) rfl w14.heap.size 0 rfl [.string ⟨#[]⟩, .string ⟨#[]⟩, .slice none 0 0, .slice none 0 0, .bool false] rfl rfl _ _ H14.out.1 (by simp) (by simp [Value.oneCell']) ?_); intro w14b hBy hgy hzy
                       simp only [splice, List.take_zero, List.nil_append, List.length_cons, List.length_nil, List.drop_succ_cons, List.drop_zero, List.append_nil, Nat.zero_add, List.drop_nil] at hBy
                       have D14 := Lib.hid (H14.out.2.grown hgy H14.out.2.size (fun j hj => by injection hj with hj; omega))
                       have C14 := Lib.hid hBy
                       have B14 := Lib.hid (gt A14.out D14.out)
                       clear hBy hgy hzy))
                  have hw14 : Below wr.heap.size wr w14b := gt E14.out D14.out
                  have hc1 := cell_grow HCE.out hw14
                  obtain ⟨gU, oU, sU⟩ := adu
                  simp only at hsp
                  subst hsp
                  rw [add_none, ← Nat.add_assoc] at hc1
                  have hrs := rest_any (HFE.out.1.below hw14)
                  rw [← HFE.out.2] at hrs
                  have RS := Lib.hid hrs
                  have HBB := Lib.hid (show Below w.heap.size w w14b from B14.out)
                  clear hrs hw14
                  go_wp2_with (first
                    | (go_at_call 23; go_must (refine (RS.out).mono ?_); rintro e w15 ⟨rfl, rfl⟩))
                  go_ret
                  exact ⟨rfl, HBB.out⟩
end Go.Proofs.YtojemdggbcklkaaDoor.WireR
