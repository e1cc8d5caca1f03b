/- uri: Unescape, the program's and the reference's. -/
import Derived.Test.YtompcngeikjfiaaDoorUri1
import Derived.Test.YtompcngeikjfiaaDoorRgLite
namespace Go.Proofs.YtompcngeikjfiaaDoor.Uri
open Go.RowKit Go.Proofs.YtompcngeikjfiaaDoor.Mem Go.Proofs.YtompcngeikjfiaaDoor.Seal
set_option linter.unusedVariables false

def UnPost (w : World) (o : Option (List UInt8)) (e : Ending) (w' : World) : Prop :=
  (match o with
  | none => e = .returned (.tuple #[.string ⟨#[]⟩, .int .i64 270])
  | some d => e = .returned (.tuple #[.string ⟨d.toArray⟩, .int .i64 0])) ∧ Below w.heap.size w w'
theorem str_at {l : List UInt8} {s : ByteArray} (hs : s = (⟨l.toArray⟩ : ByteArray)) {k : Nat} (hk : k < l.length) (h : k < s.size) : s[k] = l[k] := by subst hs; rfl
theorem own_str {w : World} {B n n' c : Nat} {A : Option Addr} {l r : List UInt8} (h : w.ownsRow B 5 1 (.slice A n' c) n (l.map bv)) (hn : n' = n) (hr : l = r) :
    (convert 53 9 (.slice A n' c)).run Tryd.prog w = .ok (.string ⟨r.toArray⟩) w := by
  subst hr
  have h1 := h.1
  rw [List.length_map, Nat.mul_one] at h1
  have := conv_rb (P := Tryd.prog) (src := 53) (dst := 9) Tryd.underlying53 Tryd.underlying5 Tryd.underlying9 (own_rb' h) c
  rw [h1, ← hn] at this
  exact this
theorem opt_app (o : Option (List UInt8)) (out : List UInt8) (y : UInt8) : (o.map (y :: ·)).map (out ++ ·) = o.map ((out ++ [y]) ++ ·) := by
  cases o <;> simp
theorem hex_or (p q : Nat) (hp : p < 16) (hq : q < 16) : bits .or .i64 ((p : Int) * 16) (q : Int) = ((16 * p + q : Nat) : Int) := by
  have h : ((List.range 16).all fun p => (List.range 16).all fun q => decide (bits .or .i64 ((p : Int) * 16) (q : Int) = ((16 * p + q : Nat) : Int))) = true := by decide +kernel
  exact of_decide_eq_true (below (below h hp) hq)

set_option maxRecDepth 4000 in
set_option maxHeartbeats 3200000 in
theorem unescape_any (l : List UInt8) (plus : Bool) (w : World) (hl : l.length ≤ 1073741824) :
    Calls Tryd.prog 12 #[.string ⟨l.toArray⟩, .bool plus] w (UnPost w (unesc plus l)) := by
  obtain ⟨n, hn⟩ : ∃ n, n = l.length := ⟨_, rfl⟩
  have hni : (n : Int) ≤ 1073741824 := by omega
  have hn0 : (0 : Int) ≤ (n : Int) := by omega
  obtain ⟨s, hs⟩ : ∃ s, s = (⟨l.toArray⟩ : ByteArray) := ⟨_, rfl⟩
  have hsz : s.size = n := by rw [hs, hn]; simp [ByteArray.size]
  rw [← hs]
  have HA := Lib.hid (And.intro hn hs)
  have hnN : n ≤ 1073741824 := by omega
  clear hn hs hl
  go_enter Tryd.func12, Tryd.ntmps12
  go_wp2_with (first
    | (at_make; go_must (refine wpList_make0 E8 rfl _ (.tmp 10) rfl .i64 .i64 _ n rfl rfl (by first | rfl | omega) (by omega) (by unfold maxLen; omega) w.heap.size (Nat.le_refl _) ?_); intro v w1 hown hv hb1 hz1 hcap))
  have HX := Lib.hid (And.intro hown hb1)
  clear hown hv hb1 hz1 hcap
  go_loopw [6, 7] (fun v6 v7 wr => ∃ (k : Nat) (out : List UInt8), k ≤ n ∧ v7 = .int .i64 k ∧ out.length ≤ k ∧ wr.ownsRow w.heap.size 5 1 v6 out.length (out.map bv) ∧ unesc plus l = (unesc plus (l.drop k)).map (out ++ ·) ∧ Below w.heap.size w wr) (fun _ v _ => n - (intOf v).toNat)
  case atStart => exact ⟨0, [], by omega, rfl, by simp, HX.out.1, by simp, HX.out.2⟩
  case round =>
    clear HX
    obtain ⟨k, out, hk, rfl, ho, hown, hun, hb⟩ := hrel
    obtain ⟨A6, n6, c6, rfl, hn6⟩ := own_form hown
    have HX := Lib.hid (And.intro hown (And.intro hun (And.intro hb hn6)))
    have ho' : out.length ≤ 1073741824 := by omega
    clear hown hun hb hn6
    by_cases hlt : k < n
    · have hkl : k < l.length := by have := HA.out.1; omega
      obtain ⟨x, hx⟩ : ∃ x, x = l[k] := ⟨_, rfl⟩
      have hks : k < s.size := by omega
      have hsx : s[k] = x := by rw [hx]; exact str_at HA.out.2 hkl hks
      have hki : (k : Int) < (n : Int) := by omega
      have hk0 : (0 : Int) ≤ (k : Int) := by omega
      have hdrop : l.drop k = x :: l.drop (k + 1) := by rw [List.drop_eq_getElem_cons hkl, hx]
      have HD := Lib.hid hdrop
      clear hx hdrop
      by_cases h37 : x = 37
      · have hxi : (x.toNat : Int) = 37 := by rw [h37]; rfl
        have hx43 : ¬ (x.toNat : Int) = 43 := by omega
        have HC := Lib.hid h37
        by_cases hsh : n ≤ k + 2
        · have hshi : (n : Int) ≤ (k : Int) + 2 := by omega
          have hno : unesc plus l = none := by
            rw [HX.out.2.1, HD.out, HC.out, unesc_short (by rw [List.length_drop, ← HA.out.1]; omega)]
            rfl
          have HN := Lib.hid hno
          clear hno h37 hsh
          go_wp2_with fail
          go_ret2
          unfold UnPost
          rw [HN.out]
          exact ⟨rfl, HX.out.2.2.1⟩
        · obtain ⟨k1, hk1⟩ : ∃ k1, k1 = k + 1 := ⟨_, rfl⟩
          obtain ⟨k2, hk2⟩ : ∃ k2, k2 = k + 2 := ⟨_, rfl⟩
          have e1 : (k : Int) + 1 = (k1 : Int) := by omega
          have e2 : (k : Int) + 2 = (k2 : Int) := by omega
          have w1 : IntKind.i64.wrap (k1 : Int) = (k1 : Int) := by simp [IntKind.wrap, IntKind.bits, IntKind.signed]; omega
          have w2 : IntKind.i64.wrap (k2 : Int) = (k2 : Int) := by simp [IntKind.wrap, IntKind.bits, IntKind.signed]; omega
          have i1 : (k1 : Int) < (n : Int) := by omega
          have i2 : (k2 : Int) < (n : Int) := by omega
          have j1 : (0 : Int) ≤ (k1 : Int) := by omega
          have j2 : (0 : Int) ≤ (k2 : Int) := by omega
          have hk1l : k1 < l.length := by have := HA.out.1; omega
          have hk2l : k2 < l.length := by have := HA.out.1; omega
          obtain ⟨d, hd⟩ : ∃ d, d = l[k1] := ⟨_, rfl⟩
          obtain ⟨e, he⟩ : ∃ e, e = l[k2] := ⟨_, rfl⟩
          have hs1 : k1 < s.size := by omega
          have hs2 : k2 < s.size := by omega
          have hsd : s[k1] = d := by rw [hd]; exact str_at HA.out.2 hk1l hs1
          have hse : s[k2] = e := by rw [he]; exact str_at HA.out.2 hk2l hs2
          have hdr : l.drop (k + 1) = d :: e :: l.drop (k + 3) := by
            subst hk1 hk2
            rw [List.drop_eq_getElem_cons hk1l, List.drop_eq_getElem_cons hk2l, hd, he]
          have hux : unesc plus l = (if hexN d.toNat = 16 ∨ hexN e.toNat = 16 then none else (unesc plus (l.drop (k + 3))).map (hexs d e :: ·)).map (out ++ ·) := by
            rw [HX.out.2.1, HD.out, HC.out, hdr, unesc_hex]
          have HU := Lib.hid hux
          have hkk := Lib.hid (And.intro hk1 hk2)
          have hshi : (k2 : Int) < (n : Int) := by omega
          obtain ⟨p, hp⟩ : ∃ p, p = hexN d.toNat := ⟨_, rfl⟩
          obtain ⟨q, hq⟩ : ∃ q, q = hexN e.toNat := ⟨_, rfl⟩
          have hp16 := hexN_le d.toNat
          have hq16 := hexN_le e.toNat
          rw [← hp] at hp16
          rw [← hq] at hq16
          have HPQ := Lib.hid (And.intro hp hq)
          clear hd he hdr hux hk1 hk2 hsh h37 hk1l hk2l
          by_cases hbad : p = 16
          · have hz : hexZ d.toNat = -1 := by unfold hexZ; rw [← hp, if_pos hbad]
            have hno : unesc plus l = none := by rw [HU.out, if_pos (.inl (by rw [← hp]; exact hbad))]; rfl
            have HN := Lib.hid hno
            clear hno hp hq hbad
            go_wp2_with (first
              | (go_at_call 30; go_must (refine (hex_any _ _).mono ?_); rintro e w2 ⟨rfl, rfl⟩))
            go_ret2
            unfold UnPost
            rw [HN.out]
            exact ⟨rfl, HX.out.2.2.1⟩
          · have hz : hexZ d.toNat = (p : Int) := by unfold hexZ; rw [← hp, if_neg hbad]
            by_cases hbad2 : q = 16
            · have hz2 : hexZ e.toNat = -1 := by unfold hexZ; rw [← hq, if_pos hbad2]
              have hno : unesc plus l = none := by rw [HU.out, if_pos (.inr (by rw [← hq]; exact hbad2))]; rfl
              have HN := Lib.hid hno
              have hp0 : ¬ (p : Int) < 0 := by omega
              clear hno hp hq hbad hbad2
              go_wp2_with (first
                | (go_at_call 30; go_must (refine (hex_any _ _).mono ?_); rintro e w2 ⟨rfl, rfl⟩))
              go_ret2
              unfold UnPost
              rw [HN.out]
              exact ⟨rfl, HX.out.2.2.1⟩
            · have hz2 : hexZ e.toNat = (q : Int) := by unfold hexZ; rw [← hq, if_neg hbad2]
              have hp0 : ¬ (p : Int) < 0 := by omega
              have hq0 : ¬ (q : Int) < 0 := by omega
              obtain ⟨y, hy⟩ : ∃ y, y = hexs d e := ⟨_, rfl⟩
              have hyn : y.toNat = 16 * p + q := by rw [hy]; unfold hexs; rw [← hp, ← hq, bytN (by omega)]
              have hnx : unesc plus l = (unesc plus (l.drop (k + 3))).map ((out ++ [y]) ++ ·) := by
                rw [HU.out, if_neg (by rw [← hp, ← hq]; exact fun h => h.elim hbad hbad2), ← hy, opt_app]
              have HN := Lib.hid (And.intro hnx hyn)
              have hor := hex_or p q (by omega) (by omega)
              have hpi : (p : Int) ≤ 15 := by omega
              have hqi : (q : Int) ≤ 15 := by omega
              have hpz : (0 : Int) ≤ (p : Int) := by omega
              have wp1 : IntKind.i64.wrap ((p : Int) * 16) = (p : Int) * 16 := by simp [IntKind.wrap, IntKind.bits, IntKind.signed]; omega
              have wp2 : IntKind.u8.wrap (16 * (p : Int) + (q : Int)) = (y.toNat : Int) := by rw [hyn]; simp [IntKind.wrap, IntKind.bits, IntKind.signed]; omega
              have hqz : (0 : Int) ≤ (q : Int) := by omega
              clear hnx hp hq hbad hbad2 hy hyn
              go_upto_region 10 with (first
                | (go_at_call 30; go_must (refine (hex_any _ _).mono ?_); rintro e w2 ⟨rfl, rfl⟩))
              try simp only [Act.put, List.setIfInBounds_toArray, List.set_cons_succ, List.set_cons_zero]
              refine wp_region_rrT (fun a b => Below a.heap.size a b) (fun _ _ _ h g => gt h g) (fun _ _ h => h.size) (fun a => (gr a).drew) 15
                [.eq 49 (.slice A6 n6 c6), .eq 50 (.string s), .eq 51 (.int .i64 (k : Int)), .eq 52 (.int .i64 (k1 : Int)), .eq 53 (bv d), .eq 54 (.int .i64 (p : Int)), .eq 55 (.int .i64 ((p : Int) * 16)), .eq 56 (.string s), .eq 57 (.int .i64 (k : Int)), .eq 58 (.int .i64 (k2 : Int)), .eq 59 (bv e), .eq 60 (.int .i64 (q : Int)), .eq 61 (.int .i64 ((16 * p + q : Nat) : Int)), .eq 62 (bv y), .new 63 (NewRow wr.heap.size 5 [bv y] 1)]
                (by kernel_rfl) (by kernel_rfl) (by kernel_rfl) (by kernel_rfl) ?hsta ?hoba ?hfina
              case hsta =>
                intro s hs
                simp only [List.mem_cons, List.not_mem_nil, or_false] at hs
                rcases hs with rfl | rfl | rfl | rfl | rfl | rfl | rfl | rfl | rfl | rfl | rfl | rfl | rfl | rfl | rfl
                · exact fun _ _ _ h _ => h
                · exact fun _ _ _ h _ => h
                · exact fun _ _ _ h _ => h
                · exact fun _ _ _ h _ => h
                · exact fun _ _ _ h _ => h
                · exact fun _ _ _ h _ => h
                · exact fun _ _ _ h _ => h
                · exact fun _ _ _ h _ => h
                · exact fun _ _ _ h _ => h
                · exact fun _ _ _ h _ => h
                · exact fun _ _ _ h _ => h
                · exact fun _ _ _ h _ => h
                · exact fun _ _ _ h _ => h
                · exact fun _ _ _ h _ => h
                · rintro vs w1 w2 ⟨v, rfl, h⟩ hb
                  exact ⟨_, rfl, NewRow.stable h hb⟩
              case hoba =>
                simp only [List.take_succ_cons, List.take_zero]
                refine rrs_cons ?_ (rrs_cons ?_ (rrs_cons ?_ (rrs_cons ?_ (rrs_cons ?_ (rrs_cons ?_ (rrs_cons ?_ (rrs_cons ?_ (rrs_cons ?_ (rrs_cons ?_ (rrs_cons ?_ (rrs_cons ?_ (rrs_cons ?_ (rrs_cons ?_ (rrs_cons ?_ rrs_nil))))))))))))))
                · refine rr_eq gr (by decide) (by rfl) (by rfl) fun x w' A hg hp hA => ?_
                  have e6 := hA 6
                  simp [rgDsts] at e6
                  go_simp
                · refine rr_eq gr (by decide) (by rfl) (by rfl) fun x w' A hg hp hA => ?_
                  have e0 := hA 0
                  simp [rgDsts] at e0
                  go_simp
                · refine rr_eq gr (by decide) (by rfl) (by rfl) fun x w' A hg hp hA => ?_
                  have e7 := hA 7
                  simp [rgDsts] at e7
                  go_simp
                · refine rr_eq gr (by decide) (by rfl) (by rfl) fun x w' A hg hp hA => ?_
                  have h51 := rg_pred_eq (d := 51) hp 0 rfl rfl rfl
                  have e51 := (hA.at_ 51 rfl).trans h51
                  go_simp
                · refine rr_eq gr (by decide) (by rfl) (by rfl) fun x w' A hg hp hA => ?_
                  have h50 := rg_pred_eq (d := 50) hp 0 rfl rfl rfl
                  have h52 := rg_pred_eq (d := 52) hp 1 rfl rfl rfl
                  have e50 := (hA.at_ 50 rfl).trans h50
                  have e52 := (hA.at_ 52 rfl).trans h52
                  go_simp
                · refine rr_call (by decide) (by rfl) fun x w' A hg hp hA => ?_
                  have h53 := rg_pred_eq (d := 53) hp 0 rfl rfl rfl
                  have e53 := (hA.at_ 53 rfl).trans h53
                  refine ⟨30, #[bv d], ?_, ?_⟩
                  · go_simp
                  · refine (show Calls Tryd.prog 30 #[bv d] w' fun e w'' => e = .returned (.int .i64 (p : Int)) ∧ Below w'.heap.size w' w'' from (hex_any d w').mono fun e w'' h => ⟨by rw [h.1, hz], h.2 ▸ gr w'⟩).mono ?_
                    rintro e w'' ⟨rfl, hb⟩
                    exact ⟨_, rfl, hb, by simp, by simp⟩
                · refine rr_eq gr (by decide) (by rfl) (by rfl) fun x w' A hg hp hA => ?_
                  have h54 := rg_pred_eq (d := 54) hp 0 rfl rfl rfl
                  have e54 := (hA.at_ 54 rfl).trans h54
                  go_simp
                · refine rr_eq gr (by decide) (by rfl) (by rfl) fun x w' A hg hp hA => ?_
                  have e0 := hA 0
                  simp [rgDsts] at e0
                  go_simp
                · refine rr_eq gr (by decide) (by rfl) (by rfl) fun x w' A hg hp hA => ?_
                  have e7 := hA 7
                  simp [rgDsts] at e7
                  go_simp
                · refine rr_eq gr (by decide) (by rfl) (by rfl) fun x w' A hg hp hA => ?_
                  have h57 := rg_pred_eq (d := 57) hp 0 rfl rfl rfl
                  have e57 := (hA.at_ 57 rfl).trans h57
                  go_simp
                · refine rr_eq gr (by decide) (by rfl) (by rfl) fun x w' A hg hp hA => ?_
                  have h56 := rg_pred_eq (d := 56) hp 0 rfl rfl rfl
                  have h58 := rg_pred_eq (d := 58) hp 1 rfl rfl rfl
                  have e56 := (hA.at_ 56 rfl).trans h56
                  have e58 := (hA.at_ 58 rfl).trans h58
                  go_simp
                · refine rr_call (by decide) (by rfl) fun x w' A hg hp hA => ?_
                  have h59 := rg_pred_eq (d := 59) hp 0 rfl rfl rfl
                  have h54 := rg_pred_eq (d := 54) hp 1 rfl rfl rfl
                  have e59 := (hA.at_ 59 rfl).trans h59
                  refine ⟨30, #[bv e], ?_, ?_⟩
                  · go_simp
                  · refine (show Calls Tryd.prog 30 #[bv e] w' fun e w'' => e = .returned (.int .i64 (q : Int)) ∧ Below w'.heap.size w' w'' from (hex_any e w').mono fun e w'' h => ⟨by rw [h.1, hz2], h.2 ▸ gr w'⟩).mono ?_
                    rintro e w'' ⟨rfl, hb⟩
                    exact ⟨_, rfl, hb, by simp, by simp⟩
                · refine rr_eq gr (by decide) (by rfl) (by rfl) fun x w' A hg hp hA => ?_
                  have h55 := rg_pred_eq (d := 55) hp 0 rfl rfl rfl
                  have h60 := rg_pred_eq (d := 60) hp 1 rfl rfl rfl
                  have e55 := (hA.at_ 55 rfl).trans h55
                  have e60 := (hA.at_ 60 rfl).trans h60
                  go_simp
                · refine rr_eq gr (by decide) (by rfl) (by rfl) fun x w' A hg hp hA => ?_
                  have h61 := rg_pred_eq (d := 61) hp 0 rfl rfl rfl
                  have e61 := (hA.at_ 61 rfl).trans h61
                  go_simp
                · refine rr_build1 E8 (by decide) rfl rfl (.tmp 62) rfl (by decide) ([bv y]) (by rfl) fun x w' A hg hp hA => ?_
                  have h62 := rg_pred_eq (d := 62) hp 0 rfl rfl rfl
                  have e62 := (hA.at_ 62 rfl).trans h62
                  simp [Act.eval, e62, Value.cells, strV]
              case hfina =>
              intro x w8 hg hall hap
              simp only [RgAll, holds_eq, holds_new, holds_one, and_true] at hall
              obtain ⟨h49, h50, h51, h52, h53, h54, h55, h56, h57, h58, h59, h60, h61, h62, h63⟩ := hall
              obtain ⟨g63, h63, hg63, hB63⟩ := h63
              simp only [rgDsts, List.take_succ_cons, List.take_zero, List.filterMap_cons, List.filterMap_nil, putMany, List.foldl_cons, List.foldl_nil, List.setIfInBounds_toArray, List.set_cons_succ, List.set_cons_zero, List.drop_succ_cons, List.drop_zero, h49, h50, h51, h52, h53, h54, h55, h56, h57, h58, h59, h60, h61, h62, h63]
              clear h49 h50 h51 h52 h53 h54 h55 h56 h57 h58 h59 h60 h61 h62 h63
              have hb8 := gt HX.out.2.2.1 hg
              have hown8 := own_belowB HX.out.1 hg
              go_wp2_with (first
                | ((with_reducible show wpList _ _ _ (⟨some 64, _, _, _, _, _⟩ :: _) _ _); go_must (refine wpList_pushB E8 rfl _ _ rfl hb8 hown8 rfl g63 rfl y hB63 (by omega) ?_); intro v4 w4 hown4 hb4))
              refine ⟨⟨k + 3, out ++ [y], by omega, by go_num, by simp; omega, ?_, HN.out.1, hb4⟩, by simp [intOf]; omega⟩
              rw [List.length_append]
              exact hown4
      · have hxi : ¬ (x.toNat : Int) = 37 := by
          intro h
          exact h37 (UInt8.toNat_inj.1 ((show x.toNat = 37 by omega).trans rfl))
        have hnx : unesc plus l = (unesc plus (l.drop (k + 1))).map ((out ++ [conv plus x]) ++ ·) := by
          rw [HX.out.2.1, HD.out, unesc_plain h37, opt_app]
        clear h37
        by_cases h43 : x = 43 ∧ plus = true
        · obtain ⟨h43, rfl⟩ := h43
          have hxj : (x.toNat : Int) = 43 := by rw [h43]; rfl
          have hcv : conv true x = 32 := by unfold conv; rw [if_pos ⟨h43, rfl⟩]
          rw [hcv] at hnx
          have HN := Lib.hid hnx
          clear hnx hcv h43
          go_wp2_with (first
            | ((with_reducible show wpList _ _ _ (⟨some 74, _, _, _, _, _⟩ :: _) _ _); go_must (refine wpList_one E8 rfl _ rfl (by decide) [bv 32] (by rfl) rfl wr.heap.size rfl ?_); intro w3 hB3 hb3)
            | ((with_reducible show wpList _ _ _ (⟨some 75, _, _, _, _, _⟩ :: _) _ _); go_must (refine wpList_pushB E8 rfl _ _ rfl (gt HX.out.2.2.1 hb3) (own_belowB HX.out.1 hb3) rfl wr.heap.size rfl 32 hB3 (by omega) ?_); intro v4 w4 hown4 hb4))
          refine ⟨⟨k + 1, out ++ [32], by omega, by go_num, by simp; omega, ?_, HN.out, hb4⟩, by simp [intOf]; omega⟩
          rw [List.length_append]
          exact hown4
        · have hcv : conv plus x = x := by unfold conv; rw [if_neg h43]
          rw [hcv] at hnx
          have HN := Lib.hid hnx
          by_cases h43x : x = 43
          · have hpf : plus = false := by
              cases plus with
              | false => rfl
              | true => exact absurd ⟨h43x, rfl⟩ h43
            subst hpf
            have hxj : (x.toNat : Int) = 43 := by rw [h43x]; rfl
            clear hnx hcv h43 h43x
            go_wp2_with (first
              | ((with_reducible show wpList _ _ _ (⟨some 23, _, _, _, _, _⟩ :: _) _ _); go_must (refine wpList_one E8 rfl _ rfl (by decide) [bv x] (by first | rfl | simp [Act.eval, Value.cells, bv, hxj]) rfl wr.heap.size rfl ?_); intro w3 hB3 hb3)
              | ((with_reducible show wpList _ _ _ (⟨some 24, _, _, _, _, _⟩ :: _) _ _); go_must (refine wpList_pushB E8 rfl _ _ rfl (gt HX.out.2.2.1 hb3) (own_belowB HX.out.1 hb3) rfl wr.heap.size rfl x hB3 (by omega) ?_); intro v4 w4 hown4 hb4))
            refine ⟨⟨k + 1, out ++ [x], by omega, by go_num, by simp; omega, ?_, HN.out, hb4⟩, by simp [intOf]; omega⟩
            rw [List.length_append]
            exact hown4
          · have hxj : ¬ (x.toNat : Int) = 43 := by
              intro h
              exact h43x (UInt8.toNat_inj.1 ((show x.toNat = 43 by omega).trans rfl))
            clear hnx hcv h43 h43x
            go_wp2_with (first
              | ((with_reducible show wpList _ _ _ (⟨some 23, _, _, _, _, _⟩ :: _) _ _); go_must (refine wpList_one E8 rfl _ rfl (by decide) [bv x] (by first | rfl | simp [Act.eval, Value.cells, bv, hxj]) rfl wr.heap.size rfl ?_); intro w3 hB3 hb3)
              | ((with_reducible show wpList _ _ _ (⟨some 24, _, _, _, _, _⟩ :: _) _ _); go_must (refine wpList_pushB E8 rfl _ _ rfl (gt HX.out.2.2.1 hb3) (own_belowB HX.out.1 hb3) rfl wr.heap.size rfl x hB3 (by omega) ?_); intro v4 w4 hown4 hb4))
            refine ⟨⟨k + 1, out ++ [x], by omega, by go_num, by simp; omega, ?_, HN.out, hb4⟩, by simp [intOf]; omega⟩
            rw [List.length_append]
            exact hown4
    · obtain rfl : k = n := by omega
      have hd : unesc plus l = some out := by
        rw [HX.out.2.1, List.drop_of_length_le (by have := HA.out.1; omega), unesc_nil]
        simp
      have hcv := own_str HX.out.1 HX.out.2.2.2 (r := out) rfl
      have HN := Lib.hid hd
      clear hd hlt
      go_wp2_with fail
      go_ret2
      unfold UnPost
      rw [HN.out]
      exact ⟨rfl, HX.out.2.2.1⟩

set_option maxRecDepth 4000 in
set_option maxHeartbeats 3200000 in
theorem runescape_any (l : List UInt8) (plus : Bool) (w : World) (hl : l.length ≤ 1073741824) :
    Calls Tryd.prog 11 #[.string ⟨l.toArray⟩, .bool plus] w (UnPost w (unesc plus l)) := by
  obtain ⟨n, hn⟩ : ∃ n, n = l.length := ⟨_, rfl⟩
  have hni : (n : Int) ≤ 1073741824 := by omega
  have hn0 : (0 : Int) ≤ (n : Int) := by omega
  obtain ⟨s, hs⟩ : ∃ s, s = (⟨l.toArray⟩ : ByteArray) := ⟨_, rfl⟩
  have hsz : s.size = n := by rw [hs, hn]; simp [ByteArray.size]
  rw [← hs]
  have HA := Lib.hid (And.intro hn hs)
  have hnN : n ≤ 1073741824 := by omega
  clear hn hs hl
  go_enter Tryd.func11, Tryd.ntmps11
  go_wp2_with (first
    | (at_make; go_must (refine wpList_make0 E8 rfl _ (.tmp 10) rfl .i64 .i64 _ n rfl rfl (by first | rfl | omega) (by omega) (by unfold maxLen; omega) w.heap.size (Nat.le_refl _) ?_); intro v w1 hown hv hb1 hz1 hcap))
  have HX := Lib.hid (And.intro hown hb1)
  clear hown hv hb1 hz1 hcap
  go_loopw [6, 7] (fun v6 v7 wr => ∃ (k : Nat) (out : List UInt8), k ≤ n ∧ v7 = .int .i64 k ∧ out.length ≤ k ∧ wr.ownsRow w.heap.size 5 1 v6 out.length (out.map bv) ∧ unesc plus l = (unesc plus (l.drop k)).map (out ++ ·) ∧ Below w.heap.size w wr) (fun _ v _ => n - (intOf v).toNat)
  case atStart => exact ⟨0, [], by omega, rfl, by simp, HX.out.1, by simp, HX.out.2⟩
  case round =>
    clear HX
    obtain ⟨k, out, hk, rfl, ho, hown, hun, hb⟩ := hrel
    obtain ⟨A6, n6, c6, rfl, hn6⟩ := own_form hown
    have HX := Lib.hid (And.intro hown (And.intro hun (And.intro hb hn6)))
    have ho' : out.length ≤ 1073741824 := by omega
    clear hown hun hb hn6
    by_cases hlt : k < n
    · have hkl : k < l.length := by have := HA.out.1; omega
      obtain ⟨x, hx⟩ : ∃ x, x = l[k] := ⟨_, rfl⟩
      have hks : k < s.size := by omega
      have hsx : s[k] = x := by rw [hx]; exact str_at HA.out.2 hkl hks
      have hki : (k : Int) < (n : Int) := by omega
      have hk0 : (0 : Int) ≤ (k : Int) := by omega
      have hdrop : l.drop k = x :: l.drop (k + 1) := by rw [List.drop_eq_getElem_cons hkl, hx]
      have HD := Lib.hid hdrop
      clear hx hdrop
      by_cases h37 : x = 37
      · have hxi : (x.toNat : Int) = 37 := by rw [h37]; rfl
        have hx43 : ¬ (x.toNat : Int) = 43 := by omega
        have HC := Lib.hid h37
        by_cases hsh : n ≤ k + 2
        · have hshi : (n : Int) ≤ (k : Int) + 2 := by omega
          have hno : unesc plus l = none := by
            rw [HX.out.2.1, HD.out, HC.out, unesc_short (by rw [List.length_drop, ← HA.out.1]; omega)]
            rfl
          have HN := Lib.hid hno
          clear hno h37 hsh
          go_wp2_with fail
          go_ret2
          unfold UnPost
          rw [HN.out]
          exact ⟨rfl, HX.out.2.2.1⟩
        · obtain ⟨k1, hk1⟩ : ∃ k1, k1 = k + 1 := ⟨_, rfl⟩
          obtain ⟨k2, hk2⟩ : ∃ k2, k2 = k + 2 := ⟨_, rfl⟩
          have e1 : (k : Int) + 1 = (k1 : Int) := by omega
          have e2 : (k : Int) + 2 = (k2 : Int) := by omega
          have w1 : IntKind.i64.wrap (k1 : Int) = (k1 : Int) := by simp [IntKind.wrap, IntKind.bits, IntKind.signed]; omega
          have w2 : IntKind.i64.wrap (k2 : Int) = (k2 : Int) := by simp [IntKind.wrap, IntKind.bits, IntKind.signed]; omega
          have i1 : (k1 : Int) < (n : Int) := by omega
          have i2 : (k2 : Int) < (n : Int) := by omega
          have j1 : (0 : Int) ≤ (k1 : Int) := by omega
          have j2 : (0 : Int) ≤ (k2 : Int) := by omega
          have hk1l : k1 < l.length := by have := HA.out.1; omega
          have hk2l : k2 < l.length := by have := HA.out.1; omega
          obtain ⟨d, hd⟩ : ∃ d, d = l[k1] := ⟨_, rfl⟩
          obtain ⟨e, he⟩ : ∃ e, e = l[k2] := ⟨_, rfl⟩
          have hs1 : k1 < s.size := by omega
          have hs2 : k2 < s.size := by omega
          have hsd : s[k1] = d := by rw [hd]; exact str_at HA.out.2 hk1l hs1
          have hse : s[k2] = e := by rw [he]; exact str_at HA.out.2 hk2l hs2
          have hdr : l.drop (k + 1) = d :: e :: l.drop (k + 3) := by
            subst hk1 hk2
            rw [List.drop_eq_getElem_cons hk1l, List.drop_eq_getElem_cons hk2l, hd, he]
          have hux : unesc plus l = (if hexN d.toNat = 16 ∨ hexN e.toNat = 16 then none else (unesc plus (l.drop (k + 3))).map (hexs d e :: ·)).map (out ++ ·) := by
            rw [HX.out.2.1, HD.out, HC.out, hdr, unesc_hex]
          have HU := Lib.hid hux
          have hkk := Lib.hid (And.intro hk1 hk2)
          have hshi : (k2 : Int) < (n : Int) := by omega
          obtain ⟨p, hp⟩ : ∃ p, p = hexN d.toNat := ⟨_, rfl⟩
          obtain ⟨q, hq⟩ : ∃ q, q = hexN e.toNat := ⟨_, rfl⟩
          have hp16 := hexN_le d.toNat
          have hq16 := hexN_le e.toNat
          rw [← hp] at hp16
          rw [← hq] at hq16
          have HPQ := Lib.hid (And.intro hp hq)
          clear hd he hdr hux hk1 hk2 hsh h37 hk1l hk2l
          by_cases hbad : p = 16
          · have hz : hexZ d.toNat = -1 := by unfold hexZ; rw [← hp, if_pos hbad]
            have hno : unesc plus l = none := by rw [HU.out, if_pos (.inl (by rw [← hp]; exact hbad))]; rfl
            have HN := Lib.hid hno
            clear hno hp hq hbad
            go_wp2_with (first
              | (go_at_call 29; go_must (refine (digit_any _ _).mono ?_); rintro e w2 ⟨rfl, rfl⟩))
            go_ret2
            unfold UnPost
            rw [HN.out]
            exact ⟨rfl, HX.out.2.2.1⟩
          · have hz : hexZ d.toNat = (p : Int) := by unfold hexZ; rw [← hp, if_neg hbad]
            by_cases hbad2 : q = 16
            · have hz2 : hexZ e.toNat = -1 := by unfold hexZ; rw [← hq, if_pos hbad2]
              have hno : unesc plus l = none := by rw [HU.out, if_pos (.inr (by rw [← hq]; exact hbad2))]; rfl
              have HN := Lib.hid hno
              have hp0 : ¬ (p : Int) < 0 := by omega
              clear hno hp hq hbad hbad2
              go_wp2_with (first
                | (go_at_call 29; go_must (refine (digit_any _ _).mono ?_); rintro e w2 ⟨rfl, rfl⟩))
              go_ret2
              unfold UnPost
              rw [HN.out]
              exact ⟨rfl, HX.out.2.2.1⟩
            · have hz2 : hexZ e.toNat = (q : Int) := by unfold hexZ; rw [← hq, if_neg hbad2]
              have hp0 : ¬ (p : Int) < 0 := by omega
              have hq0 : ¬ (q : Int) < 0 := by omega
              obtain ⟨y, hy⟩ : ∃ y, y = hexs d e := ⟨_, rfl⟩
              have hyn : y.toNat = 16 * p + q := by rw [hy]; unfold hexs; rw [← hp, ← hq, bytN (by omega)]
              have hnx : unesc plus l = (unesc plus (l.drop (k + 3))).map ((out ++ [y]) ++ ·) := by
                rw [HU.out, if_neg (by rw [← hp, ← hq]; exact fun h => h.elim hbad hbad2), ← hy, opt_app]
              have HN := Lib.hid (And.intro hnx hyn)
              have hor := hex_or p q (by omega) (by omega)
              have hpi : (p : Int) ≤ 15 := by omega
              have hqi : (q : Int) ≤ 15 := by omega
              have hpz : (0 : Int) ≤ (p : Int) := by omega
              have wp1 : IntKind.i64.wrap ((p : Int) * 16) = (p : Int) * 16 := by simp [IntKind.wrap, IntKind.bits, IntKind.signed]; omega
              have wp2 : IntKind.u8.wrap (16 * (p : Int) + (q : Int)) = (y.toNat : Int) := by rw [hyn]; simp [IntKind.wrap, IntKind.bits, IntKind.signed]; omega
              have hqz : (0 : Int) ≤ (q : Int) := by omega
              clear hnx hp hq hbad hbad2 hy hyn
              have wp3 : IntKind.i64.wrap (16 * (p : Int)) = 16 * (p : Int) := by simp [IntKind.wrap, IntKind.bits, IntKind.signed]; omega
              have wp4 : IntKind.i64.wrap (16 * (p : Int) + (q : Int)) = 16 * (p : Int) + (q : Int) := by simp [IntKind.wrap, IntKind.bits, IntKind.signed]; omega
              go_upto_region 11 with (first
                | (go_at_call 29; go_must (refine (digit_any _ _).mono ?_); rintro e w2 ⟨rfl, rfl⟩))
              try simp only [Act.put, List.setIfInBounds_toArray, List.set_cons_succ, List.set_cons_zero]
              refine wp_region_qb (by kernel_rfl) (by kernel_rfl) ?_
              go_big_quiet_step (fail)
              go_big_quiet_step (fail)
              refine wq_val (o := ⟨some 51, _, _, _, _, _⟩) (v := .int .i64 (k1 : Int)) rfl (fun w' hC => by go_simp) ?_
              simp only [Act.put, List.setIfInBounds_toArray, List.set_cons_succ, List.set_cons_zero]
              refine wq_val (o := ⟨some 52, _, _, _, _, _⟩) (v := bv d) rfl (fun w' hC => by go_simp) ?_
              simp only [Act.put, List.setIfInBounds_toArray, List.set_cons_succ, List.set_cons_zero]
              refine wq_call (f := 29) (args := #[bv d]) (v := .int .i64 (p : Int)) rfl (fun w' _ => by go_simp) (fun w' hC => ?_) ?_
              · exact (digit_any d w').mono fun e w'' h => ⟨by rw [h.1, hz], h.2 ▸ gr w'⟩
              simp only [Act.put, List.setIfInBounds_toArray, List.set_cons_succ, List.set_cons_zero]
              refine wq_val (o := ⟨some 54, _, _, _, _, _⟩) (v := .int .i64 (16 * (p : Int))) rfl (fun w' hC => by go_simp) ?_
              simp only [Act.put, List.setIfInBounds_toArray, List.set_cons_succ, List.set_cons_zero]
              go_big_quiet_step (fail)
              go_big_quiet_step (fail)
              refine wq_val (o := ⟨some 57, _, _, _, _, _⟩) (v := .int .i64 (k2 : Int)) rfl (fun w' hC => by go_simp) ?_
              simp only [Act.put, List.setIfInBounds_toArray, List.set_cons_succ, List.set_cons_zero]
              refine wq_val (o := ⟨some 58, _, _, _, _, _⟩) (v := bv e) rfl (fun w' hC => by go_simp) ?_
              simp only [Act.put, List.setIfInBounds_toArray, List.set_cons_succ, List.set_cons_zero]
              refine wq_call (f := 29) (args := #[bv e]) (v := .int .i64 (q : Int)) rfl (fun w' _ => by go_simp) (fun w' hC => ?_) ?_
              · exact (digit_any e w').mono fun e w'' h => ⟨by rw [h.1, hz2], h.2 ▸ gr w'⟩
              simp only [Act.put, List.setIfInBounds_toArray, List.set_cons_succ, List.set_cons_zero]
              refine wq_val (o := ⟨some 60, _, _, _, _, _⟩) (v := .int .i64 (16 * (p : Int) + (q : Int))) rfl (fun w' hC => by go_simp) ?_
              simp only [Act.put, List.setIfInBounds_toArray, List.set_cons_succ, List.set_cons_zero]
              refine wq_val (o := ⟨some 61, _, _, _, _, _⟩) (v := bv y) rfl (fun w' hC => by go_simp) ?_
              simp only [Act.put, List.setIfInBounds_toArray, List.set_cons_succ, List.set_cons_zero]
              go_big_quiet_step (fail)
              refine wpQuiet_nil ?_
              intro w8 h8
              have hb8 := gt HX.out.2.2.1 h8
              have hown8 := own_belowB HX.out.1 h8
              go_wp2_with (first
                | ((with_reducible show wpList _ _ _ (⟨some 66, _, _, _, _, _⟩ :: _) _ _); go_must (refine wpList_one E8 rfl _ rfl (by decide) [bv y] rfl rfl w8.heap.size rfl ?_); intro w3 hB3 hb3)
                | ((with_reducible show wpList _ _ _ (⟨some 67, _, _, _, _, _⟩ :: _) _ _); go_must (refine wpList_pushB E8 rfl _ _ rfl (gt hb8 hb3) (own_belowB hown8 hb3) rfl w8.heap.size rfl y hB3 (by omega) ?_); intro v4 w4 hown4 hb4))
              refine ⟨⟨k + 3, out ++ [y], by omega, by go_num, by simp; omega, ?_, HN.out.1, hb4⟩, by simp [intOf]; omega⟩
              rw [List.length_append]
              exact hown4
      · have hxi : ¬ (x.toNat : Int) = 37 := by
          intro h
          exact h37 (UInt8.toNat_inj.1 ((show x.toNat = 37 by omega).trans rfl))
        have hnx : unesc plus l = (unesc plus (l.drop (k + 1))).map ((out ++ [conv plus x]) ++ ·) := by
          rw [HX.out.2.1, HD.out, unesc_plain h37, opt_app]
        clear h37
        by_cases h43 : x = 43 ∧ plus = true
        · obtain ⟨h43, rfl⟩ := h43
          have hxj : (x.toNat : Int) = 43 := by rw [h43]; rfl
          have hcv : conv true x = 32 := by unfold conv; rw [if_pos ⟨h43, rfl⟩]
          rw [hcv] at hnx
          have HN := Lib.hid hnx
          clear hnx hcv h43
          go_wp2_with (first
            | ((with_reducible show wpList _ _ _ (⟨some 66, _, _, _, _, _⟩ :: _) _ _); go_must (refine wpList_one E8 rfl _ rfl (by decide) [bv 32] (by rfl) rfl wr.heap.size rfl ?_); intro w3 hB3 hb3)
            | ((with_reducible show wpList _ _ _ (⟨some 67, _, _, _, _, _⟩ :: _) _ _); go_must (refine wpList_pushB E8 rfl _ _ rfl (gt HX.out.2.2.1 hb3) (own_belowB HX.out.1 hb3) rfl wr.heap.size rfl 32 hB3 (by omega) ?_); intro v4 w4 hown4 hb4))
          refine ⟨⟨k + 1, out ++ [32], by omega, by go_num, by simp; omega, ?_, HN.out, hb4⟩, by simp [intOf]; omega⟩
          rw [List.length_append]
          exact hown4
        · have hcv : conv plus x = x := by unfold conv; rw [if_neg h43]
          rw [hcv] at hnx
          have HN := Lib.hid hnx
          by_cases h43x : x = 43
          · have hpf : plus = false := by
              cases plus with
              | false => rfl
              | true => exact absurd ⟨h43x, rfl⟩ h43
            subst hpf
            have hxj : (x.toNat : Int) = 43 := by rw [h43x]; rfl
            clear hnx hcv h43 h43x
            go_wp2_with (first
              | ((with_reducible show wpList _ _ _ (⟨some 66, _, _, _, _, _⟩ :: _) _ _); go_must (refine wpList_one E8 rfl _ rfl (by decide) [bv x] (by first | rfl | simp [Act.eval, Value.cells, bv, hxj]) rfl wr.heap.size rfl ?_); intro w3 hB3 hb3)
              | ((with_reducible show wpList _ _ _ (⟨some 67, _, _, _, _, _⟩ :: _) _ _); go_must (refine wpList_pushB E8 rfl _ _ rfl (gt HX.out.2.2.1 hb3) (own_belowB HX.out.1 hb3) rfl wr.heap.size rfl x hB3 (by omega) ?_); intro v4 w4 hown4 hb4))
            refine ⟨⟨k + 1, out ++ [x], by omega, by go_num, by simp; omega, ?_, HN.out, hb4⟩, by simp [intOf]; omega⟩
            rw [List.length_append]
            exact hown4
          · have hxj : ¬ (x.toNat : Int) = 43 := by
              intro h
              exact h43x (UInt8.toNat_inj.1 ((show x.toNat = 43 by omega).trans rfl))
            clear hnx hcv h43 h43x
            go_wp2_with (first
              | ((with_reducible show wpList _ _ _ (⟨some 66, _, _, _, _, _⟩ :: _) _ _); go_must (refine wpList_one E8 rfl _ rfl (by decide) [bv x] (by first | rfl | simp [Act.eval, Value.cells, bv, hxj]) rfl wr.heap.size rfl ?_); intro w3 hB3 hb3)
              | ((with_reducible show wpList _ _ _ (⟨some 67, _, _, _, _, _⟩ :: _) _ _); go_must (refine wpList_pushB E8 rfl _ _ rfl (gt HX.out.2.2.1 hb3) (own_belowB HX.out.1 hb3) rfl wr.heap.size rfl x hB3 (by omega) ?_); intro v4 w4 hown4 hb4))
            refine ⟨⟨k + 1, out ++ [x], by omega, by go_num, by simp; omega, ?_, HN.out, hb4⟩, by simp [intOf]; omega⟩
            rw [List.length_append]
            exact hown4
    · obtain rfl : k = n := by omega
      have hd : unesc plus l = some out := by
        rw [HX.out.2.1, List.drop_of_length_le (by have := HA.out.1; omega), unesc_nil]
        simp
      have hcv := own_str HX.out.1 HX.out.2.2.2 (r := out) rfl
      have HN := Lib.hid hd
      clear hd hlt
      go_wp2_with fail
      go_ret2
      unfold UnPost
      rw [HN.out]
      exact ⟨rfl, HX.out.2.2.1⟩

end Go.Proofs.YtompcngeikjfiaaDoor.Uri
