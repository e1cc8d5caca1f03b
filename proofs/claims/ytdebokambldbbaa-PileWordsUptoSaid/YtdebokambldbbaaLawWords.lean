/- weirlaw07.PileWords: the walk. -/
import Derived.Test.YtdebokambldbbaaPWords
namespace Go.Proofs.Ytdebokambldbbaa.LawW
open Go.RowKit Go.Shelf Go.Proofs.Ytdebokambldbbaa.Mem Go.Proofs.Ytdebokambldbbaa.Heap Go.Proofs.Ytdebokambldbbaa.Pile Go.Proofs.Ytdebokambldbbaa.PileS
set_option linter.unusedVariables false
set_option linter.unusedSectionVars false
set_option linter.unusedSimpArgs false
set_option maxRecDepth 8000
set_option maxHeartbeats 12800000

theorem sorted_S (W : World) (A : Option Addr) (n c : Nat) (l : List Wd) (hr : RV W A (l.map strV)) (hn : n = l.length) (hl : l.length ≤ 1073741824) :
    Calls Try.prog 37 #[.slice A n c, .func (.func 38) #[] #[]] W fun e W' => ∃ v, e = .returned v ∧ W'.ownsRow W.heap.size 9 1 v l.length ((msort sh l).map strV) ∧ Below W.heap.size W W' := by
  have h := sorted_any (th := thS) W A n c l _ (by rw [flS]; exact hr) hn (fv_short W) (fun _ _ => trivial) hl
  rw [sorted_eq (show Swo sh from swo_ltN List.length), flS] at h
  exact h
theorem best_S (W : World) (A : Option Addr) (n c : Nat) (k : Int) (l : List Wd) (hr : RV W A (l.map strV)) (hn : n = l.length) (hl : l.length ≤ 1073741824) (hk : k ≤ 9223372036854775807) :
    Calls Try.prog 41 #[.slice A n c, .int .i64 k, .func (.func 38) #[] #[]] W fun e W' => ∃ v, e = .returned v ∧ W'.ownsRow W.heap.size 9 1 v ((msort sh l).take k.toNat).length (((msort sh l).take k.toNat).map strV) ∧ Below W.heap.size W W' := by
  have h := best_any (th := thS) (swo_ltN List.length) W A n c k l _ (by rw [flS]; exact hr) hn (fv_short W) hl hk
  rw [flS] at h
  exact h
theorem merge_S (W : World) (AL : Option Addr) (cl : Nat) (a b : List Wd) (va vb : Value) (Ba Bb : Nat) (hr : RV W AL [va, .slice none 0 0, vb]) (ha : W.ownsRow Ba 9 1 va a.length ((msort sh a).map strV)) (hb : W.ownsRow Bb 9 1 vb b.length ((msort sh b).map strV)) (hl : a.length + b.length ≤ 1073741824) :
    Calls Try.prog 42 #[.func (.func 38) #[] #[], .slice AL 3 cl] W fun e W' => ∃ v, e = .returned v ∧ W'.ownsRow W.heap.size 9 1 v (msort sh (a ++ b)).length ((msort sh (a ++ b)).map strV) ∧ Below W.heap.size W W' := by
  obtain ⟨Aa, ca, rfl, hca⟩ := own_slice ha
  obtain ⟨Ab, cb, rfl, hcb⟩ := own_slice hb
  have adr : ∀ {A : Option Addr} {B n c : Nat} {xs : List Value}, W.ownsRow B 9 1 (.slice A n c) n xs → ∃ g, 0 < n → A = some ⟨g, 0, none⟩ := fun {A B n c xs} h => by
    by_cases h0 : 0 < n
    · obtain ⟨g, hg, _⟩ := own_addr h h0
      exact ⟨g, fun _ => hg⟩
    · exact ⟨0, fun h => absurd h h0⟩
  obtain ⟨ga_, hga⟩ := adr ha
  obtain ⟨gb_, hgb⟩ := adr hb
  have h := merge_any (th := thS) (lt := sh) (ls := [msort sh a, [], msort sh b]) (G := fun i => if i = 0 then ga_ else gb_) (c := fun i => if i = 0 then ca else if i = 1 then 0 else cb) (swo_ltN List.length) W AL 3 cl (fun i => if i = 0 then .slice Aa a.length ca else if i = 1 then .slice none 0 0 else .slice Ab b.length cb) _ rfl hr
    (fun i hi => ?_) (fun i hi hp => ?_) (fv_short W) (by unfold total; simp [msort_len]; omega) (by omega)
  · rw [show merged sh [msort sh a, [], msort sh b] = msort sh (a ++ b) from merged3 (swo_ltN List.length) a b, flS] at h
    exact h
  · rcases (show i = 0 ∨ i = 1 ∨ i = 2 by omega) with rfl | rfl | rfl
    · refine ⟨⟨Aa, by show Value.slice Aa a.length ca = .slice Aa (msort sh a).length ca; rw [msort_len]⟩, fun hp => ?_⟩
      show Value.slice Aa a.length ca = .slice (some ⟨ga_, 0, none⟩) (msort sh a).length ca
      have hp' : 0 < (msort sh a).length := hp
      rw [msort_len] at hp' ⊢
      rw [hga hp']
    · exact ⟨⟨none, rfl⟩, fun hp => absurd hp (Nat.lt_irrefl 0)⟩
    · refine ⟨⟨Ab, by show Value.slice Ab b.length cb = .slice Ab (msort sh b).length cb; rw [msort_len]⟩, fun hp => ?_⟩
      show Value.slice Ab b.length cb = .slice (some ⟨gb_, 0, none⟩) (msort sh b).length cb
      have hp' : 0 < (msort sh b).length := hp
      rw [msort_len] at hp' ⊢
      rw [hgb hp']
  · have hi' : i < 3 := hi
    rcases (show i = 0 ∨ i = 1 ∨ i = 2 by omega) with rfl | rfl | rfl
    · have hp' : 0 < (msort sh a).length := hp
      rw [msort_len] at hp'
      refine ⟨?_, by show (msort sh a).length ≤ ca; rw [msort_len]; exact hca⟩
      show RV W (some ⟨ga_, 0, none⟩) ((msort sh a).flatMap thS.cells)
      rw [flS, ← hga hp']
      exact own_rv ha
    · exact absurd hp (Nat.lt_irrefl 0)
    · have hp' : 0 < (msort sh b).length := hp
      rw [msort_len] at hp'
      refine ⟨?_, by show (msort sh b).length ≤ cb; rw [msort_len]; exact hcb⟩
      show RV W (some ⟨gb_, 0, none⟩) ((msort sh b).flatMap thS.cells)
      rw [flS, ← hgb hp']
      exact own_rv hb
theorem own_rvW {w : World} {B n n' c size : Nat} {T : TypeId} {A : Option Addr} {xs : List Value} (h : w.ownsRow B T size (.slice A n' c) n xs) : RV w A xs := by
  obtain ⟨A', n2, c2, hv, rfl⟩ := own_form h
  injection hv with h1 h2 h3
  obtain rfl : n' = n2 := by omega
  exact own_rv h
theorem cut_to {ρ : Operand → Value} {w : World} {o : Oper} {x y : Operand} {A : Option Addr} {n c m : Nat} {mi : Int} (ho : o.op = .slice 65 x none (some y) none) (hx : ρ x = .slice A n c) (hy : ρ y = .int .i64 mi) (he : mi = m) (hm : m ≤ c) :
    (execOp ρ o).run Try.prog w = .ok (.value (.slice A m c)) w := by
  subst he
  have h := run_slice_h (P := Try.prog) (w := w) 65 A n c (by rfl) .i64 (m : Int) (by omega) (by omega)
  have hs : (sizeOf (Try.prog.elem 65)).run Try.prog w = .ok 1 w := by rfl
  rw [hs] at h
  have e : sliced A 0 (m : Int).toNat c 1 = .slice A m c := by
    unfold sliced
    cases A <;> simp [Addr.add]
  simp only [Result.andThen, e] at h
  simp [execOp, ho, hx, hy, run_sliceAt_slice, h, Result.andThen, (show Try.prog.underlying 65 = some (.slice (Try.prog.elem 65)) from rfl)]
theorem cut_from {ρ : Operand → Value} {w : World} {o : Oper} {x y : Operand} {A : Option Addr} {n c m : Nat} {mi : Int} (ho : o.op = .slice 65 x (some y) none none) (hx : ρ x = .slice A n c) (hy : ρ y = .int .i64 mi) (he : mi = m) (hm : m ≤ n) :
    (execOp ρ o).run Try.prog w = .ok (.value (.slice (if c = m then A else A.map (·.add m)) (n - m) (c - m))) w := by
  subst he
  have h := run_slice_l (P := Try.prog) (w := w) 65 A n c (by rfl) .i64 (m : Int) (by omega) (by omega)
  have hs : (sizeOf (Try.prog.elem 65)).run Try.prog w = .ok 1 w := by rfl
  rw [hs] at h
  have e : sliced A (m : Int).toNat n c 1 = .slice (if c = m then A else A.map (·.add m)) (n - m) (c - m) := by
    unfold sliced
    simp
  simp only [Result.andThen, e] at h
  simp [execOp, ho, hx, hy, run_sliceAt_slice, h, Result.andThen, (show Try.prog.underlying 65 = some (.slice (Try.prog.elem 65)) from rfl)]
theorem rv_to {W : World} {A : Option Addr} {l : List Wd} (h : RV W A (l.map strV)) (m : Nat) : RV W A ((l.take m).map strV) := fun j hj => by
  rw [List.length_map, List.length_take] at hj
  obtain ⟨ad, e, hc⟩ := h j (by rw [List.length_map]; omega)
  exact ⟨ad, e, by simpa [List.getElem_take] using hc⟩
theorem rv_from {W : World} {A : Option Addr} {l : List Wd} {n c m : Nat} (h : RV W A (l.map strV)) (hn : n = l.length) (hc : n ≤ c) (hm : m ≤ n) : RV W (if c = m then A else A.map (·.add m)) ((l.drop m).map strV) := fun j hj => by
  rw [List.length_map, List.length_drop] at hj
  obtain ⟨ad, e, hc⟩ := h (m + j) (by rw [List.length_map]; omega)
  rw [if_neg (by omega), e]
  refine ⟨_, rfl, ?_⟩
  rw [add_of_add]
  simpa [List.getElem_drop] using hc
theorem ELL : Elt Try.prog 114 65 [.slice none 0 0] 24 := Elt.mk1 Try.underlying114 (by kernel_rfl) rfl
theorem own_belowW {w w' : World} {B n size : Nat} {T : TypeId} {v : Value} {xs : List Value} (h : w.ownsRow B T size v n xs) (hb : Below w.heap.size w w') : w'.ownsRow B T size v n xs := by
  first | exact own_below' h hb | exact own_belowB h hb | exact own_below h hb
theorem words_pair : msort sh [[98, 98], [97]] = [[97], [98, 98]] := by
  rw [msort_step _ (by simp)]
  rw [msort_short _ (by simp), msort_short _ (by simp)]
  simp [mrg, sh, ltN]
theorem rises_at (l : List Wd) {k : Nat} (h : k + 1 < (msort sh l).length) : ((msort sh l)[k]).length ≤ ((msort sh l)[k + 1]).length :=
  List.pairwise_iff_getElem.1 (show Rises List.length (msort sh l) from msort_rises l) k (k + 1) (by omega) h (by omega)
theorem words_walk (A0 : Option Addr) (n c : Nat) (l : List Wd) (kk cut : Int) (W : World) (hr : RV W A0 (l.map strV)) (hn : n = l.length) (hl : l.length ≤ 1048576) (hc : n ≤ c) (hk : -9223372036854775808 ≤ kk ∧ kk ≤ 9223372036854775807) (hcut : -9223372036854775808 ≤ cut ∧ cut ≤ 9223372036854775807) :
    Calls Try.prog 9 #[.slice A0 n c, .int .i64 kk, .int .i64 cut] W fun e W' => e = .returned (.bool true) ∧ Below W.heap.size W W' := by
  have hnb : n ≤ 1048576 := by omega
  have H0 := Lib.hid (And.intro hr (And.intro hn (And.intro hc (And.intro hk hcut))))
  clear hr hn hl hc hk hcut
  go_enter Try.func9, Try.ntmps9
  go_wp2_with (first
    | ((with_reducible show wpList _ _ _ (⟨some 14, _, _, _, _, _⟩ :: _) _ _)
       go_must (refine wpList_new (cs := [strV [98, 98], strV [97]]) (o := ⟨some 14, _, _, _, _, _⟩) rfl (run_build2 ET _ _ rfl (by decide) [strV [98, 98]] [strV [97]] rfl rfl rfl rfl) ?_)
       intro w1 hB1 hb1 hz1)
    | (go_at_call 37
       (with_reducible show Calls _ _ #[Value.slice (some ⟨W.heap.size, 0, none⟩) _ _, _] _ _)
       go_must (refine (sorted_S w1 (some ⟨W.heap.size, 0, none⟩) 2 2 [[98, 98], [97]] (hB1.rv) rfl (by decide)).mono ?_)
       rintro e w2 ⟨v2, rfl, ho2, hb2⟩
       rw [words_pair] at ho2
       obtain ⟨g2, c2, hv2⟩ : ∃ g2 c2, v2 = .slice (some ⟨g2, 0, none⟩) 2 c2 := by obtain ⟨g, cap, cur, h1, _⟩ := own_blk ho2 (by decide); exact ⟨g, cap, h1⟩
       subst hv2
       have d0 : w2.cell? ⟨g2, 0, none⟩ = some (.string ⟨#[97]⟩) := (own_rv ho2).cells rfl 0 _ rfl
       have hb12 := gt hb1 hb2
       have HR2 := Lib.hid (H0.out.1.below hb12)
       clear ho2 hb1 hb2 hB1 hz1)
    | (go_at_call 37
       go_must (refine (sorted_S w2 A0 n c l HR2.out H0.out.2.1 (by rw [← H0.out.2.1]; omega)).mono ?_)
       rintro e w3 ⟨v3, rfl, ho3, hb3⟩
       rw [← H0.out.2.1] at ho3
       obtain ⟨As, cs, rfl, hcs⟩ := own_slice ho3
       have hb3' := gt hb12 hb3))
  obtain ⟨S, hS⟩ : ∃ S, S = msort sh l := ⟨_, rfl⟩
  have hSl : S.length = n := by rw [hS, msort_len, H0.out.2.1]
  rw [← hS] at ho3
  have X3 := Lib.hid (And.intro ho3 (And.intro hb3' (And.intro hS (And.intro hSl (And.intro hcs (H0.out.1.below hb3'))))))
  clear ho3 hb3 hb3' hS hSl hcs d0 hb12
  go_loopw [34] (fun v34 wr => ∃ k : Nat, k ≤ n ∧ v34 = .int .i64 k ∧ Below w3.heap.size w3 wr) (fun v _ => n - (intOf v).toNat)
  case atStart => exact ⟨0, Nat.zero_le _, rfl, gr w3⟩
  case round =>
    obtain ⟨k, hk, rfl, hb⟩ := hrel
    by_cases hlt : k < n
    · have hkS : k < S.length := by rw [X3.out.2.2.2.1]; exact hlt
      obtain ⟨ad, rfl, c1⟩ := word_at ((own_rv X3.out.1).below hb) hkS
      have hSS := X3.out.2.2.1
      obtain ⟨w, hw⟩ : ∃ w, w = S[k] := ⟨_, rfl⟩
      rw [← hw] at c1
      have hf : S.filter (fun x => x.length == w.length) = l.filter (fun x => x.length == w.length) := by rw [hSS]; exact msort_filter w.length l
      have hfl : (l.filter fun x => x.length == w.length).length ≤ 1099511627776 := Nat.le_trans (List.length_filter_le _ _) (by rw [← H0.out.2.1]; omega)
      have cO1 : ∀ w', Below wr.heap.size wr w' → Calls Try.prog 40 #[.slice (some ad) n cs, .int .i64 w.length] w' fun e W' => ∃ v, e = .returned v ∧ W'.ownsRow w'.heap.size 9 1 v (l.filter fun x => x.length == w.length).length ((l.filter fun x => x.length == w.length).map strV) ∧ Below w'.heap.size w' W' := fun w' h => by
        have := of_length (some ad) n cs w.length S w' ((own_rv X3.out.1).below (gt hb h)) X3.out.2.2.2.1.symm (by rw [X3.out.2.2.2.1]; omega)
        rw [hf] at this
        exact this
      have cO2 : ∀ w', Below wr.heap.size wr w' → Calls Try.prog 40 #[.slice A0 n c, .int .i64 w.length] w' fun e W' => ∃ v, e = .returned v ∧ W'.ownsRow w'.heap.size 9 1 v (l.filter fun x => x.length == w.length).length ((l.filter fun x => x.length == w.length).map strV) ∧ Below w'.heap.size w' W' := fun w' h =>
        of_length A0 n c w.length l w' (X3.out.2.2.2.2.2.below (gt hb h)) H0.out.2.1 (by rw [← H0.out.2.1]; omega)
      have CO := Lib.hid (And.intro cO1 (And.intro cO2 hfl))
      have hki : (k : Int) < (n : Int) := by omega
      have hk0 : (0 : Int) ≤ (k : Int) := by omega
      have Q := Lib.hid (And.intro hlt hb)
      by_cases h0 : k = 0
      · have z1 : ((k : Int) == 0) = true := by rw [beq_iff_eq]; omega
        have z2 : decide (0 < (k : Int)) = false := by rw [decide_eq_false_iff_not]; omega
        have z5 : decide (0 < k) = false := by rw [decide_eq_false_iff_not]; omega
        have z6 : (k == 0) = true := by rw [beq_iff_eq]; exact h0
        have z7 : ¬ 0 < k := by omega
        clear hlt hk hb hkS hSS hf hfl cO1 cO2 h0 hw
        unfold strV at c1
        go_wp2_with (first
          | (go_at_call 40
             (with_reducible show Calls _ _ #[Value.slice (some ad) _ _, _] _ _)
             go_must (refine (CO.out.1 wr (gr wr)).mono ?_)
             rintro e w5 ⟨v5, rfl, ho5, hb5⟩
             obtain ⟨A5, n5, c5, rfl, hn5⟩ := own_form ho5
             have X5 := Lib.hid (And.intro hn5 ho5)
             clear hn5 ho5)
          | (go_at_call 40
             (with_reducible show Calls _ _ #[Value.slice A0 _ _, _] _ _)
             go_must (refine (CO.out.2.1 w5 hb5).mono ?_)
             rintro e w6 ⟨v6, rfl, ho6, hb6⟩
             obtain ⟨A6, n6, c6, rfl, hn6⟩ := own_form ho6
             have X6 := Lib.hid (And.intro hn6 ho6)
             have hb6' := gt hb5 hb6
             clear hn6 ho6)
          | (go_at_call 39
             have e56 : n5 = n6 := by rw [X5.out.1, X6.out.1]
             have cSW := same_words A5 A6 n5 c5 c6 (l.filter fun x => x.length == w.length) w6 ((own_rvW X5.out.2).below hb6) (own_rvW X6.out.2) X5.out.1 (CO.out.2.2)
             rw [← e56]
             go_must (refine cSW.mono ?_)
             rintro e w7 ⟨rfl, hb7⟩
             have hb7' := gt hb6' hb7))
        go_roundw
        case rel => exact ⟨_, Q.out.1, by go_num, gt Q.out.2 hb7'⟩
        case measure => exact meas_in Q.out.1
      · obtain ⟨kp, rfl⟩ : ∃ kp, k = kp + 1 := ⟨k - 1, by omega⟩
        have hkp : kp < S.length := by omega
        have hlep : S[kp].length ≤ S[kp + 1].length := by
          have := rises_at l (k := kp) (by rw [← hSS]; exact hkS)
          simp only [← hSS] at this
          exact this
        obtain ⟨adp, ep, cp⟩ := word_at ((own_rv X3.out.1).below hb) hkp
        injection ep with ep
        subst ep
        obtain ⟨p, hp⟩ : ∃ p, p = S[kp] := ⟨_, rfl⟩
        rw [← hp] at cp hlep
        rw [← hw] at hlep
        have z1 : (((kp + 1 : Nat) : Int) == 0) = false := by rw [beq_eq_false_iff_ne]; omega
        have z2 : decide (0 < ((kp + 1 : Nat) : Int)) = true := by rw [decide_eq_true_eq]; omega
        have z3 : decide ((w.length : Int) < (p.length : Int)) = false := by rw [decide_eq_false_iff_not]; omega
        have LE := Lib.hid hlep
        by_cases hs : p.length < w.length
        · have z4 : decide ((p.length : Int) < (w.length : Int)) = true := by rw [decide_eq_true_eq]; omega
          have z6 : decide (p.length < w.length) = true := by rw [decide_eq_true_eq]; exact hs
          clear hlt hk hb hkS hSS hf hfl cO1 cO2 h0 hw hp hkp hlep
          unfold strV at c1 cp
          replace c1 : wr.cell? ⟨ad.block, ad.off + (kp + 1), none⟩ = some (.string ⟨w.toArray⟩) := by rw [← c1]; unfold Addr.add; rw [if_neg (Nat.succ_ne_zero kp)]
          have hle' : ¬ w.length < p.length := by have := LE.out; omega
          have z5 : decide (w.length < p.length) = false := by rw [decide_eq_false_iff_not]; exact hle'
          go_wp2_with (first
            | (go_at_call 40
               (with_reducible show Calls _ _ #[Value.slice (some ad) _ _, _] _ _)
               go_must (refine (CO.out.1 wr (gr wr)).mono ?_)
               rintro e w5 ⟨v5, rfl, ho5, hb5⟩
               obtain ⟨A5, n5, c5, rfl, hn5⟩ := own_form ho5
               have X5 := Lib.hid (And.intro hn5 ho5)
               clear hn5 ho5)
            | (go_at_call 40
               (with_reducible show Calls _ _ #[Value.slice A0 _ _, _] _ _)
               go_must (refine (CO.out.2.1 w5 hb5).mono ?_)
               rintro e w6 ⟨v6, rfl, ho6, hb6⟩
               obtain ⟨A6, n6, c6, rfl, hn6⟩ := own_form ho6
               have X6 := Lib.hid (And.intro hn6 ho6)
               have hb6' := gt hb5 hb6
               clear hn6 ho6)
            | (go_at_call 39
               have e56 : n5 = n6 := by rw [X5.out.1, X6.out.1]
               have cSW := same_words A5 A6 n5 c5 c6 (l.filter fun x => x.length == w.length) w6 ((own_rvW X5.out.2).below hb6) (own_rvW X6.out.2) X5.out.1 (CO.out.2.2)
               rw [← e56]
               go_must (refine cSW.mono ?_)
               rintro e w7 ⟨rfl, hb7⟩
               have hb7' := gt hb6' hb7))
          go_roundw
          case rel => exact ⟨_, Q.out.1, by go_num, gt Q.out.2 hb7'⟩
          case measure => exact meas_in Q.out.1
        · have z4 : decide ((p.length : Int) < (w.length : Int)) = false := by rw [decide_eq_false_iff_not]; omega
          have z6 : decide (p.length < w.length) = false := by rw [decide_eq_false_iff_not]; exact hs
          clear hlt hk hb hkS hSS hf hfl cO1 cO2 h0 hw hp hkp hlep
          unfold strV at c1 cp
          replace c1 : wr.cell? ⟨ad.block, ad.off + (kp + 1), none⟩ = some (.string ⟨w.toArray⟩) := by rw [← c1]; unfold Addr.add; rw [if_neg (Nat.succ_ne_zero kp)]
          have hle' : ¬ w.length < p.length := by have := LE.out; omega
          have z5 : decide (w.length < p.length) = false := by rw [decide_eq_false_iff_not]; exact hle'
          go_wp2
          go_roundw
          case rel => exact ⟨_, Q.out.1, by go_num, gt Q.out.2 (gr wr)⟩
          case measure => exact meas_in Q.out.1

    · have ek : n = k := by omega
      subst ek
      obtain ⟨m, hm⟩ : ∃ m, m = min kk.toNat n := ⟨_, rfl⟩
      have hmn : m ≤ n := by omega
      have hcs' := X3.out.2.2.2.2.1
      have hmc : m ≤ cs := by omega
      have hSl := X3.out.2.2.2.1
      have hSS := X3.out.2.2.1
      have hTk : (msort sh l).take kk.toNat = S.take m := by rw [← hSS, List.take_eq_take_iff]; omega
      have hTl : (S.take m).length = m := by rw [List.length_take]; omega
      have rS : ∀ w', Below wr.heap.size wr w' → RV w' As (S.map strV) := fun w' h => (own_rv X3.out.1).below (gt hb h)
      have rA : ∀ w', Below wr.heap.size wr w' → RV w' A0 (l.map strV) := fun w' h => X3.out.2.2.2.2.2.below (gt hb h)
      have cB : ∀ w', Below wr.heap.size wr w' → Calls Try.prog 41 #[.slice A0 n c, .int .i64 kk, .func (.func 38) #[] #[]] w' fun e W' => ∃ v, e = .returned v ∧ W'.ownsRow w'.heap.size 9 1 v m ((S.take m).map strV) ∧ Below w'.heap.size w' W' := fun w' h => by
        have := best_S w' A0 n c kk l (rA w' h) H0.out.2.1 (by rw [← H0.out.2.1]; omega) H0.out.2.2.2.1.2
        rw [hTk, hTl] at this
        exact this
      obtain ⟨at_, hat⟩ : ∃ at_, at_ = LawP.plN cut (n + 1) := ⟨_, rfl⟩
      have hatn : at_ ≤ n := by have := LawP.plN_lt cut (n := n + 1) (by omega); omega
      have cP : ∀ w', Calls Try.prog 12 #[.int .i64 cut, .int .i64 ((n : Int) + 1)] w' fun e W' => e = .returned (.int .i64 at_) ∧ Below w'.heap.size w' W' := fun w' => by
        have := LawP.place_any cut (n + 1) (by omega) H0.out.2.2.2.2 w'
        rw [← hat, show ((n + 1 : Nat) : Int) = (n : Int) + 1 by omega] at this
        exact this
      have hb' := gt X3.out.2.1 hb
      obtain ⟨A2, hA2⟩ : ∃ A2, A2 = if c = at_ then A0 else A0.map (·.add at_) := ⟨_, rfl⟩
      have HA2 := Lib.hid hA2
      have ZB := Lib.hid cB
      have ZP := Lib.hid cP
      have ZS := Lib.hid rS
      have ZA := Lib.hid rA
      have Z := Lib.hid (And.intro hmn (And.intro hmc (And.intro hatn (And.intro hTl (And.intro hm (And.intro hSS (And.intro hSl hb')))))))
      clear hlt hk hb hb' hm hmn hcs' hmc hSl hSS hTk hTl rS rA cB hat hatn cP hA2
      by_cases k1 : kk < 0
      · have b1 : decide (kk < 0) = true := by rw [decide_eq_true_eq]; exact k1
        have b2 : decide ((n : Int) < 0) = false := by rw [decide_eq_false_iff_not]; omega
        have HE : Hid ((0 : Int) = (m : Int)) := Lib.hid (by have := Z.out.2.2.2.2.1; omega)
        go_wp2
        try simp only [Act.put, List.setIfInBounds_toArray, List.set_cons_succ, List.set_cons_zero]
        refine wp_region_rrT (fun a b => Below a.heap.size a b) (fun _ _ _ h g => gt h g) (fun _ _ h => h.size) (fun a => (gr a).drew) 6
          [.eq 87 (.slice A0 n c), .eq 88 (.int .i64 kk), .one 89 (fun v W => ∃ A1 c1, v = .slice A1 m c1 ∧ RV W A1 ((S.take m).map strV)), .eq 90 (.slice As n cs), .eq 91 (.int .i64 0), .eq 92 (.slice As m cs)]
          (by kernel_rfl) (by kernel_rfl) (by kernel_rfl) (by kernel_rfl) ?hsta ?hoba ?hfina
        case hsta =>
          intro s hs
          simp only [List.mem_cons, List.not_mem_nil, or_false] at hs
          rcases hs with rfl | rfl | rfl | rfl | rfl | rfl
          · exact fun _ _ _ h _ => h
          · exact fun _ _ _ h _ => h
          · rintro vs w1 w2 ⟨v, rfl, h⟩ hb
            exact ⟨_, rfl, (fun ⟨A1, c1, e, r⟩ hb => ⟨A1, c1, e, r.below hb⟩) h hb⟩
          · exact fun _ _ _ h _ => h
          · exact fun _ _ _ h _ => h
          · exact fun _ _ _ h _ => h
        case hoba =>
          simp only [List.take_succ_cons, List.take_zero]
          refine rrs_cons ?_ (rrs_cons ?_ (rrs_cons ?_ (rrs_cons ?_ (rrs_cons ?_ (rrs_cons ?_ rrs_nil)))))
          · refine rr_eq gr (by decide) (by rfl) (by rfl) fun x w' A hg hp hA => ?_
            have e0 := hA 0
            simp [rgDsts] at e0
            go_simp
          · refine rr_eq gr (by decide) (by rfl) (by rfl) fun x w' A hg hp hA => ?_
            have e1 := hA 1
            simp [rgDsts] at e1
            go_simp
          · refine rr_call (by decide) (by rfl) fun x w' A hg hp hA => ?_
            have h87 := rg_pred_eq (d := 87) hp 0 rfl rfl rfl
            have h88 := rg_pred_eq (d := 88) hp 1 rfl rfl rfl
            have e87 := (hA.at_ 87 rfl).trans h87
            have e88 := (hA.at_ 88 rfl).trans h88
            refine ⟨41, #[.slice A0 n c, .int .i64 kk, .func (.func 38) #[] #[]], ?_, ?_⟩
            · go_simp
            · refine (ZB.out w' hg).mono ?_
              rintro e w'' ⟨v, rfl, ho, hbx⟩
              obtain ⟨A1, n1, c1, rfl, h1⟩ := own_form ho
              exact ⟨_, rfl, hbx, ⟨_, rfl, A1, c1, by rw [h1]; simp [rgUpd], own_rvW ho⟩, by simp⟩
          · refine rr_eq gr (by decide) (by rfl) (by rfl) fun x w' A hg hp hA => ?_
            have e8 := hA 8
            simp [rgDsts] at e8
            go_simp
          · refine rr_eq gr (by decide) (by rfl) (by rfl) fun x w' A hg hp hA => ?_
            have e11 := hA 11
            simp [rgDsts] at e11
            go_simp
          · refine rr_val (by decide) (by rfl) fun x w' A hg hp hA => ?_
            have h90 := rg_pred_eq (d := 90) hp 0 rfl rfl rfl
            have h91 := rg_pred_eq (d := 91) hp 1 rfl rfl rfl
            have e90 := (hA.at_ 90 rfl).trans h90
            have e91 := (hA.at_ 91 rfl).trans h91
            refine ⟨_, w', cut_to (x := .tmp 90) (y := .tmp 91) rfl (by simpa [Act.eval] using e90) (by simpa [Act.eval] using e91) HE.out Z.out.2.1, gr w', ?_, ?_⟩
            · first | rfl | exact ⟨_, rfl, rfl⟩ | simp [rgUpd]
            · first | simp | (intro b hb; cases hb)
        case hfina =>
        intro x w4 hg hall hap
        simp only [RgAll, holds_eq, holds_new, holds_one, and_true] at hall
        obtain ⟨h87, h88, h89, h90, h91, h92⟩ := hall
        obtain ⟨A1, c1, h89, r89⟩ := h89
        simp only [rgDsts, List.take_succ_cons, List.take_zero, List.filterMap_cons, List.filterMap_nil, putMany, List.foldl_cons, List.foldl_nil, List.setIfInBounds_toArray, List.set_cons_succ, List.set_cons_zero, List.drop_succ_cons, List.drop_zero, h87, h88, h90, h91, h92, h89]
        clear h87 h88 h90 h91 h92 h89
        have hg4 := hg
        clear hg hap
        have cSW := same_words A1 As m c1 cs (S.take m) w4 r89 (rv_to (ZS.out w4 hg4) m) Z.out.2.2.2.1.symm (by rw [Z.out.2.2.2.1]; have := Z.out.1; omega)
        go_wp2_with (first
          | (go_at_call 39
             go_must (refine (cSW).mono ?_)
             rintro e w5 ⟨rfl, hb5⟩
             have hb5' := gt hg4 hb5
             clear cSW)
          | (go_at_call 12
             go_must (refine (ZP.out w5).mono ?_)
             rintro e w6 ⟨rfl, hb6⟩
             have hb6' := gt hb5' hb6))
        have G6 := Lib.hid hb6'
        clear hg4 hb5 hb5' hb6 hb6' r89
        try simp only [Act.put, List.setIfInBounds_toArray, List.set_cons_succ, List.set_cons_zero]
        refine wp_region_rrT (fun a b => Below a.heap.size a b) (fun _ _ _ h g => gt h g) (fun _ _ h => h.size) (fun a => (gr a).drew) 8
          [.eq 100 (.slice A0 n c), .eq 101 (.int .i64 (at_ : Int)), .eq 102 (.slice A0 at_ c), .one 103 (fun v W => ∃ v0, v = v0 ∧ W.ownsRow w6.heap.size 9 1 v0 (l.take at_).length ((msort sh (l.take at_)).map strV)), .eq 104 (.slice A0 n c), .eq 105 (.int .i64 (at_ : Int)), .eq 106 (.slice A2 (n - at_) (c - at_)), .one 107 (fun v W => ∃ v0, v = v0 ∧ W.ownsRow w6.heap.size 9 1 v0 (l.drop at_).length ((msort sh (l.drop at_)).map strV))]
          (by kernel_rfl) (by kernel_rfl) (by kernel_rfl) (by kernel_rfl) ?hstb ?hobb ?hfinb
        case hstb =>
          intro s hs
          simp only [List.mem_cons, List.not_mem_nil, or_false] at hs
          rcases hs with rfl | rfl | rfl | rfl | rfl | rfl | rfl | rfl
          · exact fun _ _ _ h _ => h
          · exact fun _ _ _ h _ => h
          · exact fun _ _ _ h _ => h
          · rintro vs w1 w2 ⟨v, rfl, h⟩ hb
            exact ⟨_, rfl, (fun ⟨v0, e, h⟩ hb => ⟨v0, e, own_belowW h hb⟩) h hb⟩
          · exact fun _ _ _ h _ => h
          · exact fun _ _ _ h _ => h
          · exact fun _ _ _ h _ => h
          · rintro vs w1 w2 ⟨v, rfl, h⟩ hb
            exact ⟨_, rfl, (fun ⟨v0, e, h⟩ hb => ⟨v0, e, own_belowW h hb⟩) h hb⟩
        case hobb =>
          simp only [List.take_succ_cons, List.take_zero]
          refine rrs_cons ?_ (rrs_cons ?_ (rrs_cons ?_ (rrs_cons ?_ (rrs_cons ?_ (rrs_cons ?_ (rrs_cons ?_ (rrs_cons ?_ rrs_nil)))))))
          · refine rr_eq gr (by decide) (by rfl) (by rfl) fun x w' A hg hp hA => ?_
            have e0 := hA 0
            simp [rgDsts] at e0
            go_simp
          · refine rr_eq gr (by decide) (by rfl) (by rfl) fun x w' A hg hp hA => ?_
            have e12 := hA 12
            simp [rgDsts] at e12
            go_simp
          · refine rr_val (by decide) (by rfl) fun x w' A hg hp hA => ?_
            have h100 := rg_pred_eq (d := 100) hp 0 rfl rfl rfl
            have h101 := rg_pred_eq (d := 101) hp 1 rfl rfl rfl
            have e100 := (hA.at_ 100 rfl).trans h100
            have e101 := (hA.at_ 101 rfl).trans h101
            refine ⟨_, w', cut_to (x := .tmp 100) (y := .tmp 101) rfl (by simpa [Act.eval] using e100) (by simpa [Act.eval] using e101) rfl (by have h1 := Z.out.2.2.1; have h2 := H0.out.2.2.1; omega), gr w', ?_, ?_⟩
            · first | rfl | exact ⟨_, rfl, rfl⟩ | simp [rgUpd]
            · first | simp | (intro b hb; cases hb)
          · refine rr_call (by decide) (by rfl) fun x w' A hg hp hA => ?_
            have h102 := rg_pred_eq (d := 102) hp 0 rfl rfl rfl
            have e102 := (hA.at_ 102 rfl).trans h102
            refine ⟨37, #[.slice A0 at_ c, .func (.func 38) #[] #[]], ?_, ?_⟩
            · go_simp
            · refine (sorted_S w' A0 at_ c (l.take at_) (rv_to (ZA.out w' (gt G6.out hg)) at_) (by rw [List.length_take, ← H0.out.2.1]; have := Z.out.2.2.1; omega) (by rw [List.length_take, ← H0.out.2.1]; omega)).mono ?_
              rintro e w'' ⟨v, rfl, ho, hbx⟩
              exact ⟨_, rfl, hbx, ⟨_, rfl, v, by simp [rgUpd], own_lowM ho hg.size⟩, by simp⟩
          · refine rr_eq gr (by decide) (by rfl) (by rfl) fun x w' A hg hp hA => ?_
            have e0 := hA 0
            simp [rgDsts] at e0
            go_simp
          · refine rr_eq gr (by decide) (by rfl) (by rfl) fun x w' A hg hp hA => ?_
            have e12 := hA 12
            simp [rgDsts] at e12
            go_simp
          · refine rr_val (by decide) (by rfl) fun x w' A hg hp hA => ?_
            have h104 := rg_pred_eq (d := 104) hp 0 rfl rfl rfl
            have h105 := rg_pred_eq (d := 105) hp 1 rfl rfl rfl
            have e104 := (hA.at_ 104 rfl).trans h104
            have e105 := (hA.at_ 105 rfl).trans h105
            refine ⟨.slice A2 (n - at_) (c - at_), w', by rw [HA2.out]; exact cut_from (x := .tmp 104) (y := .tmp 105) rfl (by simpa [Act.eval] using e104) (by simpa [Act.eval] using e105) rfl (Z.out.2.2.1), gr w', ?_, ?_⟩
            · first | rfl | exact ⟨_, rfl, rfl⟩ | simp [rgUpd]
            · first | simp | (intro b hb; cases hb)
          · refine rr_call (by decide) (by rfl) fun x w' A hg hp hA => ?_
            have h106 := rg_pred_eq (d := 106) hp 0 rfl rfl rfl
            have h103 := rg_pred_one (d := 103) hp 1 rfl rfl rfl
            have e106 := (hA.at_ 106 rfl).trans h106
            refine ⟨37, #[.slice A2 (n - at_) (c - at_), .func (.func 38) #[] #[]], ?_, ?_⟩
            · go_simp
            · refine (sorted_S w' A2 (n - at_) (c - at_) (l.drop at_) (by rw [HA2.out]; exact rv_from (ZA.out w' (gt G6.out hg)) H0.out.2.1 H0.out.2.2.1 Z.out.2.2.1) (by rw [List.length_drop, ← H0.out.2.1]) (by rw [List.length_drop, ← H0.out.2.1]; omega)).mono ?_
              rintro e w'' ⟨v, rfl, ho, hbx⟩
              exact ⟨_, rfl, hbx, ⟨_, rfl, v, by simp [rgUpd], own_lowM ho hg.size⟩, by simp⟩
        case hfinb =>
        intro x w7 hg hall hap
        simp only [RgAll, holds_eq, holds_new, holds_one, and_true] at hall
        obtain ⟨h100, h101, h102, h103, h104, h105, h106, h107⟩ := hall
        obtain ⟨v103, h103, o103⟩ := h103
        obtain ⟨v107, h107, o107⟩ := h107
        simp only [rgDsts, List.take_succ_cons, List.take_zero, List.filterMap_cons, List.filterMap_nil, putMany, List.foldl_cons, List.foldl_nil, List.setIfInBounds_toArray, List.set_cons_succ, List.set_cons_zero, List.drop_succ_cons, List.drop_zero, h100, h101, h102, h104, h105, h106, h103, h107]
        clear h100 h101 h102 h104 h105 h106 h103 h107
        have G7 := Lib.hid (gt G6.out hg)
        obtain ⟨A3, n3, c3, rfl, hn3⟩ := own_form o103
        obtain ⟨A7, n7, c7, rfl, hn7⟩ := own_form o107
        have O7 := Lib.hid (And.intro o103 o107)
        clear hg hap o103 o107 hn3 hn7
        go_wp2_with (first
          | ((with_reducible show wpList _ _ _ (⟨some 108, _, _, _, _, _⟩ :: _) _ _)
             go_must (refine wpList_new (cs := [.slice A3 n3 c3, .slice none 0 0, .slice A7 n7 c7]) (o := ⟨some 108, _, _, _, _, _⟩) rfl (run_build3 ELL _ _ _ rfl (by decide) [.slice A3 n3 c3] [.slice none 0 0] [.slice A7 n7 c7] rfl rfl rfl rfl rfl rfl) ?_)
             intro w8 hB8 hb8 hz8
             have hb8' := gt G7.out hb8
             have cM := merge_S w8 (some ⟨w7.heap.size, 0, none⟩) 3 (l.take at_) (l.drop at_) _ _ _ _ hB8.rv (own_belowW O7.out.1 hb8) (own_belowW O7.out.2 hb8) (by rw [List.length_take, List.length_drop, ← H0.out.2.1]; omega)
             rw [List.take_append_drop, ← Z.out.2.2.2.2.2.1, Z.out.2.2.2.2.2.2.1] at cM)
          | (go_at_call 42
             go_must (refine (cM).mono ?_)
             rintro e w9 ⟨v9, rfl, ho9, hb9⟩
             obtain ⟨A9, n9, c9, rfl, hn9⟩ := own_form ho9
             have hb9' := gt hb8' hb9
             have cW2 := same_words A9 As n9 c9 cs S w9 (own_rvW ho9) (ZS.out w9 hb9') (by rw [hn9, Z.out.2.2.2.2.2.2.1]) (by rw [Z.out.2.2.2.2.2.2.1]; omega)
             rw [hn9] at cW2
             skip
             clear cM)
          | (go_at_call 39
             go_must (refine (cW2).mono ?_)
             rintro e w10 ⟨rfl, hb10⟩
             have hb10' := gt hb9' hb10))
        go_ret
        exact ⟨rfl, gt Z.out.2.2.2.2.2.2.2 hb10'⟩

      · have b1 : decide (kk < 0) = false := by rw [decide_eq_false_iff_not]; exact k1
        by_cases k2 : (n : Int) < kk
        · have b2 : decide ((n : Int) < kk) = true := by rw [decide_eq_true_eq]; exact k2
          have HE : Hid ((n : Int) = (m : Int)) := Lib.hid (by have := Z.out.2.2.2.2.1; omega)
          go_wp2
          try simp only [Act.put, List.setIfInBounds_toArray, List.set_cons_succ, List.set_cons_zero]
          refine wp_region_rrT (fun a b => Below a.heap.size a b) (fun _ _ _ h g => gt h g) (fun _ _ h => h.size) (fun a => (gr a).drew) 6
            [.eq 87 (.slice A0 n c), .eq 88 (.int .i64 kk), .one 89 (fun v W => ∃ A1 c1, v = .slice A1 m c1 ∧ RV W A1 ((S.take m).map strV)), .eq 90 (.slice As n cs), .eq 91 (.int .i64 (n : Int)), .eq 92 (.slice As m cs)]
            (by kernel_rfl) (by kernel_rfl) (by kernel_rfl) (by kernel_rfl) ?hsta ?hoba ?hfina
          case hsta =>
            intro s hs
            simp only [List.mem_cons, List.not_mem_nil, or_false] at hs
            rcases hs with rfl | rfl | rfl | rfl | rfl | rfl
            · exact fun _ _ _ h _ => h
            · exact fun _ _ _ h _ => h
            · rintro vs w1 w2 ⟨v, rfl, h⟩ hb
              exact ⟨_, rfl, (fun ⟨A1, c1, e, r⟩ hb => ⟨A1, c1, e, r.below hb⟩) h hb⟩
            · exact fun _ _ _ h _ => h
            · exact fun _ _ _ h _ => h
            · exact fun _ _ _ h _ => h
          case hoba =>
            simp only [List.take_succ_cons, List.take_zero]
            refine rrs_cons ?_ (rrs_cons ?_ (rrs_cons ?_ (rrs_cons ?_ (rrs_cons ?_ (rrs_cons ?_ rrs_nil)))))
            · refine rr_eq gr (by decide) (by rfl) (by rfl) fun x w' A hg hp hA => ?_
              have e0 := hA 0
              simp [rgDsts] at e0
              go_simp
            · refine rr_eq gr (by decide) (by rfl) (by rfl) fun x w' A hg hp hA => ?_
              have e1 := hA 1
              simp [rgDsts] at e1
              go_simp
            · refine rr_call (by decide) (by rfl) fun x w' A hg hp hA => ?_
              have h87 := rg_pred_eq (d := 87) hp 0 rfl rfl rfl
              have h88 := rg_pred_eq (d := 88) hp 1 rfl rfl rfl
              have e87 := (hA.at_ 87 rfl).trans h87
              have e88 := (hA.at_ 88 rfl).trans h88
              refine ⟨41, #[.slice A0 n c, .int .i64 kk, .func (.func 38) #[] #[]], ?_, ?_⟩
              · go_simp
              · refine (ZB.out w' hg).mono ?_
                rintro e w'' ⟨v, rfl, ho, hbx⟩
                obtain ⟨A1, n1, c1, rfl, h1⟩ := own_form ho
                exact ⟨_, rfl, hbx, ⟨_, rfl, A1, c1, by rw [h1]; simp [rgUpd], own_rvW ho⟩, by simp⟩
            · refine rr_eq gr (by decide) (by rfl) (by rfl) fun x w' A hg hp hA => ?_
              have e8 := hA 8
              simp [rgDsts] at e8
              go_simp
            · refine rr_eq gr (by decide) (by rfl) (by rfl) fun x w' A hg hp hA => ?_
              have e11 := hA 11
              simp [rgDsts] at e11
              go_simp
            · refine rr_val (by decide) (by rfl) fun x w' A hg hp hA => ?_
              have h90 := rg_pred_eq (d := 90) hp 0 rfl rfl rfl
              have h91 := rg_pred_eq (d := 91) hp 1 rfl rfl rfl
              have e90 := (hA.at_ 90 rfl).trans h90
              have e91 := (hA.at_ 91 rfl).trans h91
              refine ⟨_, w', cut_to (x := .tmp 90) (y := .tmp 91) rfl (by simpa [Act.eval] using e90) (by simpa [Act.eval] using e91) HE.out Z.out.2.1, gr w', ?_, ?_⟩
              · first | rfl | exact ⟨_, rfl, rfl⟩ | simp [rgUpd]
              · first | simp | (intro b hb; cases hb)
          case hfina =>
          intro x w4 hg hall hap
          simp only [RgAll, holds_eq, holds_new, holds_one, and_true] at hall
          obtain ⟨h87, h88, h89, h90, h91, h92⟩ := hall
          obtain ⟨A1, c1, h89, r89⟩ := h89
          simp only [rgDsts, List.take_succ_cons, List.take_zero, List.filterMap_cons, List.filterMap_nil, putMany, List.foldl_cons, List.foldl_nil, List.setIfInBounds_toArray, List.set_cons_succ, List.set_cons_zero, List.drop_succ_cons, List.drop_zero, h87, h88, h90, h91, h92, h89]
          clear h87 h88 h90 h91 h92 h89
          have hg4 := hg
          clear hg hap
          have cSW := same_words A1 As m c1 cs (S.take m) w4 r89 (rv_to (ZS.out w4 hg4) m) Z.out.2.2.2.1.symm (by rw [Z.out.2.2.2.1]; have := Z.out.1; omega)
          go_wp2_with (first
            | (go_at_call 39
               go_must (refine (cSW).mono ?_)
               rintro e w5 ⟨rfl, hb5⟩
               have hb5' := gt hg4 hb5
               clear cSW)
            | (go_at_call 12
               go_must (refine (ZP.out w5).mono ?_)
               rintro e w6 ⟨rfl, hb6⟩
               have hb6' := gt hb5' hb6))
          have G6 := Lib.hid hb6'
          clear hg4 hb5 hb5' hb6 hb6' r89
          try simp only [Act.put, List.setIfInBounds_toArray, List.set_cons_succ, List.set_cons_zero]
          refine wp_region_rrT (fun a b => Below a.heap.size a b) (fun _ _ _ h g => gt h g) (fun _ _ h => h.size) (fun a => (gr a).drew) 8
            [.eq 100 (.slice A0 n c), .eq 101 (.int .i64 (at_ : Int)), .eq 102 (.slice A0 at_ c), .one 103 (fun v W => ∃ v0, v = v0 ∧ W.ownsRow w6.heap.size 9 1 v0 (l.take at_).length ((msort sh (l.take at_)).map strV)), .eq 104 (.slice A0 n c), .eq 105 (.int .i64 (at_ : Int)), .eq 106 (.slice A2 (n - at_) (c - at_)), .one 107 (fun v W => ∃ v0, v = v0 ∧ W.ownsRow w6.heap.size 9 1 v0 (l.drop at_).length ((msort sh (l.drop at_)).map strV))]
            (by kernel_rfl) (by kernel_rfl) (by kernel_rfl) (by kernel_rfl) ?hstb ?hobb ?hfinb
          case hstb =>
            intro s hs
            simp only [List.mem_cons, List.not_mem_nil, or_false] at hs
            rcases hs with rfl | rfl | rfl | rfl | rfl | rfl | rfl | rfl
            · exact fun _ _ _ h _ => h
            · exact fun _ _ _ h _ => h
            · exact fun _ _ _ h _ => h
            · rintro vs w1 w2 ⟨v, rfl, h⟩ hb
              exact ⟨_, rfl, (fun ⟨v0, e, h⟩ hb => ⟨v0, e, own_belowW h hb⟩) h hb⟩
            · exact fun _ _ _ h _ => h
            · exact fun _ _ _ h _ => h
            · exact fun _ _ _ h _ => h
            · rintro vs w1 w2 ⟨v, rfl, h⟩ hb
              exact ⟨_, rfl, (fun ⟨v0, e, h⟩ hb => ⟨v0, e, own_belowW h hb⟩) h hb⟩
          case hobb =>
            simp only [List.take_succ_cons, List.take_zero]
            refine rrs_cons ?_ (rrs_cons ?_ (rrs_cons ?_ (rrs_cons ?_ (rrs_cons ?_ (rrs_cons ?_ (rrs_cons ?_ (rrs_cons ?_ rrs_nil)))))))
            · refine rr_eq gr (by decide) (by rfl) (by rfl) fun x w' A hg hp hA => ?_
              have e0 := hA 0
              simp [rgDsts] at e0
              go_simp
            · refine rr_eq gr (by decide) (by rfl) (by rfl) fun x w' A hg hp hA => ?_
              have e12 := hA 12
              simp [rgDsts] at e12
              go_simp
            · refine rr_val (by decide) (by rfl) fun x w' A hg hp hA => ?_
              have h100 := rg_pred_eq (d := 100) hp 0 rfl rfl rfl
              have h101 := rg_pred_eq (d := 101) hp 1 rfl rfl rfl
              have e100 := (hA.at_ 100 rfl).trans h100
              have e101 := (hA.at_ 101 rfl).trans h101
              refine ⟨_, w', cut_to (x := .tmp 100) (y := .tmp 101) rfl (by simpa [Act.eval] using e100) (by simpa [Act.eval] using e101) rfl (by have h1 := Z.out.2.2.1; have h2 := H0.out.2.2.1; omega), gr w', ?_, ?_⟩
              · first | rfl | exact ⟨_, rfl, rfl⟩ | simp [rgUpd]
              · first | simp | (intro b hb; cases hb)
            · refine rr_call (by decide) (by rfl) fun x w' A hg hp hA => ?_
              have h102 := rg_pred_eq (d := 102) hp 0 rfl rfl rfl
              have e102 := (hA.at_ 102 rfl).trans h102
              refine ⟨37, #[.slice A0 at_ c, .func (.func 38) #[] #[]], ?_, ?_⟩
              · go_simp
              · refine (sorted_S w' A0 at_ c (l.take at_) (rv_to (ZA.out w' (gt G6.out hg)) at_) (by rw [List.length_take, ← H0.out.2.1]; have := Z.out.2.2.1; omega) (by rw [List.length_take, ← H0.out.2.1]; omega)).mono ?_
                rintro e w'' ⟨v, rfl, ho, hbx⟩
                exact ⟨_, rfl, hbx, ⟨_, rfl, v, by simp [rgUpd], own_lowM ho hg.size⟩, by simp⟩
            · refine rr_eq gr (by decide) (by rfl) (by rfl) fun x w' A hg hp hA => ?_
              have e0 := hA 0
              simp [rgDsts] at e0
              go_simp
            · refine rr_eq gr (by decide) (by rfl) (by rfl) fun x w' A hg hp hA => ?_
              have e12 := hA 12
              simp [rgDsts] at e12
              go_simp
            · refine rr_val (by decide) (by rfl) fun x w' A hg hp hA => ?_
              have h104 := rg_pred_eq (d := 104) hp 0 rfl rfl rfl
              have h105 := rg_pred_eq (d := 105) hp 1 rfl rfl rfl
              have e104 := (hA.at_ 104 rfl).trans h104
              have e105 := (hA.at_ 105 rfl).trans h105
              refine ⟨.slice A2 (n - at_) (c - at_), w', by rw [HA2.out]; exact cut_from (x := .tmp 104) (y := .tmp 105) rfl (by simpa [Act.eval] using e104) (by simpa [Act.eval] using e105) rfl (Z.out.2.2.1), gr w', ?_, ?_⟩
              · first | rfl | exact ⟨_, rfl, rfl⟩ | simp [rgUpd]
              · first | simp | (intro b hb; cases hb)
            · refine rr_call (by decide) (by rfl) fun x w' A hg hp hA => ?_
              have h106 := rg_pred_eq (d := 106) hp 0 rfl rfl rfl
              have h103 := rg_pred_one (d := 103) hp 1 rfl rfl rfl
              have e106 := (hA.at_ 106 rfl).trans h106
              refine ⟨37, #[.slice A2 (n - at_) (c - at_), .func (.func 38) #[] #[]], ?_, ?_⟩
              · go_simp
              · refine (sorted_S w' A2 (n - at_) (c - at_) (l.drop at_) (by rw [HA2.out]; exact rv_from (ZA.out w' (gt G6.out hg)) H0.out.2.1 H0.out.2.2.1 Z.out.2.2.1) (by rw [List.length_drop, ← H0.out.2.1]) (by rw [List.length_drop, ← H0.out.2.1]; omega)).mono ?_
                rintro e w'' ⟨v, rfl, ho, hbx⟩
                exact ⟨_, rfl, hbx, ⟨_, rfl, v, by simp [rgUpd], own_lowM ho hg.size⟩, by simp⟩
          case hfinb =>
          intro x w7 hg hall hap
          simp only [RgAll, holds_eq, holds_new, holds_one, and_true] at hall
          obtain ⟨h100, h101, h102, h103, h104, h105, h106, h107⟩ := hall
          obtain ⟨v103, h103, o103⟩ := h103
          obtain ⟨v107, h107, o107⟩ := h107
          simp only [rgDsts, List.take_succ_cons, List.take_zero, List.filterMap_cons, List.filterMap_nil, putMany, List.foldl_cons, List.foldl_nil, List.setIfInBounds_toArray, List.set_cons_succ, List.set_cons_zero, List.drop_succ_cons, List.drop_zero, h100, h101, h102, h104, h105, h106, h103, h107]
          clear h100 h101 h102 h104 h105 h106 h103 h107
          have G7 := Lib.hid (gt G6.out hg)
          obtain ⟨A3, n3, c3, rfl, hn3⟩ := own_form o103
          obtain ⟨A7, n7, c7, rfl, hn7⟩ := own_form o107
          have O7 := Lib.hid (And.intro o103 o107)
          clear hg hap o103 o107 hn3 hn7
          go_wp2_with (first
            | ((with_reducible show wpList _ _ _ (⟨some 108, _, _, _, _, _⟩ :: _) _ _)
               go_must (refine wpList_new (cs := [.slice A3 n3 c3, .slice none 0 0, .slice A7 n7 c7]) (o := ⟨some 108, _, _, _, _, _⟩) rfl (run_build3 ELL _ _ _ rfl (by decide) [.slice A3 n3 c3] [.slice none 0 0] [.slice A7 n7 c7] rfl rfl rfl rfl rfl rfl) ?_)
               intro w8 hB8 hb8 hz8
               have hb8' := gt G7.out hb8
               have cM := merge_S w8 (some ⟨w7.heap.size, 0, none⟩) 3 (l.take at_) (l.drop at_) _ _ _ _ hB8.rv (own_belowW O7.out.1 hb8) (own_belowW O7.out.2 hb8) (by rw [List.length_take, List.length_drop, ← H0.out.2.1]; omega)
               rw [List.take_append_drop, ← Z.out.2.2.2.2.2.1, Z.out.2.2.2.2.2.2.1] at cM)
            | (go_at_call 42
               go_must (refine (cM).mono ?_)
               rintro e w9 ⟨v9, rfl, ho9, hb9⟩
               obtain ⟨A9, n9, c9, rfl, hn9⟩ := own_form ho9
               have hb9' := gt hb8' hb9
               have cW2 := same_words A9 As n9 c9 cs S w9 (own_rvW ho9) (ZS.out w9 hb9') (by rw [hn9, Z.out.2.2.2.2.2.2.1]) (by rw [Z.out.2.2.2.2.2.2.1]; omega)
               rw [hn9] at cW2
               skip
               clear cM)
            | (go_at_call 39
               go_must (refine (cW2).mono ?_)
               rintro e w10 ⟨rfl, hb10⟩
               have hb10' := gt hb9' hb10))
          go_ret
          exact ⟨rfl, gt Z.out.2.2.2.2.2.2.2 hb10'⟩

        · have b2 : decide ((n : Int) < kk) = false := by rw [decide_eq_false_iff_not]; exact k2
          have HE : Hid (kk = (m : Int)) := Lib.hid (by have := Z.out.2.2.2.2.1; omega)
          go_wp2
          try simp only [Act.put, List.setIfInBounds_toArray, List.set_cons_succ, List.set_cons_zero]
          refine wp_region_rrT (fun a b => Below a.heap.size a b) (fun _ _ _ h g => gt h g) (fun _ _ h => h.size) (fun a => (gr a).drew) 6
            [.eq 87 (.slice A0 n c), .eq 88 (.int .i64 kk), .one 89 (fun v W => ∃ A1 c1, v = .slice A1 m c1 ∧ RV W A1 ((S.take m).map strV)), .eq 90 (.slice As n cs), .eq 91 (.int .i64 kk), .eq 92 (.slice As m cs)]
            (by kernel_rfl) (by kernel_rfl) (by kernel_rfl) (by kernel_rfl) ?hsta ?hoba ?hfina
          case hsta =>
            intro s hs
            simp only [List.mem_cons, List.not_mem_nil, or_false] at hs
            rcases hs with rfl | rfl | rfl | rfl | rfl | rfl
            · exact fun _ _ _ h _ => h
            · exact fun _ _ _ h _ => h
            · rintro vs w1 w2 ⟨v, rfl, h⟩ hb
              exact ⟨_, rfl, (fun ⟨A1, c1, e, r⟩ hb => ⟨A1, c1, e, r.below hb⟩) h hb⟩
            · exact fun _ _ _ h _ => h
            · exact fun _ _ _ h _ => h
            · exact fun _ _ _ h _ => h
          case hoba =>
            simp only [List.take_succ_cons, List.take_zero]
            refine rrs_cons ?_ (rrs_cons ?_ (rrs_cons ?_ (rrs_cons ?_ (rrs_cons ?_ (rrs_cons ?_ rrs_nil)))))
            · refine rr_eq gr (by decide) (by rfl) (by rfl) fun x w' A hg hp hA => ?_
              have e0 := hA 0
              simp [rgDsts] at e0
              go_simp
            · refine rr_eq gr (by decide) (by rfl) (by rfl) fun x w' A hg hp hA => ?_
              have e1 := hA 1
              simp [rgDsts] at e1
              go_simp
            · refine rr_call (by decide) (by rfl) fun x w' A hg hp hA => ?_
              have h87 := rg_pred_eq (d := 87) hp 0 rfl rfl rfl
              have h88 := rg_pred_eq (d := 88) hp 1 rfl rfl rfl
              have e87 := (hA.at_ 87 rfl).trans h87
              have e88 := (hA.at_ 88 rfl).trans h88
              refine ⟨41, #[.slice A0 n c, .int .i64 kk, .func (.func 38) #[] #[]], ?_, ?_⟩
              · go_simp
              · refine (ZB.out w' hg).mono ?_
                rintro e w'' ⟨v, rfl, ho, hbx⟩
                obtain ⟨A1, n1, c1, rfl, h1⟩ := own_form ho
                exact ⟨_, rfl, hbx, ⟨_, rfl, A1, c1, by rw [h1]; simp [rgUpd], own_rvW ho⟩, by simp⟩
            · refine rr_eq gr (by decide) (by rfl) (by rfl) fun x w' A hg hp hA => ?_
              have e8 := hA 8
              simp [rgDsts] at e8
              go_simp
            · refine rr_eq gr (by decide) (by rfl) (by rfl) fun x w' A hg hp hA => ?_
              have e11 := hA 11
              simp [rgDsts] at e11
              go_simp
            · refine rr_val (by decide) (by rfl) fun x w' A hg hp hA => ?_
              have h90 := rg_pred_eq (d := 90) hp 0 rfl rfl rfl
              have h91 := rg_pred_eq (d := 91) hp 1 rfl rfl rfl
              have e90 := (hA.at_ 90 rfl).trans h90
              have e91 := (hA.at_ 91 rfl).trans h91
              refine ⟨_, w', cut_to (x := .tmp 90) (y := .tmp 91) rfl (by simpa [Act.eval] using e90) (by simpa [Act.eval] using e91) HE.out Z.out.2.1, gr w', ?_, ?_⟩
              · first | rfl | exact ⟨_, rfl, rfl⟩ | simp [rgUpd]
              · first | simp | (intro b hb; cases hb)
          case hfina =>
          intro x w4 hg hall hap
          simp only [RgAll, holds_eq, holds_new, holds_one, and_true] at hall
          obtain ⟨h87, h88, h89, h90, h91, h92⟩ := hall
          obtain ⟨A1, c1, h89, r89⟩ := h89
          simp only [rgDsts, List.take_succ_cons, List.take_zero, List.filterMap_cons, List.filterMap_nil, putMany, List.foldl_cons, List.foldl_nil, List.setIfInBounds_toArray, List.set_cons_succ, List.set_cons_zero, List.drop_succ_cons, List.drop_zero, h87, h88, h90, h91, h92, h89]
          clear h87 h88 h90 h91 h92 h89
          have hg4 := hg
          clear hg hap
          have cSW := same_words A1 As m c1 cs (S.take m) w4 r89 (rv_to (ZS.out w4 hg4) m) Z.out.2.2.2.1.symm (by rw [Z.out.2.2.2.1]; have := Z.out.1; omega)
          go_wp2_with (first
            | (go_at_call 39
               go_must (refine (cSW).mono ?_)
               rintro e w5 ⟨rfl, hb5⟩
               have hb5' := gt hg4 hb5
               clear cSW)
            | (go_at_call 12
               go_must (refine (ZP.out w5).mono ?_)
               rintro e w6 ⟨rfl, hb6⟩
               have hb6' := gt hb5' hb6))
          have G6 := Lib.hid hb6'
          clear hg4 hb5 hb5' hb6 hb6' r89
          try simp only [Act.put, List.setIfInBounds_toArray, List.set_cons_succ, List.set_cons_zero]
          refine wp_region_rrT (fun a b => Below a.heap.size a b) (fun _ _ _ h g => gt h g) (fun _ _ h => h.size) (fun a => (gr a).drew) 8
            [.eq 100 (.slice A0 n c), .eq 101 (.int .i64 (at_ : Int)), .eq 102 (.slice A0 at_ c), .one 103 (fun v W => ∃ v0, v = v0 ∧ W.ownsRow w6.heap.size 9 1 v0 (l.take at_).length ((msort sh (l.take at_)).map strV)), .eq 104 (.slice A0 n c), .eq 105 (.int .i64 (at_ : Int)), .eq 106 (.slice A2 (n - at_) (c - at_)), .one 107 (fun v W => ∃ v0, v = v0 ∧ W.ownsRow w6.heap.size 9 1 v0 (l.drop at_).length ((msort sh (l.drop at_)).map strV))]
            (by kernel_rfl) (by kernel_rfl) (by kernel_rfl) (by kernel_rfl) ?hstb ?hobb ?hfinb
          case hstb =>
            intro s hs
            simp only [List.mem_cons, List.not_mem_nil, or_false] at hs
            rcases hs with rfl | rfl | rfl | rfl | rfl | rfl | rfl | rfl
            · exact fun _ _ _ h _ => h
            · exact fun _ _ _ h _ => h
            · exact fun _ _ _ h _ => h
            · rintro vs w1 w2 ⟨v, rfl, h⟩ hb
              exact ⟨_, rfl, (fun ⟨v0, e, h⟩ hb => ⟨v0, e, own_belowW h hb⟩) h hb⟩
            · exact fun _ _ _ h _ => h
            · exact fun _ _ _ h _ => h
            · exact fun _ _ _ h _ => h
            · rintro vs w1 w2 ⟨v, rfl, h⟩ hb
              exact ⟨_, rfl, (fun ⟨v0, e, h⟩ hb => ⟨v0, e, own_belowW h hb⟩) h hb⟩
          case hobb =>
            simp only [List.take_succ_cons, List.take_zero]
            refine rrs_cons ?_ (rrs_cons ?_ (rrs_cons ?_ (rrs_cons ?_ (rrs_cons ?_ (rrs_cons ?_ (rrs_cons ?_ (rrs_cons ?_ rrs_nil)))))))
            · refine rr_eq gr (by decide) (by rfl) (by rfl) fun x w' A hg hp hA => ?_
              have e0 := hA 0
              simp [rgDsts] at e0
              go_simp
            · refine rr_eq gr (by decide) (by rfl) (by rfl) fun x w' A hg hp hA => ?_
              have e12 := hA 12
              simp [rgDsts] at e12
              go_simp
            · refine rr_val (by decide) (by rfl) fun x w' A hg hp hA => ?_
              have h100 := rg_pred_eq (d := 100) hp 0 rfl rfl rfl
              have h101 := rg_pred_eq (d := 101) hp 1 rfl rfl rfl
              have e100 := (hA.at_ 100 rfl).trans h100
              have e101 := (hA.at_ 101 rfl).trans h101
              refine ⟨_, w', cut_to (x := .tmp 100) (y := .tmp 101) rfl (by simpa [Act.eval] using e100) (by simpa [Act.eval] using e101) rfl (by have h1 := Z.out.2.2.1; have h2 := H0.out.2.2.1; omega), gr w', ?_, ?_⟩
              · first | rfl | exact ⟨_, rfl, rfl⟩ | simp [rgUpd]
              · first | simp | (intro b hb; cases hb)
            · refine rr_call (by decide) (by rfl) fun x w' A hg hp hA => ?_
              have h102 := rg_pred_eq (d := 102) hp 0 rfl rfl rfl
              have e102 := (hA.at_ 102 rfl).trans h102
              refine ⟨37, #[.slice A0 at_ c, .func (.func 38) #[] #[]], ?_, ?_⟩
              · go_simp
              · refine (sorted_S w' A0 at_ c (l.take at_) (rv_to (ZA.out w' (gt G6.out hg)) at_) (by rw [List.length_take, ← H0.out.2.1]; have := Z.out.2.2.1; omega) (by rw [List.length_take, ← H0.out.2.1]; omega)).mono ?_
                rintro e w'' ⟨v, rfl, ho, hbx⟩
                exact ⟨_, rfl, hbx, ⟨_, rfl, v, by simp [rgUpd], own_lowM ho hg.size⟩, by simp⟩
            · refine rr_eq gr (by decide) (by rfl) (by rfl) fun x w' A hg hp hA => ?_
              have e0 := hA 0
              simp [rgDsts] at e0
              go_simp
            · refine rr_eq gr (by decide) (by rfl) (by rfl) fun x w' A hg hp hA => ?_
              have e12 := hA 12
              simp [rgDsts] at e12
              go_simp
            · refine rr_val (by decide) (by rfl) fun x w' A hg hp hA => ?_
              have h104 := rg_pred_eq (d := 104) hp 0 rfl rfl rfl
              have h105 := rg_pred_eq (d := 105) hp 1 rfl rfl rfl
              have e104 := (hA.at_ 104 rfl).trans h104
              have e105 := (hA.at_ 105 rfl).trans h105
              refine ⟨.slice A2 (n - at_) (c - at_), w', by rw [HA2.out]; exact cut_from (x := .tmp 104) (y := .tmp 105) rfl (by simpa [Act.eval] using e104) (by simpa [Act.eval] using e105) rfl (Z.out.2.2.1), gr w', ?_, ?_⟩
              · first | rfl | exact ⟨_, rfl, rfl⟩ | simp [rgUpd]
              · first | simp | (intro b hb; cases hb)
            · refine rr_call (by decide) (by rfl) fun x w' A hg hp hA => ?_
              have h106 := rg_pred_eq (d := 106) hp 0 rfl rfl rfl
              have h103 := rg_pred_one (d := 103) hp 1 rfl rfl rfl
              have e106 := (hA.at_ 106 rfl).trans h106
              refine ⟨37, #[.slice A2 (n - at_) (c - at_), .func (.func 38) #[] #[]], ?_, ?_⟩
              · go_simp
              · refine (sorted_S w' A2 (n - at_) (c - at_) (l.drop at_) (by rw [HA2.out]; exact rv_from (ZA.out w' (gt G6.out hg)) H0.out.2.1 H0.out.2.2.1 Z.out.2.2.1) (by rw [List.length_drop, ← H0.out.2.1]) (by rw [List.length_drop, ← H0.out.2.1]; omega)).mono ?_
                rintro e w'' ⟨v, rfl, ho, hbx⟩
                exact ⟨_, rfl, hbx, ⟨_, rfl, v, by simp [rgUpd], own_lowM ho hg.size⟩, by simp⟩
          case hfinb =>
          intro x w7 hg hall hap
          simp only [RgAll, holds_eq, holds_new, holds_one, and_true] at hall
          obtain ⟨h100, h101, h102, h103, h104, h105, h106, h107⟩ := hall
          obtain ⟨v103, h103, o103⟩ := h103
          obtain ⟨v107, h107, o107⟩ := h107
          simp only [rgDsts, List.take_succ_cons, List.take_zero, List.filterMap_cons, List.filterMap_nil, putMany, List.foldl_cons, List.foldl_nil, List.setIfInBounds_toArray, List.set_cons_succ, List.set_cons_zero, List.drop_succ_cons, List.drop_zero, h100, h101, h102, h104, h105, h106, h103, h107]
          clear h100 h101 h102 h104 h105 h106 h103 h107
          have G7 := Lib.hid (gt G6.out hg)
          obtain ⟨A3, n3, c3, rfl, hn3⟩ := own_form o103
          obtain ⟨A7, n7, c7, rfl, hn7⟩ := own_form o107
          have O7 := Lib.hid (And.intro o103 o107)
          clear hg hap o103 o107 hn3 hn7
          go_wp2_with (first
            | ((with_reducible show wpList _ _ _ (⟨some 108, _, _, _, _, _⟩ :: _) _ _)
               go_must (refine wpList_new (cs := [.slice A3 n3 c3, .slice none 0 0, .slice A7 n7 c7]) (o := ⟨some 108, _, _, _, _, _⟩) rfl (run_build3 ELL _ _ _ rfl (by decide) [.slice A3 n3 c3] [.slice none 0 0] [.slice A7 n7 c7] rfl rfl rfl rfl rfl rfl) ?_)
               intro w8 hB8 hb8 hz8
               have hb8' := gt G7.out hb8
               have cM := merge_S w8 (some ⟨w7.heap.size, 0, none⟩) 3 (l.take at_) (l.drop at_) _ _ _ _ hB8.rv (own_belowW O7.out.1 hb8) (own_belowW O7.out.2 hb8) (by rw [List.length_take, List.length_drop, ← H0.out.2.1]; omega)
               rw [List.take_append_drop, ← Z.out.2.2.2.2.2.1, Z.out.2.2.2.2.2.2.1] at cM)
            | (go_at_call 42
               go_must (refine (cM).mono ?_)
               rintro e w9 ⟨v9, rfl, ho9, hb9⟩
               obtain ⟨A9, n9, c9, rfl, hn9⟩ := own_form ho9
               have hb9' := gt hb8' hb9
               have cW2 := same_words A9 As n9 c9 cs S w9 (own_rvW ho9) (ZS.out w9 hb9') (by rw [hn9, Z.out.2.2.2.2.2.2.1]) (by rw [Z.out.2.2.2.2.2.2.1]; omega)
               rw [hn9] at cW2
               skip
               clear cM)
            | (go_at_call 39
               go_must (refine (cW2).mono ?_)
               rintro e w10 ⟨rfl, hb10⟩
               have hb10' := gt hb9' hb10))
          go_ret
          exact ⟨rfl, gt Z.out.2.2.2.2.2.2.2 hb10'⟩

end Go.Proofs.Ytdebokambldbbaa.LawW
