/- pile over H: up, down. -/
import Derived.Test.YtdebokambldbbaaPlAH
namespace Go.Proofs.Ytdebokambldbbaa.PileH
open Go.RowKit Go.Proofs.Ytdebokambldbbaa.Mem Go.Proofs.Ytdebokambldbbaa.Heap Go.Proofs.Ytdebokambldbbaa.Pile Go.Proofs.Ytdebokambldbbaa.Float
set_option linter.unusedVariables false

section
variable {β : Type} [Inhabited β] {th : Th β 2} {B p : Nat} {v fv : Value} {es : List (β × Nat)} {nx : Nat}
set_option maxRecDepth 4000 in
set_option maxHeartbeats 3200000 in
theorem up_any {w0 : World} {D : β → Prop} {lt : β → β → Bool} (W : World) (h : PlK th W B p v fv es nx) (hL : Less Try.prog B w0 (vl th) D fv lt) (hw : Below B w0 W) (hB : B ≤ W.heap.size) (hD : ∀ e ∈ es, D e.1) (i : Nat) (hi : i < es.length) (hn : es.length ≤ 1152921504606846976) :
    Calls Try.prog 76 #[.pointer (some ⟨p, 0, none⟩), .int .i64 i] W fun e W' => (∃ u, e = .returned u) ∧ PlK th W' B p v fv (Heap.up (Heap.ahead lt) es i) nx ∧ W.grownBy W' v.ownBlock := by
  have H0 := Lib.hid (And.intro h (And.intro hw (And.intro hB (And.intro hD (And.intro hi hn)))))
  have HL := Lib.hid hL
  clear h hw hB hD hi hn hL
  go_enter Try.func76, Try.ntmps76
  go_wp2
  go_loopw [1] (fun v1 wr => ∃ (k : Nat) (es' : List (β × Nat)), v1 = .int .i64 k ∧ k < es'.length ∧ es'.length = es.length ∧ PlK th wr B p v fv es' nx ∧ (∀ e ∈ es', D e.1) ∧ Heap.up (Heap.ahead lt) es' k = Heap.up (Heap.ahead lt) es i ∧ W.grownBy wr v.ownBlock) (fun v _ => (intOf v).toNat)
  case atStart => exact ⟨i, es, rfl, H0.out.2.2.2.2.1, rfl, H0.out.1, H0.out.2.2.2.1, rfl, World.grownBy.refl _ _⟩
  case round =>
    obtain ⟨k, es', rfl, hk, hl, hP, hD, hu, hg⟩ := hrel
    have hb0 : Below B w0 wr := H0.out.2.1.grown hg H0.out.2.2.1 (fun j hj => (H0.out.1.own.lt j hj).1)
    have hBr : B ≤ wr.heap.size := Nat.le_trans H0.out.2.2.1 hg.size
    by_cases hk0 : 0 < k
    · have hn := H0.out.2.2.2.2.2
      have hkb : (k : Int) ≤ 1152921504606846976 := by omega
      have q0 : (0 : Int) < (k : Int) := by omega
      have q1 : wrap64 ((k : Int) - 1) = (k : Int) - 1 := wrap_in (by omega) (by omega)
      obtain ⟨a, ha⟩ : ∃ a, a = (k - 1) / 2 := ⟨_, rfl⟩
      obtain ⟨q2, q3, hak⟩ := half_in ha hk0
      have q4 : wrap64 (a : Int) = (a : Int) := wrap_in (by omega) (by omega)
      have hal : a < es'.length := Nat.lt_trans hak hk
      have cA := ahead_any wr hP HL.out hb0 hBr hD k a hk hal
      cases hah : Heap.ahead lt (nth es' k) (nth es' a) with
      | false =>
        rw [hah] at cA
        have X := Lib.hid (And.intro hP (And.intro hu (And.intro hg (And.intro hah (And.intro ha hk0)))))
        clear hP hu hg hah ha hD hb0 hBr hn hk hl hal hk0 hak hkb
        go_wp2_with (go_at_call 95; refine cA.mono ?_; rintro e w1 ⟨rfl, hb1⟩)
        refine bodyPost_ret (results_none rfl _ _ _) rfl ?_
        obtain ⟨hP, hu, hg, hah, ha, hk0⟩ := X.out
        refine ⟨⟨_, rfl⟩, ?_, hg.trans ⟨hb1.os, hb1.tape, hb1.output, hb1.size, fun k hk _ => hb1.block k hk⟩⟩
        rw [← hu, Heap.up, dif_pos hk0, ← ha, hah]
        exact hP.grow hb1
      | true =>
        rw [hah] at cA
        have cS := fun (w1 : World) (hb1 : Below wr.heap.size wr w1) => swap_any w1 (hP.grow hb1) k a hk hal
        have X := Lib.hid (And.intro hP (And.intro hu (And.intro hg (And.intro hah (And.intro ha (And.intro hk0 (And.intro hD (And.intro hk (And.intro hl hak)))))))))
        have CS := Lib.hid cS
        clear hP hu hg hah ha hD hb0 hBr hn hk hl hal hk0 hak hkb cS
        go_wp2_with (first
          | (go_at_call 95; refine cA.mono ?_; rintro e w1 ⟨rfl, hb1⟩)
          | (go_at_call 96; refine (CS.out w1 hb1).mono ?_; rintro e w2 ⟨⟨u, rfl⟩, hP2, hg2, _⟩))
        obtain ⟨hP, hu, hg, hah, ha, hk0, hD, hk, hl, hak⟩ := X.out
        go_roundw
        case rel =>
          refine ⟨a, swp es' k a, rfl, by rw [swp_len]; omega, by rw [swp_len]; exact hl, hP2, fun e he => hD e ((swp_perm hk (by omega)).mem_iff.1 he), ?_, (hg.trans ⟨hb1.os, hb1.tape, hb1.output, hb1.size, fun k hk _ => hb1.block k hk⟩).trans hg2⟩
          rw [← hu]
          conv => rhs; rw [Heap.up, dif_pos hk0, ← ha, hah, if_pos rfl]
        case measure => simp [intOf]; omega
    · obtain rfl : k = 0 := by omega
      have X := Lib.hid (And.intro hP (And.intro hu hg))
      clear hP hu hg hD hb0 hBr hk hl hk0
      go_wp2
      go_end0
      obtain ⟨hP, hu, hg⟩ := X.out
      refine ⟨⟨_, rfl⟩, ?_, hg⟩
      rw [← hu, Heap.up, dif_neg (by omega)]
      exact hP

set_option maxRecDepth 4000 in
set_option maxHeartbeats 6400000 in
theorem down_any {w0 : World} {D : β → Prop} {lt : β → β → Bool} (W : World) (h : PlK th W B p v fv es nx) (hL : Less Try.prog B w0 (vl th) D fv lt) (hw : Below B w0 W) (hB : B ≤ W.heap.size) (hD : ∀ e ∈ es, D e.1) (i : Nat) (hi : i ≤ 1152921504606846976) (hn : es.length ≤ 1152921504606846976) :
    Calls Try.prog 98 #[.pointer (some ⟨p, 0, none⟩), .int .i64 i] W fun e W' => (∃ u, e = .returned u) ∧ PlK th W' B p v fv (Heap.down (Heap.ahead lt) es i) nx ∧ W.grownBy W' v.ownBlock := by
  obtain ⟨A, c, rfl, hc⟩ := h.slice
  obtain ⟨n, hn0⟩ : ∃ n, n = es.length := ⟨_, rfl⟩
  rw [← hn0] at h hc hn
  have H0 := Lib.hid (And.intro h (And.intro hw (And.intro hB (And.intro hD (And.intro hi hn)))))
  have HN := Lib.hid hn0
  have HL := Lib.hid hL
  clear h hw hB hD hi hL hn0
  go_enter Try.func98, Try.ntmps98
  go_wp2
  go_loopw [1] (fun v1 wr => ∃ (k : Nat) (es' : List (β × Nat)), v1 = .int .i64 k ∧ k ≤ 1152921504606846976 ∧ es'.length = es.length ∧ PlK th wr B p (.slice A n c) fv es' nx ∧ (∀ e ∈ es', D e.1) ∧ Heap.down (Heap.ahead lt) es' k = Heap.down (Heap.ahead lt) es i ∧ W.grownBy wr (Value.slice A n c).ownBlock) (fun v _ => n - (intOf v).toNat)
  case atStart => exact ⟨i, es, rfl, H0.out.2.2.2.2.1, rfl, H0.out.1, H0.out.2.2.2.1, rfl, World.grownBy.refl _ _⟩
  case round =>
    rename World => W1
    obtain ⟨k, es', rfl, hk, hl', hP, hD, hu, hg⟩ := hrel
    have hb0 : Below B w0 W1 := H0.out.2.1.grown hg H0.out.2.2.1 (fun j hj => (H0.out.1.own.lt j hj).1)
    have hBr : B ≤ W1.heap.size := Nat.le_trans H0.out.2.2.1 hg.size
    have hn := HN.out
    obtain ⟨k1, hk1⟩ : ∃ k1, k1 = 2 * k + 1 := ⟨_, rfl⟩
    obtain ⟨k2, hk2⟩ : ∃ k2, k2 = 2 * k + 2 := ⟨_, rfl⟩
    have w1 : wrap64 (2 * (k : Int)) = 2 * (k : Int) := wrap_in (by omega) (by omega)
    have w2 : wrap64 (2 * (k : Int) + 1) = (k1 : Int) := by rw [wrap_in (by omega) (by omega)]; omega
    have w3 : wrap64 (2 * (k : Int) + 2) = (k2 : Int) := by rw [wrap_in (by omega) (by omega)]; omega
    have XO := Lib.hid (And.intro hu (And.intro hg hk))
    have HK := Lib.hid (And.intro hk1 hk2)
    have HL2 := Lib.hid hl'
    clear hu hg hk1 hk2 hn hl'
    go_wp2
    go_loopw [15, 4] (fun v15 v4 w2 => ∃ (r f : Nat), r ≤ 2 ∧ v15 = .int .i64 r ∧ v4 = .int .i64 f ∧ f = kidR (Heap.ahead lt) es' k r ∧ PlK th w2 B p (.slice A n c) fv es' nx ∧ Below W1.heap.size W1 w2) (fun v _ _ => 2 - (intOf v).toNat)
    case atStart => exact ⟨0, k, by omega, rfl, rfl, rfl, hP, gr W1⟩
    case round =>
      obtain ⟨r, f, hr, rfl, rfl, hf, hP2, hb2⟩ := hrel
      have hf2 := kidR_cases (Heap.ahead lt) es' k r
      have y1 := HK.out.1
      have y2 := HK.out.2
      have hn := HN.out
      have hl' := HL2.out
      rw [← hf] at hf2
      have c1 : wr.cell? ⟨p, 1, none⟩ = some (.slice A n c) := hP2.blk.cell 1
      by_cases hr2 : r < 2
      · have q6 : (r : Int) < 2 := by omega
        rcases (show r = 0 ∨ r = 1 by omega) with rfl | rfl
        · -- round 0
          by_cases hlt : k1 < n
          · have hx := Lib.hid (show 2 * k + 1 + 0 < es'.length by rw [hl', ← hn, show 2 * k + 1 + 0 = k1 by omega]; exact hlt)
            have hfl : f < es'.length := by rcases hf2 with h | h <;> have := hx.out <;> omega
            have hkl : k1 < es'.length := by have := hx.out; omega
            have cA := ahead_any wr hP2 HL.out (hb0.trans (hb2.mono hBr)) (Nat.le_trans hBr hb2.size) hD k1 f hkl hfl
            have q5 : (k1 : Int) < (n : Int) := by omega
            cases hah : Heap.ahead lt (nth es' k1) (nth es' f) with
            | true =>
              rw [hah] at cA
              have hk1 : kidR (Heap.ahead lt) es' k (0 + 1) = k1 := by
                rw [kidR_yes hx.out (by rw [← hf, show 2 * k + 1 + 0 = k1 by omega]; exact hah)]; omega
              have X := Lib.hid (And.intro hk1 (And.intro hP2 hb2))
              clear hk1 hP2 hb2 hf hf2 hah hx hfl hkl hlt hr hr2 y1 y2 hn hl'
              go_wp2_with (first
                | ((with_reducible show wpList _ _ _ (⟨some 17, _, _, _, _, _⟩ :: _) _ _); go_must (refine wpList_idx Try.underlying125 (by kernel_rfl) (by kernel_rfl) (o := ⟨some 17, _, _, _, _, _⟩) rfl (.tmp 14) (.tmp 15) rfl _ rfl 0 rfl (by decide) (.int .i64 k1) (by simp; have := HK.out.1; have := HK.out.2; omega) ?_))
                | (go_at_call 95; refine cA.mono ?_; rintro e w3 ⟨rfl, hb3⟩))
              go_roundw
              case rel => exact ⟨0 + 1, k1, by omega, by go_num, rfl, X.out.1.symm, X.out.2.1.grow hb3, gt X.out.2.2 hb3⟩
              case measure => simp [intOf]
            | false =>
              rw [hah] at cA
              have hk1 : kidR (Heap.ahead lt) es' k (0 + 1) = f := by
                rw [kidR_no2 (by rw [← hf, show 2 * k + 1 + 0 = k1 by omega]; exact hah), hf]
              have X := Lib.hid (And.intro hk1 (And.intro hP2 hb2))
              clear hk1 hP2 hb2 hf hf2 hah hx hfl hkl hlt hr hr2 y1 y2 hn hl'
              go_wp2_with (first
                | ((with_reducible show wpList _ _ _ (⟨some 17, _, _, _, _, _⟩ :: _) _ _); go_must (refine wpList_idx Try.underlying125 (by kernel_rfl) (by kernel_rfl) (o := ⟨some 17, _, _, _, _, _⟩) rfl (.tmp 14) (.tmp 15) rfl _ rfl 0 rfl (by decide) (.int .i64 k1) (by simp; have := HK.out.1; have := HK.out.2; omega) ?_))
                | (go_at_call 95; refine cA.mono ?_; rintro e w3 ⟨rfl, hb3⟩))
              go_roundw
              case rel => exact ⟨0 + 1, f, by omega, by go_num, rfl, X.out.1.symm, X.out.2.1.grow hb3, gt X.out.2.2 hb3⟩
              case measure => simp [intOf]
          · have hk1 : kidR (Heap.ahead lt) es' k (0 + 1) = f := by
              rw [kidR_no1 (by rw [hl', ← hn]; omega), hf]
            have q5 : ¬ (k1 : Int) < (n : Int) := by omega
            have X := Lib.hid (And.intro hk1 (And.intro hP2 hb2))
            clear hk1 hP2 hb2 hf hf2 hlt hr hr2 y1 y2 hn hl'
            go_wp2_with (((with_reducible show wpList _ _ _ (⟨some 17, _, _, _, _, _⟩ :: _) _ _); go_must (refine wpList_idx Try.underlying125 (by kernel_rfl) (by kernel_rfl) (o := ⟨some 17, _, _, _, _, _⟩) rfl (.tmp 14) (.tmp 15) rfl _ rfl 0 rfl (by decide) (.int .i64 k1) (by simp; have := HK.out.1; have := HK.out.2; omega) ?_)))
            go_roundw
            case rel => exact ⟨0 + 1, f, by omega, by go_num, rfl, X.out.1.symm, X.out.2.1, X.out.2.2⟩
            case measure => simp [intOf]
        · -- round 1
          by_cases hlt : k2 < n
          · have hx := Lib.hid (show 2 * k + 1 + 1 < es'.length by rw [hl', ← hn, show 2 * k + 1 + 1 = k2 by omega]; exact hlt)
            have hfl : f < es'.length := by rcases hf2 with h | h <;> have := hx.out <;> omega
            have hkl : k2 < es'.length := by have := hx.out; omega
            have cA := ahead_any wr hP2 HL.out (hb0.trans (hb2.mono hBr)) (Nat.le_trans hBr hb2.size) hD k2 f hkl hfl
            have q5 : (k2 : Int) < (n : Int) := by omega
            cases hah : Heap.ahead lt (nth es' k2) (nth es' f) with
            | true =>
              rw [hah] at cA
              have hk1 : kidR (Heap.ahead lt) es' k (1 + 1) = k2 := by
                rw [kidR_yes hx.out (by rw [← hf, show 2 * k + 1 + 1 = k2 by omega]; exact hah)]; omega
              have X := Lib.hid (And.intro hk1 (And.intro hP2 hb2))
              clear hk1 hP2 hb2 hf hf2 hah hx hfl hkl hlt hr hr2 y1 y2 hn hl'
              go_wp2_with (first
                | ((with_reducible show wpList _ _ _ (⟨some 17, _, _, _, _, _⟩ :: _) _ _); go_must (refine wpList_idx Try.underlying125 (by kernel_rfl) (by kernel_rfl) (o := ⟨some 17, _, _, _, _, _⟩) rfl (.tmp 14) (.tmp 15) rfl _ rfl 1 rfl (by decide) (.int .i64 k2) (by simp; have := HK.out.1; have := HK.out.2; omega) ?_))
                | (go_at_call 95; refine cA.mono ?_; rintro e w3 ⟨rfl, hb3⟩))
              go_roundw
              case rel => exact ⟨1 + 1, k2, by omega, by go_num, rfl, X.out.1.symm, X.out.2.1.grow hb3, gt X.out.2.2 hb3⟩
              case measure => simp [intOf]
            | false =>
              rw [hah] at cA
              have hk1 : kidR (Heap.ahead lt) es' k (1 + 1) = f := by
                rw [kidR_no2 (by rw [← hf, show 2 * k + 1 + 1 = k2 by omega]; exact hah), hf]
              have X := Lib.hid (And.intro hk1 (And.intro hP2 hb2))
              clear hk1 hP2 hb2 hf hf2 hah hx hfl hkl hlt hr hr2 y1 y2 hn hl'
              go_wp2_with (first
                | ((with_reducible show wpList _ _ _ (⟨some 17, _, _, _, _, _⟩ :: _) _ _); go_must (refine wpList_idx Try.underlying125 (by kernel_rfl) (by kernel_rfl) (o := ⟨some 17, _, _, _, _, _⟩) rfl (.tmp 14) (.tmp 15) rfl _ rfl 1 rfl (by decide) (.int .i64 k2) (by simp; have := HK.out.1; have := HK.out.2; omega) ?_))
                | (go_at_call 95; refine cA.mono ?_; rintro e w3 ⟨rfl, hb3⟩))
              go_roundw
              case rel => exact ⟨1 + 1, f, by omega, by go_num, rfl, X.out.1.symm, X.out.2.1.grow hb3, gt X.out.2.2 hb3⟩
              case measure => simp [intOf]
          · have hk1 : kidR (Heap.ahead lt) es' k (1 + 1) = f := by
              rw [kidR_no1 (by rw [hl', ← hn]; omega), hf]
            have q5 : ¬ (k2 : Int) < (n : Int) := by omega
            have X := Lib.hid (And.intro hk1 (And.intro hP2 hb2))
            clear hk1 hP2 hb2 hf hf2 hlt hr hr2 y1 y2 hn hl'
            go_wp2_with (((with_reducible show wpList _ _ _ (⟨some 17, _, _, _, _, _⟩ :: _) _ _); go_must (refine wpList_idx Try.underlying125 (by kernel_rfl) (by kernel_rfl) (o := ⟨some 17, _, _, _, _, _⟩) rfl (.tmp 14) (.tmp 15) rfl _ rfl 1 rfl (by decide) (.int .i64 k2) (by simp; have := HK.out.1; have := HK.out.2; omega) ?_)))
            go_roundw
            case rel => exact ⟨1 + 1, f, by omega, by go_num, rfl, X.out.1.symm, X.out.2.1, X.out.2.2⟩
            case measure => simp [intOf]
      · obtain rfl : r = 2 := by omega
        rw [kidR_two] at hf
        by_cases hfk : f = k
        · subst hfk
          have X := Lib.hid (And.intro hP2 (And.intro hb2 hf))
          clear hP2 hb2 hf hf2 hr hr2 c1 y1 y2 hn hl'
          go_wp2
          refine bodyPost_ret (results_none rfl _ _ _) rfl ?_
          obtain ⟨hP2, hb2, hf⟩ := X.out
          obtain ⟨hu, hg, _⟩ := XO.out
          obtain rfl := HN.out
          refine ⟨⟨_, rfl⟩, ?_, hg.trans ⟨hb2.os, hb2.tape, hb2.output, hb2.size, fun k hk _ => hb2.block k hk⟩⟩
          rw [← hu, Heap.down, dif_pos hf.symm]
          exact hP2
        · obtain ⟨hkf, hfl⟩ := hf2.resolve_left hfk
          have q7 : ¬ (f : Int) = (k : Int) := by omega
          have cS := swap_any wr hP2 k f (by omega) hfl
          have X := Lib.hid (And.intro hP2 (And.intro hb2 (And.intro hf (And.intro hkf hfl))))
          clear hP2 hb2 hf hf2 hr hr2 c1 hkf hfl y1 y2 hn hl'
          go_wp2_with (go_at_call 96; refine cS.mono ?_; rintro e w3 ⟨⟨u, rfl⟩, hP3, hg3, _⟩)
          obtain ⟨hP2, hb2, hf, hkf, hfl⟩ := X.out
          obtain ⟨hu, hg, hk⟩ := XO.out
          go_roundw
          case rel =>
            refine ⟨f, swp es' k f, rfl, by have := HN.out; have := HL2.out; have := H0.out.2.2.2.2.2; omega, by rw [swp_len]; exact HL2.out, hP3, fun e he => hD e ((swp_perm (by omega) hfl).mem_iff.1 he), ?_, (hg.trans ⟨hb2.os, hb2.tape, hb2.output, hb2.size, fun k hk _ => hb2.block k hk⟩).trans hg3⟩
            rw [← hu]
            conv => rhs; rw [Heap.down, dif_neg (fun e => hfk (hf.trans e)), ← hf]
          case measure => have := HN.out; have := HL2.out; simp [intOf]; omega
end
end Go.Proofs.Ytdebokambldbbaa.PileH
