/- weirref28.decimal and weirlaw28.decimal: the digits of a number. -/
import Derived.Test.YtojemdggbcklkaaDoorWShelf
import Derived.Test.YtojemdggbcklkaaDoorQuiet
import Derived.Test.YtojemdggbcklkaaDoorByteRow
import Derived.Test.YtojemdggbcklkaaDoorRgLite
import Derived.Test.YtojemdggbcklkaaDoorWPure

/- wire: the words of a status; a number's digits as the reference writes them. -/
namespace Go.Proofs.YtojemdggbcklkaaDoor.WireW
open Go.RowKit Go.Proofs.YtojemdggbcklkaaDoor.Mem Go.Proofs.YtojemdggbcklkaaDoor.Wire
set_option linter.unusedVariables false
set_option linter.unusedSimpArgs false
set_option maxRecDepth 4000

/-- the words behind a status -/
def wordsS (n : Nat) : List UInt8 :=
  if n = 200 then [79, 75] else if n = 400 then [66, 97, 100, 32, 82, 101, 113, 117, 101, 115, 116] else if n = 401 then [85, 110, 97, 117, 116, 104, 111, 114, 105, 122, 101, 100]
  else if n = 404 then [78, 111, 116, 32, 70, 111, 117, 110, 100] else if n = 413 then [67, 111, 110, 116, 101, 110, 116, 32, 84, 111, 111, 32, 76, 97, 114, 103, 101]
  else if n = 422 then [85, 110, 112, 114, 111, 99, 101, 115, 115, 97, 98, 108, 101, 32, 67, 111, 110, 116, 101, 110, 116] else if n = 500 then [73, 110, 116, 101, 114, 110, 97, 108, 32, 83, 101, 114, 118, 101, 114, 32, 69, 114, 114, 111, 114] else [85, 110, 107, 110, 111, 119, 110]
theorem wordsS_len (n : Nat) : (wordsS n).length ≤ 21 := by
  unfold wordsS
  by_cases h0 : n = 200
  · rw [if_pos h0]; decide
  rw [if_neg h0]
  by_cases h1 : n = 400
  · rw [if_pos h1]; decide
  rw [if_neg h1]
  by_cases h2 : n = 401
  · rw [if_pos h2]; decide
  rw [if_neg h2]
  by_cases h3 : n = 404
  · rw [if_pos h3]; decide
  rw [if_neg h3]
  by_cases h4 : n = 413
  · rw [if_pos h4]; decide
  rw [if_neg h4]
  by_cases h5 : n = 422
  · rw [if_pos h5]; decide
  rw [if_neg h5]
  by_cases h6 : n = 500
  · rw [if_pos h6]; decide
  rw [if_neg h6]
  decide
set_option maxHeartbeats 1600000 in
theorem words_any (n : Nat) (w : World) : Calls Tryd.prog 27 #[.int .i64 n] w fun e w' => e = .returned (.string ⟨(wordsS n).toArray⟩) ∧ Below w.heap.size w w' := by
  by_cases h0 : n = 200
  · subst h0
    show Calls Tryd.prog 27 #[.int .i64 200] w fun e w' => e = .returned (.string ⟨(wordsS 200).toArray⟩) ∧ Below w.heap.size w w'
    go_enter Tryd.func27, Tryd.ntmps27
    go_wp2
    go_ret
    exact ⟨rfl, gr w⟩
  by_cases h1 : n = 400
  · subst h1
    show Calls Tryd.prog 27 #[.int .i64 400] w fun e w' => e = .returned (.string ⟨(wordsS 400).toArray⟩) ∧ Below w.heap.size w w'
    go_enter Tryd.func27, Tryd.ntmps27
    go_wp2
    go_ret
    exact ⟨rfl, gr w⟩
  by_cases h2 : n = 401
  · subst h2
    show Calls Tryd.prog 27 #[.int .i64 401] w fun e w' => e = .returned (.string ⟨(wordsS 401).toArray⟩) ∧ Below w.heap.size w w'
    go_enter Tryd.func27, Tryd.ntmps27
    go_wp2
    go_ret
    exact ⟨rfl, gr w⟩
  by_cases h3 : n = 404
  · subst h3
    show Calls Tryd.prog 27 #[.int .i64 404] w fun e w' => e = .returned (.string ⟨(wordsS 404).toArray⟩) ∧ Below w.heap.size w w'
    go_enter Tryd.func27, Tryd.ntmps27
    go_wp2
    go_ret
    exact ⟨rfl, gr w⟩
  by_cases h4 : n = 413
  · subst h4
    show Calls Tryd.prog 27 #[.int .i64 413] w fun e w' => e = .returned (.string ⟨(wordsS 413).toArray⟩) ∧ Below w.heap.size w w'
    go_enter Tryd.func27, Tryd.ntmps27
    go_wp2
    go_ret
    exact ⟨rfl, gr w⟩
  by_cases h5 : n = 422
  · subst h5
    show Calls Tryd.prog 27 #[.int .i64 422] w fun e w' => e = .returned (.string ⟨(wordsS 422).toArray⟩) ∧ Below w.heap.size w w'
    go_enter Tryd.func27, Tryd.ntmps27
    go_wp2
    go_ret
    exact ⟨rfl, gr w⟩
  by_cases h6 : n = 500
  · subst h6
    show Calls Tryd.prog 27 #[.int .i64 500] w fun e w' => e = .returned (.string ⟨(wordsS 500).toArray⟩) ∧ Below w.heap.size w w'
    go_enter Tryd.func27, Tryd.ntmps27
    go_wp2
    go_ret
    exact ⟨rfl, gr w⟩
  have e : wordsS n = [85, 110, 107, 110, 111, 119, 110] := by unfold wordsS; rw [if_neg h0, if_neg h1, if_neg h2, if_neg h3, if_neg h4, if_neg h5, if_neg h6]
  rw [e]
  have q0 : ¬ (n : Int) = 200 := by omega
  have q1 : ¬ (n : Int) = 400 := by omega
  have q2 : ¬ (n : Int) = 401 := by omega
  have q3 : ¬ (n : Int) = 404 := by omega
  have q4 : ¬ (n : Int) = 413 := by omega
  have q5 : ¬ (n : Int) = 422 := by omega
  have q6 : ¬ (n : Int) = 500 := by omega
  clear e h0 h1 h2 h3 h4 h5 h6
  go_enter Tryd.func27, Tryd.ntmps27
  go_wp2
  go_ret
  exact ⟨rfl, gr w⟩
set_option maxHeartbeats 1600000 in
theorem rwords_any (n : Nat) (w : World) : Calls Tryd.prog 29 #[.int .i64 n] w fun e w' => e = .returned (.string ⟨(wordsS n).toArray⟩) ∧ Below w.heap.size w w' := by
  by_cases h0 : n = 200
  · subst h0
    show Calls Tryd.prog 29 #[.int .i64 200] w fun e w' => e = .returned (.string ⟨(wordsS 200).toArray⟩) ∧ Below w.heap.size w w'
    go_enter Tryd.func29, Tryd.ntmps29
    go_wp2
    go_ret
    exact ⟨rfl, gr w⟩
  by_cases h1 : n = 400
  · subst h1
    show Calls Tryd.prog 29 #[.int .i64 400] w fun e w' => e = .returned (.string ⟨(wordsS 400).toArray⟩) ∧ Below w.heap.size w w'
    go_enter Tryd.func29, Tryd.ntmps29
    go_wp2
    go_ret
    exact ⟨rfl, gr w⟩
  by_cases h2 : n = 401
  · subst h2
    show Calls Tryd.prog 29 #[.int .i64 401] w fun e w' => e = .returned (.string ⟨(wordsS 401).toArray⟩) ∧ Below w.heap.size w w'
    go_enter Tryd.func29, Tryd.ntmps29
    go_wp2
    go_ret
    exact ⟨rfl, gr w⟩
  by_cases h3 : n = 404
  · subst h3
    show Calls Tryd.prog 29 #[.int .i64 404] w fun e w' => e = .returned (.string ⟨(wordsS 404).toArray⟩) ∧ Below w.heap.size w w'
    go_enter Tryd.func29, Tryd.ntmps29
    go_wp2
    go_ret
    exact ⟨rfl, gr w⟩
  by_cases h4 : n = 413
  · subst h4
    show Calls Tryd.prog 29 #[.int .i64 413] w fun e w' => e = .returned (.string ⟨(wordsS 413).toArray⟩) ∧ Below w.heap.size w w'
    go_enter Tryd.func29, Tryd.ntmps29
    go_wp2
    go_ret
    exact ⟨rfl, gr w⟩
  by_cases h5 : n = 422
  · subst h5
    show Calls Tryd.prog 29 #[.int .i64 422] w fun e w' => e = .returned (.string ⟨(wordsS 422).toArray⟩) ∧ Below w.heap.size w w'
    go_enter Tryd.func29, Tryd.ntmps29
    go_wp2
    go_ret
    exact ⟨rfl, gr w⟩
  by_cases h6 : n = 500
  · subst h6
    show Calls Tryd.prog 29 #[.int .i64 500] w fun e w' => e = .returned (.string ⟨(wordsS 500).toArray⟩) ∧ Below w.heap.size w w'
    go_enter Tryd.func29, Tryd.ntmps29
    go_wp2
    go_ret
    exact ⟨rfl, gr w⟩
  have e : wordsS n = [85, 110, 107, 110, 111, 119, 110] := by unfold wordsS; rw [if_neg h0, if_neg h1, if_neg h2, if_neg h3, if_neg h4, if_neg h5, if_neg h6]
  rw [e]
  have q0 : ¬ (n : Int) = 200 := by omega
  have q1 : ¬ (n : Int) = 400 := by omega
  have q2 : ¬ (n : Int) = 401 := by omega
  have q3 : ¬ (n : Int) = 404 := by omega
  have q4 : ¬ (n : Int) = 413 := by omega
  have q5 : ¬ (n : Int) = 422 := by omega
  have q6 : ¬ (n : Int) = 500 := by omega
  clear e h0 h1 h2 h3 h4 h5 h6
  go_enter Tryd.func29, Tryd.ntmps29
  go_wp2
  go_ret
  exact ⟨rfl, gr w⟩
end Go.Proofs.YtojemdggbcklkaaDoor.WireW
namespace Go.Proofs.YtojemdggbcklkaaDoor.WireW
open Go.RowKit Go.Proofs.YtojemdggbcklkaaDoor.Mem Go.Proofs.YtojemdggbcklkaaDoor.Wire
set_option linter.unusedVariables false
set_option linter.unusedSimpArgs false
set_option maxRecDepth 4000

theorem E8 : Elt Tryd.prog 22 5 [.int .u8 0] 1 := Elt.mk1 Tryd.underlying22 (by kernel_rfl) rfl
theorem dec_small {n : Nat} (h : n < 10) : Lib.decDigits n = [UInt8.ofNat (48 + n)] := by rw [Lib.decDigits, dif_pos h]
theorem dec_big {n : Nat} (h : ¬ n < 10) : Lib.decDigits n = Lib.decDigits (n / 10) ++ Lib.decDigits (n % 10) := by
  rw [Lib.decDigits, dif_neg h, dec_small (Nat.mod_lt _ (by decide))]
theorem dec_len : ∀ (m n : Nat), n ≤ m → (Lib.decDigits n).length ≤ n + 1
  | m, n, h => by
    by_cases h10 : n < 10
    · rw [dec_small h10]; simp
    · rw [dec_big h10, List.length_append, dec_small (Nat.mod_lt n (by decide : 0 < 10))]
      cases m with
      | zero => omega
      | succ m =>
        have := dec_len m (n / 10) (by omega)
        simp
        omega
theorem bv_dig {n : Nat} (h : n < 10) : (.int .u8 (48 + (n : Int)) : Value) = bv (UInt8.ofNat (48 + n)) := by
  unfold bv
  rw [show (UInt8.ofNat (48 + n)).toNat = 48 + n by rw [UInt8.toNat_ofNat']; omega]
  rfl

set_option maxHeartbeats 3200000 in
theorem rdec_small (n : Nat) (h : n < 10) (w : World) : Calls Tryd.prog 28 #[.int .i64 n] w fun e w' => e = .returned (.string ⟨(Lib.decDigits n).toArray⟩) ∧ Below w.heap.size w w' := by
  rw [dec_small h]
  obtain ⟨y, hy⟩ : ∃ y, y = UInt8.ofNat (48 + n) := ⟨_, rfl⟩
  have hb := bv_dig h
  rw [← hy] at hb ⊢
  have hi : (n : Int) < 10 := by omega
  have hi0 : (0 : Int) ≤ (n : Int) := by omega
  have hw1 : IntKind.u8.wrap (48 + (n : Int)) = 48 + (n : Int) := by simp [IntKind.wrap, IntKind.bits, IntKind.signed]; omega
  have hw2 : (48 + (n : Int)) % 256 = 48 + (n : Int) := by omega
  have HB := Lib.hid hb
  clear hb hy h
  go_enter Tryd.func28, Tryd.ntmps28
  go_wp2_with (first
    | ((with_reducible show wpList _ _ _ (⟨some 8, _, _, _, _, _⟩ :: _) _ _); go_must (refine wpList_build1 E8 (o := ⟨some 8, _, _, _, _, _⟩) rfl (.tmp 7) rfl (by decide) [bv y] (by rw [← HB.out]; rfl) rfl w.heap.size rfl ?_); intro w1 hB1 hb1 hz1
       have kc := conv_rb (P := Tryd.prog) (src := 22) (dst := 9) Tryd.underlying22 Tryd.underlying5 Tryd.underlying9 (hB1.rv.rb' [y] rfl) 1
       rw [show ([y] : List UInt8).length = 1 from rfl] at kc))
  go_ret
  exact ⟨rfl, hb1⟩
set_option maxHeartbeats 3200000 in
theorem rdec_any : ∀ (m n : Nat) (w : World), n ≤ m → n ≤ 1152921504606846976 → Calls Tryd.prog 28 #[.int .i64 n] w fun e w' => e = .returned (.string ⟨(Lib.decDigits n).toArray⟩) ∧ Below w.heap.size w w'
  | m, n, w, hm, hn => by
    by_cases h : n < 10
    · exact rdec_small n h w
    · obtain ⟨q, hq⟩ : ∃ q, q = n / 10 := ⟨_, rfl⟩
      obtain ⟨r, hr⟩ : ∃ r, r = n % 10 := ⟨_, rfl⟩
      rw [dec_big h, ← hq, ← hr]
      have d1 : ((n : Int)).tdiv 10 = (q : Int) := by rw [Int.tdiv_eq_ediv_of_nonneg (by omega)]; omega
      have d2 : ((n : Int)) / 10 = (q : Int) := by omega
      have d3 : ((n : Int)).tmod 10 = (r : Int) := by rw [Int.tmod_eq_emod_of_nonneg (by omega)]; omega
      have d4 : ((n : Int)) % 10 = (r : Int) := by omega
      have hi : ¬ (n : Int) < 10 := by omega
      have hi0 : (0 : Int) ≤ (n : Int) := by omega
      have hw : wrap64 (q : Int) = (q : Int) := by unfold wrap64; omega
      have hq0 : q ≤ 1152921504606846976 := by omega
      have hr10 : r < 10 := by omega
      have c1 : ∀ w, Calls Tryd.prog 28 #[.int .i64 q] w fun e w' => e = .returned (.string ⟨(Lib.decDigits q).toArray⟩) ∧ Below w.heap.size w w' := fun w => by
        cases m with
        | zero => omega
        | succ m => exact rdec_any m q w (by omega) hq0
      have c2 : ∀ w, Calls Tryd.prog 28 #[.int .i64 r] w fun e w' => e = .returned (.string ⟨(Lib.decDigits r).toArray⟩) ∧ Below w.heap.size w w' := fun w => rdec_small r hr10 w
      obtain ⟨x, hx⟩ : ∃ x, x = Lib.decDigits q := ⟨_, rfl⟩
      obtain ⟨y, hy⟩ : ∃ y, y = Lib.decDigits r := ⟨_, rfl⟩
      have hxl : x.length ≤ 1152921504606846977 := by rw [hx]; have := dec_len q q (Nat.le_refl _); omega
      have hyl : y.length ≤ 1 := by rw [hy, dec_small hr10]; simp
      rw [← hx] at c1 ⊢
      rw [← hy] at c2 ⊢
      have hcat : (⟨x.toArray⟩ : ByteArray) ++ (⟨y.toArray⟩ : ByteArray) = ⟨(x ++ y).toArray⟩ := by
        apply ByteArray.ext
        simp [ByteArray.data_append]
      have hsz : (⟨x.toArray⟩ : ByteArray).size + (⟨y.toArray⟩ : ByteArray).size ≤ 1152921504606846978 := by simp [ByteArray.size]; omega
      have C1 := Lib.hid c1
      have C2 := Lib.hid c2
      have HC := Lib.hid hcat
      obtain ⟨sx, hsx⟩ : ∃ s, s = (⟨x.toArray⟩ : ByteArray) := ⟨_, rfl⟩
      obtain ⟨sy, hsy⟩ : ∃ s, s = (⟨y.toArray⟩ : ByteArray) := ⟨_, rfl⟩
      rw [← hsx] at C1 HC hsz
      rw [← hsy] at C2 HC hsz
      clear c1 c2 hcat hx hy hq hr h hm hn hsx hsy hxl hyl hq0
      go_enter Tryd.func28, Tryd.ntmps28
      go_wp2_with (first
        | (go_at_call 28; (with_reducible show Calls _ _ #[.int _ (q : Int)] _ _); go_must (refine (C1.out _).mono ?_); rintro e w1 ⟨rfl, hb1⟩)
        | (go_at_call 28; go_must (refine (C2.out _).mono ?_); rintro e w2 ⟨rfl, hb2⟩))
      go_ret
      exact ⟨by rw [← HC.out]; rfl, gt hb1 hb2⟩

set_option maxHeartbeats 3200000 in
theorem ldec_small (n : Nat) (h : n < 10) (w : World) : Calls Tryd.prog 19 #[.int .i64 n] w fun e w' => e = .returned (.string ⟨(Lib.decDigits n).toArray⟩) ∧ Below w.heap.size w w' := by
  rw [dec_small h]
  obtain ⟨y, hy⟩ : ∃ y, y = UInt8.ofNat (48 + n) := ⟨_, rfl⟩
  have hb := bv_dig h
  rw [← hy] at hb ⊢
  have hi : (n : Int) < 10 := by omega
  have hi0 : (0 : Int) ≤ (n : Int) := by omega
  have hw1 : IntKind.u8.wrap (48 + (n : Int)) = 48 + (n : Int) := by simp [IntKind.wrap, IntKind.bits, IntKind.signed]; omega
  have hw2 : (48 + (n : Int)) % 256 = 48 + (n : Int) := by omega
  have HB := Lib.hid hb
  clear hb hy h
  go_enter Tryd.func19, Tryd.ntmps19
  go_wp2_with (first
    | ((with_reducible show wpList _ _ _ (⟨some 8, _, _, _, _, _⟩ :: _) _ _); go_must (refine wpList_build1 E8 (o := ⟨some 8, _, _, _, _, _⟩) rfl (.tmp 7) rfl (by decide) [bv y] (by rw [← HB.out]; rfl) rfl w.heap.size rfl ?_); intro w1 hB1 hb1 hz1
       have kc := conv_rb (P := Tryd.prog) (src := 22) (dst := 9) Tryd.underlying22 Tryd.underlying5 Tryd.underlying9 (hB1.rv.rb' [y] rfl) 1
       rw [show ([y] : List UInt8).length = 1 from rfl] at kc))
  go_ret
  exact ⟨rfl, hb1⟩
set_option maxHeartbeats 3200000 in
theorem ldec_any : ∀ (m n : Nat) (w : World), n ≤ m → n ≤ 1152921504606846976 → Calls Tryd.prog 19 #[.int .i64 n] w fun e w' => e = .returned (.string ⟨(Lib.decDigits n).toArray⟩) ∧ Below w.heap.size w w'
  | m, n, w, hm, hn => by
    by_cases h : n < 10
    · exact ldec_small n h w
    · obtain ⟨q, hq⟩ : ∃ q, q = n / 10 := ⟨_, rfl⟩
      obtain ⟨r, hr⟩ : ∃ r, r = n % 10 := ⟨_, rfl⟩
      rw [dec_big h, ← hq, ← hr]
      have d1 : ((n : Int)).tdiv 10 = (q : Int) := by rw [Int.tdiv_eq_ediv_of_nonneg (by omega)]; omega
      have d2 : ((n : Int)) / 10 = (q : Int) := by omega
      have d3 : ((n : Int)).tmod 10 = (r : Int) := by rw [Int.tmod_eq_emod_of_nonneg (by omega)]; omega
      have d4 : ((n : Int)) % 10 = (r : Int) := by omega
      have hi : ¬ (n : Int) < 10 := by omega
      have hi0 : (0 : Int) ≤ (n : Int) := by omega
      have hw : wrap64 (q : Int) = (q : Int) := by unfold wrap64; omega
      have hq0 : q ≤ 1152921504606846976 := by omega
      have hr10 : r < 10 := by omega
      have c1 : ∀ w, Calls Tryd.prog 19 #[.int .i64 q] w fun e w' => e = .returned (.string ⟨(Lib.decDigits q).toArray⟩) ∧ Below w.heap.size w w' := fun w => by
        cases m with
        | zero => omega
        | succ m => exact ldec_any m q w (by omega) hq0
      have c2 : ∀ w, Calls Tryd.prog 19 #[.int .i64 r] w fun e w' => e = .returned (.string ⟨(Lib.decDigits r).toArray⟩) ∧ Below w.heap.size w w' := fun w => ldec_small r hr10 w
      obtain ⟨x, hx⟩ : ∃ x, x = Lib.decDigits q := ⟨_, rfl⟩
      obtain ⟨y, hy⟩ : ∃ y, y = Lib.decDigits r := ⟨_, rfl⟩
      have hxl : x.length ≤ 1152921504606846977 := by rw [hx]; have := dec_len q q (Nat.le_refl _); omega
      have hyl : y.length ≤ 1 := by rw [hy, dec_small hr10]; simp
      rw [← hx] at c1 ⊢
      rw [← hy] at c2 ⊢
      have hcat : (⟨x.toArray⟩ : ByteArray) ++ (⟨y.toArray⟩ : ByteArray) = ⟨(x ++ y).toArray⟩ := by
        apply ByteArray.ext
        simp [ByteArray.data_append]
      have hsz : (⟨x.toArray⟩ : ByteArray).size + (⟨y.toArray⟩ : ByteArray).size ≤ 1152921504606846978 := by simp [ByteArray.size]; omega
      have C1 := Lib.hid c1
      have C2 := Lib.hid c2
      have HC := Lib.hid hcat
      obtain ⟨sx, hsx⟩ : ∃ s, s = (⟨x.toArray⟩ : ByteArray) := ⟨_, rfl⟩
      obtain ⟨sy, hsy⟩ : ∃ s, s = (⟨y.toArray⟩ : ByteArray) := ⟨_, rfl⟩
      rw [← hsx] at C1 HC hsz
      rw [← hsy] at C2 HC hsz
      clear c1 c2 hcat hx hy hq hr h hm hn hsx hsy hxl hyl hq0
      go_enter Tryd.func19, Tryd.ntmps19
      go_wp2_with (first
        | (go_at_call 19; (with_reducible show Calls _ _ #[.int _ (q : Int)] _ _); go_must (refine (C1.out _).mono ?_); rintro e w1 ⟨rfl, hb1⟩)
        | (go_at_call 19; go_must (refine (C2.out _).mono ?_); rintro e w2 ⟨rfl, hb2⟩))
      go_ret
      exact ⟨by rw [← HC.out]; rfl, gt hb1 hb2⟩
end Go.Proofs.YtojemdggbcklkaaDoor.WireW
