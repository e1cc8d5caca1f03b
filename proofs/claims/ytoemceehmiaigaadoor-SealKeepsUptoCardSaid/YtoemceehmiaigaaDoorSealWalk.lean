/- base64url: the program's letter, value, Encode, Decode. -/
import Derived.Test.YtoemceehmiaigaaDoorSealBits
import Derived.Test.YtoemceehmiaigaaDoorLoan
import Derived.Test.YtoemceehmiaigaaDoorByteRow
import Derived.Laws.BitsAllLaws
namespace Go.Proofs.YtoemceehmiaigaaDoor.Seal
open Go.RowKit Go.Proofs.YtoemceehmiaigaaDoor.Mem Go.Proofs.YtoemceehmiaigaaDoor.Loan
set_option linter.unusedVariables false

set_option maxHeartbeats 400000 in
theorem letter_any (v : Nat) (hv : v < 64) (w : World) :
    Calls Tryd.prog 68 #[.int .u32 (v : Int)] w fun e w' => e = .returned (bv (ltr v)) ∧ w = w' := by
  have h0 : (0 : Int) ≤ (v : Int) := by omega
  have h1 : (v : Int) ≤ 63 := by omega
  have hr : ∀ n : Nat, n = ltrN v → (.int .u8 (n : Int) : Value) = bv (ltr v) := fun n e => by subst e; rw [← ltr_toNat hv]
  have HR := Lib.hid hr
  clear hr
  go_enter Tryd.func68, Tryd.ntmps68
  by_cases h26 : (v : Int) < 26
  · go_wp2
    go_ret
    exact ⟨ret_val (by rw [← HR.out (65 + v) (by unfold ltrN; rw [if_pos (by omega)])]; simp), rfl⟩
  · by_cases h52 : (v : Int) < 52
    · go_wp2
      go_ret
      exact ⟨ret_val (by rw [← HR.out (97 + v - 26) (by unfold ltrN; rw [if_neg (by omega), if_pos (by omega)])]; simp; omega), rfl⟩
    · by_cases h62 : (v : Int) < 62
      · go_wp2
        go_ret
        exact ⟨ret_val (by rw [← HR.out (48 + v - 52) (by unfold ltrN; rw [if_neg (by omega), if_neg (by omega), if_pos (by omega)])]; simp; omega), rfl⟩
      · by_cases h63 : v = 62
        · subst h63
          go_wp2
          go_ret
          exact ⟨ret_val (by rw [← HR.out 45 rfl]; rfl), rfl⟩
        · obtain rfl : v = 63 := by omega
          go_wp2
          go_ret
          exact ⟨ret_val (by rw [← HR.out 95 rfl]; rfl), rfl⟩

set_option maxHeartbeats 400000 in
theorem value_any (c : UInt8) (w : World) :
    Calls Tryd.prog 67 #[bv c] w fun e w' => e = .returned (.int .u32 (val c : Int)) ∧ w = w' := by
  obtain ⟨n, hn⟩ : ∃ n, n = c.toNat := ⟨_, rfl⟩
  have hv : val c = valN n := by rw [hn]; rfl
  have hb : n < 256 := by rw [hn]; exact c.toNat_lt
  rw [hv]
  unfold bv
  rw [← hn]
  clear hn hv
  have h0 : (0 : Int) ≤ (n : Int) := by omega
  have h1 : (n : Int) ≤ 255 := by omega
  have hr : ∀ m : Nat, m = valN n → (m : Int) = (valN n : Int) := fun m e => by rw [e]
  have HR := Lib.hid hr
  clear hr
  go_enter Tryd.func67, Tryd.ntmps67
  by_cases ha : 65 ≤ n ∧ n ≤ 90
  · have a1 : (65 : Int) ≤ (n : Int) := by omega
    have a2 : (n : Int) ≤ 90 := by omega
    go_wp2
    go_ret
    exact ⟨ret_int (by rw [← HR.out (n - 65) (by unfold valN; rw [if_pos ha])]; omega), rfl⟩
  · by_cases hb : 97 ≤ n ∧ n ≤ 122
    · have a1 : (97 : Int) ≤ (n : Int) := by omega
      have a2 : (n : Int) ≤ 122 := by omega
      go_wp2
      go_ret
      exact ⟨ret_int (by rw [← HR.out (n - 97 + 26) (by unfold valN; rw [if_neg ha, if_pos hb])]; omega), rfl⟩
    · by_cases hc : 48 ≤ n ∧ n ≤ 57
      · have a1 : (48 : Int) ≤ (n : Int) := by omega
        have a2 : (n : Int) ≤ 57 := by omega
        go_wp2
        go_ret
        exact ⟨ret_int (by rw [← HR.out (n - 48 + 52) (by unfold valN; rw [if_neg ha, if_neg hb, if_pos hc])]; omega), rfl⟩
      · have HV := Lib.hid (show valN n = if n = 45 then 62 else if n = 95 then 63 else 64 by unfold valN; rw [if_neg ha, if_neg hb, if_neg hc])
        by_cases h45 : n = 45
        · subst h45
          go_wp2
          go_ret
          exact ⟨ret_int (by rw [HV.out]; rfl), rfl⟩
        · by_cases h95 : n = 95
          · subst h95
            go_wp2
            go_ret
            exact ⟨ret_int (by rw [HV.out]; rfl), rfl⟩
          · have a1 : ¬ ((n : Int) = 45) := by omega
            have a2 : ¬ ((n : Int) = 95) := by omega
            have b1 : ((n : Int) == 45) = false := by simp [a1]
            have b2 : ((n : Int) == 95) = false := by simp [a2]
            have hr2 : (64 : Int) = (valN n : Int) := by rw [HV.out, if_neg h45, if_neg h95]; rfl
            have HR2 := Lib.hid hr2
            have hcase : ((n : Int) ≤ 47) ∨ (58 ≤ (n : Int) ∧ (n : Int) ≤ 64) ∨ (91 ≤ (n : Int) ∧ (n : Int) ≤ 96) ∨ (123 ≤ (n : Int)) := by omega
            clear hb ha hc hr2
            rcases hcase with q | ⟨q, q'⟩ | ⟨q, q'⟩ | q
            all_goals
              go_wp2
              go_ret
              exact ⟨ret_int HR2.out, rfl⟩

/-- string(b), b a row of bytes under way -/
theorem own_str {w : World} {B n n' c : Nat} {A : Option Addr} {l r : List UInt8} (h : w.ownsRow B 5 1 (.slice A n' c) n (l.map bv)) (hn : n' = n) (hr : l = r) :
    (convert 32 9 (.slice A n' c)).run Tryd.prog w = .ok (.string ⟨r.toArray⟩) w := by
  subst hr hn
  have hl : l.length = n' := by have := h.1; simpa using this
  rw [← hl]
  exact conv_rb (P := Tryd.prog) (src := 32) (dst := 9) Tryd.underlying32 Tryd.underlying5 Tryd.underlying9 (own_rb' h) c

/-! ### Encode -/
def step8 (X : Nat) (c : UInt8) : Nat := X * 256 % 4294967296 + c.toNat
theorem or8 (X : Nat) (c : UInt8) (hX : X < 4294967296) : bits .or .u32 (((X : Int) * 256) % 4294967296) (c.toNat : Int) = (step8 X c : Int) := by
  have hc := c.toNat_lt
  have h1 : (((X : Int) * 256) % 4294967296) = ((X * 256 % 4294967296 : Nat) : Int) := by simp only [Int.natCast_emod, Int.natCast_mul]; rfl
  rw [h1, u32_or_nat _ _ (by omega) (by omega), nat_join 8 _ _ (by omega) (by omega)]
  rfl

def outs (t S : Nat) : List UInt8 := if t = 0 then [ltr (S / 4 % 64)] else if t = 1 then [ltr (S / 16 % 64)] else [ltr (S / 64 % 64), ltr (S % 64)]
theorem outs_length (t S : Nat) (ht : t < 3) : (outs t S).length = (t + 4) / 3 := by
  have : t = 0 ∨ t = 1 ∨ t = 2 := by omega
  rcases this with rfl | rfl | rfl <;> rfl
theorem enc_step (t X : Nat) (x : UInt8) (r : List UInt8) (ht : t < 3) : encGo t (X % 4 ^ t) (x :: r) = outs t (step8 X x) ++ encGo ((t + 1) % 3) (step8 X x % 4 ^ ((t + 1) % 3)) r := by
  have hx := x.toNat_lt
  have : t = 0 ∨ t = 1 ∨ t = 2 := by omega
  unfold step8
  rcases this with rfl | rfl | rfl
  · rw [encGo, if_pos rfl, show (X % 4 ^ 0 * 256 + x.toNat) / 4 = (X * 256 % 4294967296 + x.toNat) / 4 % 64 by simp; omega, show (X % 4 ^ 0 * 256 + x.toNat) % 4 = (X * 256 % 4294967296 + x.toNat) % 4 by simp; omega]
    rfl
  · rw [encGo, if_neg (by omega), if_pos rfl, show (X % 4 ^ 1 * 256 + x.toNat) / 16 = (X * 256 % 4294967296 + x.toNat) / 16 % 64 by simp; omega, show (X % 4 ^ 1 * 256 + x.toNat) % 16 = (X * 256 % 4294967296 + x.toNat) % 16 by simp; omega]
    rfl
  · rw [encGo, if_neg (by omega), if_neg (by omega), show (X % 4 ^ 2 * 256 + x.toNat) / 64 = (X * 256 % 4294967296 + x.toNat) / 64 % 64 by simp; omega, show (X % 4 ^ 2 * 256 + x.toNat) % 64 = (X * 256 % 4294967296 + x.toNat) % 64 by simp; omega]
    simp [outs, Nat.mod_one]
theorem and63 (Z : Nat) (h : Z < 4294967296) : bits .and .u32 (Z : Int) 63 = ((Z % 64 : Nat) : Int) := by
  have := u32_and_nat Z 63 h (by omega)
  rw [nat_mask6] at this
  exact this

set_option maxHeartbeats 1600000 in
theorem encode_any (A : Option Addr) (c : Nat) (l : List UInt8) (w : World) (ha : RB w A l) (hl : l.length ≤ 1073741824) :
    Calls Tryd.prog 42 #[.slice A l.length c] w fun e w' => e = .returned (.string ⟨(enc l).toArray⟩) ∧ Below w.heap.size w w' := by
  obtain ⟨n, hn⟩ : ∃ n, n = l.length := ⟨_, rfl⟩
  have hni : (n : Int) ≤ 1073741824 := by omega
  have hn0 : (0 : Int) ≤ (n : Int) := by omega
  have hnb : n ≤ 1073741824 := by omega
  rw [← hn]
  have HA := Lib.hid (And.intro ha hn)
  clear ha hn hl
  obtain ⟨m, hm⟩ : ∃ m, m = (n * 8 + 5) / 6 := ⟨_, rfl⟩
  have hmi : ((n : Int) * 8 + 5) / 6 = (m : Int) := by omega
  have hmb : m ≤ 1431655766 := by omega
  clear hm
  go_enter Tryd.func42, Tryd.ntmps42
  go_wp2_with (first
    | (at_make; go_must (refine wpList_make0 E8 rfl _ (.tmp 12) rfl .i64 .i64 _ m rfl rfl (by first | rfl | omega) (by omega) (by unfold maxLen; omega) w.heap.size (Nat.le_refl _) ?_); intro v w1 hown hv hb1 hz1 hcap))
  have HX := Lib.hid (And.intro hown hb1)
  clear hown hv hb1 hz1 hcap
  go_loopw [3, 4, 5, 16] (fun v3 v4 v5 v16 wr => ∃ (k X t : Nat) (out : List UInt8), k ≤ n ∧ v16 = .int .i64 k ∧ t < 3 ∧ v5 = .int .i64 (2 * (t : Int)) ∧ v4 = .int .u32 (X : Int) ∧ X < 4294967296 ∧ out.length ≤ 2 * k ∧
    wr.ownsRow w.heap.size 5 1 v3 out.length (out.map bv) ∧ enc l = out ++ encGo t (X % 4 ^ t) (l.drop k) ∧ Below w.heap.size w wr) (fun _ _ _ v _ => n - (intOf v).toNat)
  case atStart => exact ⟨0, 0, 0, [], by omega, rfl, by omega, rfl, rfl, by omega, by simp, HX.out.1, rfl, HX.out.2⟩
  case round =>
    clear HX
    obtain ⟨k, X, t, out, hk, rfl, ht, rfl, rfl, hX, ho, hown, henc, hb⟩ := hrel
    obtain ⟨A3, n3, c3, rfl, hn3⟩ := own_form hown
    obtain rfl := hn3
    have HX := Lib.hid (And.intro hown (And.intro henc hb))
    have ho' : out.length ≤ 2147483648 := by omega
    clear hown henc hb
    by_cases hlt : k < n
    · obtain ⟨x, hx⟩ : ∃ x, x = l[k]'(by have := HA.out.2; omega) := ⟨_, rfl⟩
      obtain ⟨ad, hA, hc⟩ := HA.out.1 k (by have := HA.out.2; omega)
      have cc := cell_grow hc HX.out.2.2
      rw [← hx] at cc
      subst hA
      have hki : (k : Int) < (n : Int) := by omega
      have hk0 : (0 : Int) ≤ (k : Int) := by omega
      have hX1 : (X : Int) ≤ 4294967295 := by omega
      have hor := or8 X x hX
      have hx0 : (0 : Int) ≤ (x.toNat : Int) := by omega
      have hx8 : (x.toNat : Int) ≤ 255 := by have := x.toNat_lt; omega
      obtain ⟨S, hS⟩ : ∃ S, S = step8 X x := ⟨_, rfl⟩
      rw [← hS] at hor
      have hSb : S < 4294967296 := by rw [hS]; have := x.toNat_lt; unfold step8; omega
      have HS := Lib.hid (And.intro hS hx)
      clear hc hx hS
      go_wp2_with fail
      clear cc hor
      go_loopw [3, 5] (fun v3 v5 wr => ∃ (j : Nat) (bi : Int), v5 = .int .i64 bi ∧ bi = 2 * (t : Int) + 8 - 6 * (j : Int) ∧ j ≤ (t + 4) / 3 ∧ wr.ownsRow w.heap.size 5 1 v3 (out.length + j) ((out ++ (outs t S).take j).map bv) ∧ Below w.heap.size w wr) (fun _ v _ => (intOf v).toNat)
      case atStart => exact ⟨0, _, rfl, by omega, by omega, by simpa using HX.out.1, HX.out.2.2⟩
      case round =>
        obtain ⟨j, bi, rfl, hbi, hj, hown, hb⟩ := hrel
        obtain ⟨A4, n4, c4, rfl, hn4⟩ := own_form hown
        obtain rfl := hn4
        have HZ := Lib.hid (And.intro hown hb)
        clear hown hb
        by_cases hlj : j < (t + 4) / 3
        · have hcase : (t = 0 ∧ j = 0) ∨ (t = 1 ∧ j = 0) ∨ (t = 2 ∧ j = 0) ∨ (t = 2 ∧ j = 1) := by omega
          rcases hcase with ⟨h1, rfl⟩ | ⟨h1, rfl⟩ | ⟨h1, rfl⟩ | ⟨h1, rfl⟩
          · have HT := Lib.hid h1
            clear h1
            obtain rfl : bi = 8 := by have := HT.out; omega
            obtain ⟨y, hy⟩ : ∃ y, y = S / 4 % 64 := ⟨_, rfl⟩
            have hand : bits .and .u32 ((S : Int) / 4) 63 = (y : Int) := by rw [hy]; exact and63 (S / 4) (by omega)
            have hyb : y < 64 := by omega
            have HY := Lib.hid (show (outs t S).take 0 ++ [ltr y] = (outs t S).take 1 by rw [HT.out, hy]; rfl)
            clear hy hbi hj hlj
            go_wp2_with (first
              | (go_at_call 68; go_must (refine (letter_any y hyb _).mono ?_); rintro e w2 ⟨rfl, rfl⟩)
              | ((with_reducible show wpList _ _ _ (⟨some 37, _, _, _, _, _⟩ :: _) _ _); go_must (refine wpList_one E8 rfl (.tmp 36) rfl (by decide) [bv (ltr y)] rfl rfl wr.heap.size rfl ?_); intro w3 hB3 hb3)
              | ((with_reducible show wpList _ _ _ (⟨some 38, _, _, _, _, _⟩ :: _) _ _); go_must (refine wpList_pushB E8 rfl (.tmp 31) (.tmp 37) rfl (gt HZ.out.2 hb3) (own_belowB HZ.out.1 hb3) rfl wr.heap.size rfl (ltr y) hB3 (by omega) ?_); intro v4 w4 hown4 hb4))
            refine ⟨⟨1, _, rfl, by have := HT.out; omega, by have := HT.out; omega, ?_, hb4⟩, by simp [intOf]⟩
            rw [← HY.out, ← List.append_assoc]
            exact hown4
          · have HT := Lib.hid h1
            clear h1
            obtain rfl : bi = 10 := by have := HT.out; omega
            obtain ⟨y, hy⟩ : ∃ y, y = S / 16 % 64 := ⟨_, rfl⟩
            have hand : bits .and .u32 ((S : Int) / 16) 63 = (y : Int) := by rw [hy]; exact and63 (S / 16) (by omega)
            have hyb : y < 64 := by omega
            have HY := Lib.hid (show (outs t S).take 0 ++ [ltr y] = (outs t S).take 1 by rw [HT.out, hy]; rfl)
            clear hy hbi hj hlj
            go_wp2_with (first
              | (go_at_call 68; go_must (refine (letter_any y hyb _).mono ?_); rintro e w2 ⟨rfl, rfl⟩)
              | ((with_reducible show wpList _ _ _ (⟨some 37, _, _, _, _, _⟩ :: _) _ _); go_must (refine wpList_one E8 rfl (.tmp 36) rfl (by decide) [bv (ltr y)] rfl rfl wr.heap.size rfl ?_); intro w3 hB3 hb3)
              | ((with_reducible show wpList _ _ _ (⟨some 38, _, _, _, _, _⟩ :: _) _ _); go_must (refine wpList_pushB E8 rfl (.tmp 31) (.tmp 37) rfl (gt HZ.out.2 hb3) (own_belowB HZ.out.1 hb3) rfl wr.heap.size rfl (ltr y) hB3 (by omega) ?_); intro v4 w4 hown4 hb4))
            refine ⟨⟨1, _, rfl, by have := HT.out; omega, by have := HT.out; omega, ?_, hb4⟩, by simp [intOf]⟩
            rw [← HY.out, ← List.append_assoc]
            exact hown4
          · have HT := Lib.hid h1
            clear h1
            obtain rfl : bi = 12 := by have := HT.out; omega
            obtain ⟨y, hy⟩ : ∃ y, y = S / 64 % 64 := ⟨_, rfl⟩
            have hand : bits .and .u32 ((S : Int) / 64) 63 = (y : Int) := by rw [hy]; exact and63 (S / 64) (by omega)
            have hyb : y < 64 := by omega
            have HY := Lib.hid (show (outs t S).take 0 ++ [ltr y] = (outs t S).take 1 by rw [HT.out, hy]; rfl)
            clear hy hbi hj hlj
            go_wp2_with (first
              | (go_at_call 68; go_must (refine (letter_any y hyb _).mono ?_); rintro e w2 ⟨rfl, rfl⟩)
              | ((with_reducible show wpList _ _ _ (⟨some 37, _, _, _, _, _⟩ :: _) _ _); go_must (refine wpList_one E8 rfl (.tmp 36) rfl (by decide) [bv (ltr y)] rfl rfl wr.heap.size rfl ?_); intro w3 hB3 hb3)
              | ((with_reducible show wpList _ _ _ (⟨some 38, _, _, _, _, _⟩ :: _) _ _); go_must (refine wpList_pushB E8 rfl (.tmp 31) (.tmp 37) rfl (gt HZ.out.2 hb3) (own_belowB HZ.out.1 hb3) rfl wr.heap.size rfl (ltr y) hB3 (by omega) ?_); intro v4 w4 hown4 hb4))
            refine ⟨⟨1, _, rfl, by have := HT.out; omega, by have := HT.out; omega, ?_, hb4⟩, by simp [intOf]⟩
            rw [← HY.out, ← List.append_assoc]
            exact hown4
          · have HT := Lib.hid h1
            clear h1
            obtain rfl : bi = 6 := by have := HT.out; omega
            obtain ⟨y, hy⟩ : ∃ y, y = S % 64 := ⟨_, rfl⟩
            have hand : bits .and .u32 ((S : Int)) 63 = (y : Int) := by rw [hy]; exact and63 (S) (by omega)
            have hyb : y < 64 := by omega
            have HY := Lib.hid (show (outs t S).take 1 ++ [ltr y] = (outs t S).take 2 by rw [HT.out, hy]; rfl)
            clear hy hbi hj hlj
            go_wp2_with (first
              | (go_at_call 68; go_must (refine (letter_any y hyb _).mono ?_); rintro e w2 ⟨rfl, rfl⟩)
              | ((with_reducible show wpList _ _ _ (⟨some 37, _, _, _, _, _⟩ :: _) _ _); go_must (refine wpList_one E8 rfl (.tmp 36) rfl (by decide) [bv (ltr y)] rfl rfl wr.heap.size rfl ?_); intro w3 hB3 hb3)
              | ((with_reducible show wpList _ _ _ (⟨some 38, _, _, _, _, _⟩ :: _) _ _); go_must (refine wpList_pushB E8 rfl (.tmp 31) (.tmp 37) rfl (gt HZ.out.2 hb3) (own_belowB HZ.out.1 hb3) rfl wr.heap.size rfl (ltr y) hB3 (by omega) ?_); intro v4 w4 hown4 hb4))
            refine ⟨⟨2, _, rfl, by have := HT.out; omega, by have := HT.out; omega, ?_, hb4⟩, by simp [intOf]⟩
            rw [← HY.out, ← List.append_assoc]
            exact hown4
        · have hb6 : bi < 6 := by omega
          have hbe : bi = 2 * (((t + 1) % 3 : Nat) : Int) := by omega
          have hje : j = (t + 4) / 3 := by omega
          have HE := Lib.hid (And.intro hbe hje)
          clear hbi hj hlj hbe hje
          go_wp2_with fail
          refine ⟨⟨k + 1, S, (t + 1) % 3, out ++ outs t S, by omega, by go_num, by omega, by rw [HE.out.1], rfl, hSb, ?_, ?_, ?_, HZ.out.2⟩, by simp [intOf]; omega⟩
          · rw [List.length_append, outs_length t S ht]; omega
          · have h := HZ.out.1
            rw [List.take_of_length_le (by rw [outs_length t S ht, HE.out.2]; exact Nat.le_refl _)] at h
            rw [List.length_append, outs_length t S ht, ← HE.out.2]
            exact h
          · rw [HX.out.2.1, List.drop_eq_getElem_cons (by have := HA.out.2; omega), ← HS.out.2, enc_step t X x _ ht, ← HS.out.1, List.append_assoc]
    · obtain rfl : k = n := by omega
      have hd : enc l = out ++ encGo t (X % 4 ^ t) [] := by
        rw [HX.out.2.1, List.drop_of_length_le (by have := HA.out.2; omega)]
      by_cases ht0 : t = 0
      · subst ht0
        have hr : enc l = out := by rw [hd]; simp [encGo]
        have hcv := conv_rb (P := Tryd.prog) (src := 32) (dst := 9) Tryd.underlying32 Tryd.underlying5 Tryd.underlying9 (own_rb' HX.out.1) c3
        have HR := Lib.hid hr
        clear hd hr hlt ht
        go_wp2_with fail
        go_ret
        exact ⟨by rw [HR.out]; rfl, HX.out.2.2⟩
      · have hcase : t = 1 ∨ t = 2 := by omega
        rcases hcase with h1 | h1
        · have hd1 : enc l = out ++ [ltr (X % 4 * 16)] := by rw [hd, h1]; simp [encGo]
          have e2 : 2 * (t : Int) = 2 := by omega
          rw [e2]
          clear hd h1 e2
          obtain ⟨y, hy⟩ : ∃ y, y = X % 4 * 16 := ⟨_, rfl⟩
          have hand : bits .and .u32 (((X : Int) * 16) % 4294967296) 63 = (y : Int) := by
            have := and63 (X * 16 % 4294967296) (by omega)
            rw [show (X * 16 % 4294967296) % 64 = y by omega] at this
            rw [← this]
            simp only [Int.natCast_emod, Int.natCast_mul]
            rfl
          have hyb : y < 64 := by omega
          have HR := Lib.hid (show enc l = out ++ [ltr y] by rw [hy]; exact hd1)
          have hX1 : (X : Int) ≤ 4294967295 := by omega
          clear hd1 hlt ht ht0 hy
          go_wp2_with (first
            | (go_at_call 68; go_must (refine (letter_any y hyb _).mono ?_); rintro e w2 ⟨rfl, rfl⟩)
            | ((with_reducible show wpList _ _ _ (⟨some 49, _, _, _, _, _⟩ :: _) _ _); go_must (refine wpList_one E8 rfl (.tmp 48) rfl (by decide) [bv (ltr y)] rfl rfl wr.heap.size rfl ?_); intro w3 hB3 hb3)
            | ((with_reducible show wpList _ _ _ (⟨some 50, _, _, _, _, _⟩ :: _) _ _); go_must (refine wpList_pushB E8 rfl (.tmp 42) (.tmp 49) rfl (gt HX.out.2.2 hb3) (own_belowB HX.out.1 hb3) rfl wr.heap.size rfl (ltr y) hB3 (by omega) ?_); intro v4 w4 hown4 hb4; obtain ⟨A4, n4, c4, rfl, hn4⟩ := own_form hown4; have hcv := own_str hown4 hn4 HR.out.symm; clear hn4))
          go_ret
          exact ⟨rfl, hb4⟩
        · have hd1 : enc l = out ++ [ltr (X % 16 * 4)] := by rw [hd, h1]; simp [encGo]
          have e2 : 2 * (t : Int) = 4 := by omega
          rw [e2]
          clear hd h1 e2
          obtain ⟨y, hy⟩ : ∃ y, y = X % 16 * 4 := ⟨_, rfl⟩
          have hand : bits .and .u32 (((X : Int) * 4) % 4294967296) 63 = (y : Int) := by
            have := and63 (X * 4 % 4294967296) (by omega)
            rw [show (X * 4 % 4294967296) % 64 = y by omega] at this
            rw [← this]
            simp only [Int.natCast_emod, Int.natCast_mul]
            rfl
          have hyb : y < 64 := by omega
          have HR := Lib.hid (show enc l = out ++ [ltr y] by rw [hy]; exact hd1)
          have hX1 : (X : Int) ≤ 4294967295 := by omega
          clear hd1 hlt ht ht0 hy
          go_wp2_with (first
            | (go_at_call 68; go_must (refine (letter_any y hyb _).mono ?_); rintro e w2 ⟨rfl, rfl⟩)
            | ((with_reducible show wpList _ _ _ (⟨some 49, _, _, _, _, _⟩ :: _) _ _); go_must (refine wpList_one E8 rfl (.tmp 48) rfl (by decide) [bv (ltr y)] rfl rfl wr.heap.size rfl ?_); intro w3 hB3 hb3)
            | ((with_reducible show wpList _ _ _ (⟨some 50, _, _, _, _, _⟩ :: _) _ _); go_must (refine wpList_pushB E8 rfl (.tmp 42) (.tmp 49) rfl (gt HX.out.2.2 hb3) (own_belowB HX.out.1 hb3) rfl wr.heap.size rfl (ltr y) hB3 (by omega) ?_); intro v4 w4 hown4 hb4; obtain ⟨A4, n4, c4, rfl, hn4⟩ := own_form hown4; have hcv := own_str hown4 hn4 HR.out.symm; clear hn4))
          go_ret
          exact ⟨rfl, hb4⟩

/-! ### Decode -/
def stepV (X v : Nat) : Nat := X * 64 % 4294967296 + v
theorem or6 (X v : Nat) (hX : X < 4294967296) (hv : v < 64) : bits .or .u32 (((X : Int) * 64) % 4294967296) (v : Int) = (stepV X v : Int) := by
  have h1 : (((X : Int) * 64) % 4294967296) = ((X * 64 % 4294967296 : Nat) : Int) := by simp only [Int.natCast_emod, Int.natCast_mul]; rfl
  rw [h1, u32_or_nat _ _ (by omega) (by omega), nat_join 6 _ _ (by omega) (by omega)]
  rfl
theorem andN (Z k : Nat) (h : Z < 4294967296) (hk : k ≤ 6) : bits .and .u32 (Z : Int) ((2 ^ k - 1 : Nat) : Int) = ((Z % 2 ^ k : Nat) : Int) := by
  have h2 : 2 ^ k ≤ 2 ^ 6 := Nat.pow_le_pow_right (by omega) hk
  rw [u32_and_nat Z _ h (by omega), Nat.and_two_pow_sub_one_eq_mod]

def DecPost (w : World) (o : Option (List UInt8)) (e : Ending) (w' : World) : Prop :=
  match o with
  | none => e = .returned (.tuple #[.slice none 0 0, .int .i64 50]) ∧ Below w.heap.size w w'
  | some d => ∃ v, e = .returned (.tuple #[v, .int .i64 0]) ∧ w'.ownsRow w.heap.size 5 1 v d.length (d.map bv) ∧ Below w.heap.size w w'

def bitsAt (t : Nat) : Nat := (8 - 2 * t) % 8
theorem dec_step0 (X : Nat) (x : UInt8) (r : List UInt8) (hv : ¬ val x = 64) : decGo 0 (X % 2 ^ bitsAt 0) (x :: r) = decGo 1 (stepV X (val x) % 2 ^ bitsAt 1) r := by
  have hu := val_le x
  rw [decGo, if_neg hv, if_pos rfl, show X % 2 ^ bitsAt 0 * 64 + val x = stepV X (val x) % 2 ^ bitsAt 1 by unfold stepV bitsAt; simp; omega]
theorem dec_step (t X : Nat) (x : UInt8) (r : List UInt8) (ht : t = 1 ∨ t = 2 ∨ t = 3) (hv : ¬ val x = 64) : decGo t (X % 2 ^ bitsAt t) (x :: r) = (decGo ((t + 1) % 4) (stepV X (val x) % 2 ^ bitsAt ((t + 1) % 4)) r).map (byt (stepV X (val x) / 2 ^ bitsAt ((t + 1) % 4) % 256) :: ·) := by
  have hu := val_le x
  rcases ht with rfl | rfl | rfl
  · rw [decGo, if_neg hv, if_neg (by omega), if_pos rfl,
      show (X % 2 ^ bitsAt 1 * 64 + val x) % 16 = stepV X (val x) % 2 ^ bitsAt ((1 + 1) % 4) by unfold stepV bitsAt; simp; omega,
      show (X % 2 ^ bitsAt 1 * 64 + val x) / 16 = stepV X (val x) / 2 ^ bitsAt ((1 + 1) % 4) % 256 by unfold stepV bitsAt; simp; omega]
  · rw [decGo, if_neg hv, if_neg (by omega), if_neg (by omega), if_pos rfl,
      show (X % 2 ^ bitsAt 2 * 64 + val x) % 4 = stepV X (val x) % 2 ^ bitsAt ((2 + 1) % 4) by unfold stepV bitsAt; simp; omega,
      show (X % 2 ^ bitsAt 2 * 64 + val x) / 4 = stepV X (val x) / 2 ^ bitsAt ((2 + 1) % 4) % 256 by unfold stepV bitsAt; simp; omega]
  · rw [decGo, if_neg hv, if_neg (by omega), if_neg (by omega), if_neg (by omega),
      show (X % 2 ^ bitsAt 3 * 64 + val x) = stepV X (val x) / 2 ^ bitsAt ((3 + 1) % 4) % 256 by unfold stepV bitsAt; simp; omega,
      show stepV X (val x) % 2 ^ bitsAt ((3 + 1) % 4) = 0 by simp [bitsAt, Nat.mod_one]]
set_option maxHeartbeats 1600000 in
theorem decode_any (l : List UInt8) (w : World) (hl : l.length ≤ 1073741824) :
    Calls Tryd.prog 40 #[.string ⟨l.toArray⟩] w (DecPost w (dec l)) := by
  obtain ⟨n, hn⟩ : ∃ n, n = l.length := ⟨_, rfl⟩
  have hni : (n : Int) ≤ 1073741824 := by omega
  have hn0 : (0 : Int) ≤ (n : Int) := by omega
  have hnb : n ≤ 1073741824 := by omega
  obtain ⟨s, hs⟩ : ∃ s, s = (⟨l.toArray⟩ : ByteArray) := ⟨_, rfl⟩
  have hsz : s.size = n := by rw [hs, hn]; simp [ByteArray.size]
  rw [← hs]
  have HA := Lib.hid (And.intro hn hs)
  clear hn hl hs
  by_cases h4 : n % 4 = 1
  · have hd : dec l = none := dec_short l 0 0 (by omega) (by rw [← HA.out.1]; omega)
    have h4i : (n : Int) % 4 = 1 := by omega
    rw [hd]
    clear hd h4
    go_enter Tryd.func40, Tryd.ntmps40
    go_wp2
    go_ret2
    exact ⟨rfl, gr w⟩
  · obtain ⟨m, hm⟩ : ∃ m, m = n * 6 / 8 := ⟨_, rfl⟩
    have hmi : (n : Int) * 6 / 8 = (m : Int) := by omega
    have hmb : m ≤ 1073741824 := by omega
    obtain ⟨q4, hq4⟩ : ∃ q, q = n % 4 := ⟨_, rfl⟩
    have h4i : (n : Int) % 4 = (q4 : Int) := by omega
    have hq41 : ¬ (q4 : Int) = 1 := by omega
    have HQ := Lib.hid h4
    clear hm h4 hq4
    go_enter Tryd.func40, Tryd.ntmps40
    go_wp2_with (first
      | (at_make; go_must (refine wpList_make0 E8 rfl _ (.tmp 16) rfl .i64 .i64 _ m rfl rfl (by first | rfl | omega) (by omega) (by unfold maxLen; omega) w.heap.size (Nat.le_refl _) ?_); intro v w1 hown hv hb1 hz1 hcap))
    have HX := Lib.hid (And.intro hown hb1)
    clear hown hv hb1 hz1 hcap h4i hq41
    go_loopw [4, 5, 6, 20] (fun v4 v5 v6 v20 wr => ∃ (k X t : Nat) (bi : Int) (out : List UInt8), k ≤ n ∧ v20 = .int .i64 k ∧ t < 4 ∧ t = k % 4 ∧ v6 = .int .i64 bi ∧ bi = (bitsAt t : Int) ∧ v5 = .int .u32 (X : Int) ∧ X < 4294967296 ∧ out.length ≤ k ∧
      wr.ownsRow w.heap.size 5 1 v4 out.length (out.map bv) ∧ dec l = (decGo t (X % 2 ^ bitsAt t) (l.drop k)).map (out ++ ·) ∧ Below w.heap.size w wr) (fun _ _ _ v _ => n - (intOf v).toNat)
    case atStart => exact ⟨0, 0, 0, 0, [], by omega, rfl, by omega, rfl, rfl, rfl, rfl, by omega, by simp, HX.out.1, by simp [dec], HX.out.2⟩
    case round =>
      clear HX
      obtain ⟨k, X, t, bi, out, hk, rfl, ht, htk, rfl, hbi, rfl, hX, ho, hown, hdec, hb⟩ := hrel
      obtain ⟨A3, n3, c3, rfl, hn3⟩ := own_form hown
      obtain rfl := hn3
      have HX := Lib.hid (And.intro hown (And.intro hdec hb))
      have HT := Lib.hid (And.intro htk hbi)
      have ho' : out.length ≤ 1073741824 := by omega
      clear hown hdec hb htk hbi
      by_cases hlt : k < n
      · have hkl : k < l.length := by have := HA.out.1; omega
        obtain ⟨x, hx⟩ : ∃ x, x = l[k] := ⟨_, rfl⟩
        have hks : k < s.size := by omega
        have hsx : s[k] = x := by
          have : ∀ s' : ByteArray, s' = (⟨l.toArray⟩ : ByteArray) → ∀ h, s'[k]'h = l[k] := fun s' e h => by subst e; rfl
          rw [hx]; exact this s HA.out.2 hks
        have hki : (k : Int) < (n : Int) := by omega
        have hk0 : (0 : Int) ≤ (k : Int) := by omega
        have hX1 : (X : Int) ≤ 4294967295 := by omega
        have hdrop : l.drop k = x :: l.drop (k + 1) := by rw [List.drop_eq_getElem_cons hkl, hx]
        have HD := Lib.hid hdrop
        clear hx hdrop
        by_cases hv : val x = 64
        · have hr : dec l = none := by rw [HX.out.2.1, HD.out, decGo, if_pos hv]; rfl
          have HR := Lib.hid hr
          clear hr
          go_wp2_with (first
            | (go_at_call 67; go_must (refine (value_any x _).mono ?_); rintro e w2 ⟨he, rfl⟩; rw [hv] at he; subst he))
          go_ret2
          rw [HR.out]
          exact ⟨rfl, HX.out.2.2⟩
        · obtain ⟨u, hu⟩ : ∃ u, u = val x := ⟨_, rfl⟩
          have hub : u < 64 := by have := val_le x; omega
          have hor := or6 X u hX hub
          obtain ⟨S, hS⟩ : ∃ S, S = stepV X u := ⟨_, rfl⟩
          rw [← hS] at hor
          have hSb : S < 4294967296 := by rw [hS]; unfold stepV; omega
          have hu64 : ¬ (u : Int) = 64 := by omega
          have HS := Lib.hid (And.intro hS (And.intro hu hv))
          clear hS hu hv
          have hcase : t = 0 ∨ t = 1 ∨ t = 2 ∨ t = 3 := by omega
          rcases hcase with h1 | h1 | h1 | h1
          · obtain rfl : bi = 0 := by rw [HT.out.2, h1]; rfl
            have hnx : dec l = (decGo ((k + 1) % 4) (S % 2 ^ bitsAt ((k + 1) % 4)) (l.drop (k + 1))).map (out ++ ·) := by
              have e1 : (k + 1) % 4 = 1 := by have := HT.out.1; omega
              rw [HX.out.2.1, HD.out, h1, dec_step0 X x _ HS.out.2.2, ← HS.out.2.1, ← HS.out.1, e1]
            have hbn : (bitsAt ((k + 1) % 4) : Int) = 6 := by
              have e1 : (k + 1) % 4 = 1 := by have := HT.out.1; omega
              rw [e1]; rfl
            have HN := Lib.hid (And.intro hnx hbn)
            clear hnx hbn h1
            go_wp2_with (first
              | (go_at_call 67; go_must (refine (value_any x _).mono ?_); rintro e w2 ⟨he, rfl⟩; rw [← HS.out.2.1] at he; subst he))
            exact ⟨⟨k + 1, S, (k + 1) % 4, 6, out, by omega, by go_num, by omega, rfl, rfl, HN.out.2.symm, rfl, hSb, by omega, HX.out.1, HN.out.1, HX.out.2.2⟩, by simp [intOf]; omega⟩
          · -- t = 1
            have hT : t = 1 := h1
            obtain rfl : bi = 6 := by rw [HT.out.2, hT]; rfl
            obtain ⟨y, hy⟩ : ∃ y, y = byt (S / 16 % 256) := ⟨_, rfl⟩
            have hyv : ((S : Int) / 16) % 256 = (y.toNat : Int) := by
              rw [hy, byteN (by omega)]
              simp only [Int.natCast_emod, Int.natCast_ediv]; rfl
            have hnx : dec l = (decGo ((k + 1) % 4) (S % 2 ^ bitsAt ((k + 1) % 4)) (l.drop (k + 1))).map ((out ++ [y]) ++ ·) := by
              have e1 : (t + 1) % 4 = (k + 1) % 4 := by have := HT.out.1; omega
              have e2 : bitsAt ((t + 1) % 4) = 4 := by rw [hT]; rfl
              rw [HX.out.2.1, HD.out, dec_step t X x _ (by omega) HS.out.2.2, ← HS.out.2.1, ← HS.out.1, Option.map_map, ← e1]
              congr 1
              funext z
              simp [Function.comp, hy, e2]
            have hbn : (bitsAt ((k + 1) % 4) : Int) = 4 := by
              have e1 : (k + 1) % 4 = 2 := by have := HT.out.1; omega
              rw [e1]; rfl
            have HN := Lib.hid (And.intro hnx hbn)
            clear hnx hbn hT h1 hy
            go_wp2_with (first
              | (go_at_call 67; go_must (refine (value_any x _).mono ?_); rintro e w2 ⟨he, rfl⟩; rw [← HS.out.2.1] at he; subst he)
              | ((with_reducible show wpList _ _ _ (⟨some 44, _, _, _, _, _⟩ :: _) _ _); go_must (refine wpList_one E8 rfl (.tmp 43) rfl (by decide) [bv y] (by simp [Act.eval, Value.cells, bv, hyv]) rfl wr.heap.size rfl ?_); intro w3 hB3 hb3)
              | ((with_reducible show wpList _ _ _ (⟨some 45, _, _, _, _, _⟩ :: _) _ _); go_must (refine wpList_pushB E8 rfl (.tmp 39) (.tmp 44) rfl (gt HX.out.2.2 hb3) (own_belowB HX.out.1 hb3) rfl wr.heap.size rfl y hB3 (by omega) ?_); intro v4 w4 hown4 hb4))
            refine ⟨⟨k + 1, S, (k + 1) % 4, 4, out ++ [y], by omega, by go_num, by omega, rfl, rfl, HN.out.2.symm, rfl, hSb, by simp; omega, ?_, HN.out.1, hb4⟩, by simp [intOf]; omega⟩
            rw [List.length_append]
            exact hown4
          · -- t = 2
            have hT : t = 2 := h1
            obtain rfl : bi = 4 := by rw [HT.out.2, hT]; rfl
            obtain ⟨y, hy⟩ : ∃ y, y = byt (S / 4 % 256) := ⟨_, rfl⟩
            have hyv : ((S : Int) / 4) % 256 = (y.toNat : Int) := by
              rw [hy, byteN (by omega)]
              simp only [Int.natCast_emod, Int.natCast_ediv]; rfl
            have hnx : dec l = (decGo ((k + 1) % 4) (S % 2 ^ bitsAt ((k + 1) % 4)) (l.drop (k + 1))).map ((out ++ [y]) ++ ·) := by
              have e1 : (t + 1) % 4 = (k + 1) % 4 := by have := HT.out.1; omega
              have e2 : bitsAt ((t + 1) % 4) = 2 := by rw [hT]; rfl
              rw [HX.out.2.1, HD.out, dec_step t X x _ (by omega) HS.out.2.2, ← HS.out.2.1, ← HS.out.1, Option.map_map, ← e1]
              congr 1
              funext z
              simp [Function.comp, hy, e2]
            have hbn : (bitsAt ((k + 1) % 4) : Int) = 2 := by
              have e1 : (k + 1) % 4 = 3 := by have := HT.out.1; omega
              rw [e1]; rfl
            have HN := Lib.hid (And.intro hnx hbn)
            clear hnx hbn hT h1 hy
            go_wp2_with (first
              | (go_at_call 67; go_must (refine (value_any x _).mono ?_); rintro e w2 ⟨he, rfl⟩; rw [← HS.out.2.1] at he; subst he)
              | ((with_reducible show wpList _ _ _ (⟨some 44, _, _, _, _, _⟩ :: _) _ _); go_must (refine wpList_one E8 rfl (.tmp 43) rfl (by decide) [bv y] (by simp [Act.eval, Value.cells, bv, hyv]) rfl wr.heap.size rfl ?_); intro w3 hB3 hb3)
              | ((with_reducible show wpList _ _ _ (⟨some 45, _, _, _, _, _⟩ :: _) _ _); go_must (refine wpList_pushB E8 rfl (.tmp 39) (.tmp 44) rfl (gt HX.out.2.2 hb3) (own_belowB HX.out.1 hb3) rfl wr.heap.size rfl y hB3 (by omega) ?_); intro v4 w4 hown4 hb4))
            refine ⟨⟨k + 1, S, (k + 1) % 4, 2, out ++ [y], by omega, by go_num, by omega, rfl, rfl, HN.out.2.symm, rfl, hSb, by simp; omega, ?_, HN.out.1, hb4⟩, by simp [intOf]; omega⟩
            rw [List.length_append]
            exact hown4
          · -- t = 3
            have hT : t = 3 := h1
            obtain rfl : bi = 2 := by rw [HT.out.2, hT]; rfl
            obtain ⟨y, hy⟩ : ∃ y, y = byt (S % 256) := ⟨_, rfl⟩
            have hyv : ((S : Int)) % 256 = (y.toNat : Int) := by
              rw [hy, byteN (by omega)]
              simp only [Int.natCast_emod]; rfl
            have hnx : dec l = (decGo ((k + 1) % 4) (S % 2 ^ bitsAt ((k + 1) % 4)) (l.drop (k + 1))).map ((out ++ [y]) ++ ·) := by
              have e1 : (t + 1) % 4 = (k + 1) % 4 := by have := HT.out.1; omega
              have e2 : bitsAt ((t + 1) % 4) = 0 := by rw [hT]; rfl
              rw [HX.out.2.1, HD.out, dec_step t X x _ (by omega) HS.out.2.2, ← HS.out.2.1, ← HS.out.1, Option.map_map, ← e1]
              congr 1
              funext z
              simp [Function.comp, hy, e2]
            have hbn : (bitsAt ((k + 1) % 4) : Int) = 0 := by
              have e1 : (k + 1) % 4 = 0 := by have := HT.out.1; omega
              rw [e1]; rfl
            have HN := Lib.hid (And.intro hnx hbn)
            clear hnx hbn hT h1 hy
            go_wp2_with (first
              | (go_at_call 67; go_must (refine (value_any x _).mono ?_); rintro e w2 ⟨he, rfl⟩; rw [← HS.out.2.1] at he; subst he)
              | ((with_reducible show wpList _ _ _ (⟨some 44, _, _, _, _, _⟩ :: _) _ _); go_must (refine wpList_one E8 rfl (.tmp 43) rfl (by decide) [bv y] (by simp [Act.eval, Value.cells, bv, hyv]) rfl wr.heap.size rfl ?_); intro w3 hB3 hb3)
              | ((with_reducible show wpList _ _ _ (⟨some 45, _, _, _, _, _⟩ :: _) _ _); go_must (refine wpList_pushB E8 rfl (.tmp 39) (.tmp 44) rfl (gt HX.out.2.2 hb3) (own_belowB HX.out.1 hb3) rfl wr.heap.size rfl y hB3 (by omega) ?_); intro v4 w4 hown4 hb4))
            refine ⟨⟨k + 1, S, (k + 1) % 4, 0, out ++ [y], by omega, by go_num, by omega, rfl, rfl, HN.out.2.symm, rfl, hSb, by simp; omega, ?_, HN.out.1, hb4⟩, by simp [intOf]; omega⟩
            rw [List.length_append]
            exact hown4
      · obtain rfl : k = n := by omega
        have hd : dec l = (decGo t (X % 2 ^ bitsAt t) []).map (out ++ ·) := by
          rw [HX.out.2.1, List.drop_of_length_le (by have := HA.out.1; omega)]
        have hcase : t = 0 ∨ t = 2 ∨ t = 3 := by have := HT.out.1; have := HQ.out; omega
        clear hlt ht
        rcases hcase with h1 | h1 | h1
        · obtain rfl : bi = 0 := by rw [HT.out.2, h1]; rfl
          obtain ⟨r, hr⟩ : ∃ r, r = X % 1 := ⟨_, rfl⟩
          have hand : bits .and .u32 (X : Int) 0 = (r : Int) := by
            have := andN X 0 hX (by omega)
            rw [hr]; exact this
          have hdr : dec l = if r = 0 then some out else none := by
            rw [hd, h1, decGo, if_neg (by omega), show X % 2 ^ bitsAt 0 = r by rw [hr]; rfl]
            split <;> simp
          have HR := Lib.hid hdr
          clear hd h1 hr hdr
          by_cases h0 : r = 0
          · have h0i : (r : Int) = 0 := by omega
            go_wp2_with fail
            go_ret2
            rw [HR.out, if_pos h0]
            exact ⟨_, rfl, HX.out.1, HX.out.2.2⟩
          · have h0i : ¬ (r : Int) = 0 := by omega
            go_wp2_with fail
            go_ret2
            rw [HR.out, if_neg h0]
            exact ⟨rfl, HX.out.2.2⟩
        · obtain rfl : bi = 4 := by rw [HT.out.2, h1]; rfl
          obtain ⟨r, hr⟩ : ∃ r, r = X % 16 := ⟨_, rfl⟩
          have hand : bits .and .u32 (X : Int) 15 = (r : Int) := by
            have := andN X 4 hX (by omega)
            rw [hr]; exact this
          have hdr : dec l = if r = 0 then some out else none := by
            rw [hd, h1, decGo, if_neg (by omega), show X % 2 ^ bitsAt 2 = r by rw [hr]; rfl]
            split <;> simp
          have HR := Lib.hid hdr
          clear hd h1 hr hdr
          by_cases h0 : r = 0
          · have h0i : (r : Int) = 0 := by omega
            go_wp2_with fail
            go_ret2
            rw [HR.out, if_pos h0]
            exact ⟨_, rfl, HX.out.1, HX.out.2.2⟩
          · have h0i : ¬ (r : Int) = 0 := by omega
            go_wp2_with fail
            go_ret2
            rw [HR.out, if_neg h0]
            exact ⟨rfl, HX.out.2.2⟩
        · obtain rfl : bi = 2 := by rw [HT.out.2, h1]; rfl
          obtain ⟨r, hr⟩ : ∃ r, r = X % 4 := ⟨_, rfl⟩
          have hand : bits .and .u32 (X : Int) 3 = (r : Int) := by
            have := andN X 2 hX (by omega)
            rw [hr]; exact this
          have hdr : dec l = if r = 0 then some out else none := by
            rw [hd, h1, decGo, if_neg (by omega), show X % 2 ^ bitsAt 3 = r by rw [hr]; rfl]
            split <;> simp
          have HR := Lib.hid hdr
          clear hd h1 hr hdr
          by_cases h0 : r = 0
          · have h0i : (r : Int) = 0 := by omega
            go_wp2_with fail
            go_ret2
            rw [HR.out, if_pos h0]
            exact ⟨_, rfl, HX.out.1, HX.out.2.2⟩
          · have h0i : ¬ (r : Int) = 0 := by omega
            go_wp2_with fail
            go_ret2
            rw [HR.out, if_neg h0]
            exact ⟨rfl, HX.out.2.2⟩
end Go.Proofs.YtoemceehmiaigaaDoor.Seal
