/- weirlaw04.ShaRoots: the walks of its functions. -/
import Derived.Test.YtoemceehmiaigaaDoorRootsClosed
import Derived.Test.YtoemceehmiaigaaDoorShaFrom
import Derived.Great.BuildSlice
namespace Go.Proofs.YtoemceehmiaigaaDoor.Roots
open Go.RowKit Go.Proofs.YtoemceehmiaigaaDoor.Mem Go.Proofs.YtoemceehmiaigaaDoor.Sha
set_option linter.unusedVariables false

abbrev uv (n : Nat) : Value := .int .u64 (n : Int)
theorem E94 : Elt Tryd.prog 94 22 [.int .u64 0] 8 := Elt.mk1 Tryd.underlying94 (by kernel_rfl) rfl

set_option maxHeartbeats 400000 in
theorem digits_any (n : Nat) (h : n ≤ 18446744073709551615) (w : World) :
    Calls Tryd.prog 49 #[uv n] w fun e w' => ∃ g, e = .returned (.slice (some ⟨g, 0, none⟩) 4 4) ∧ w.heap.size ≤ g ∧ Blk w' g 22 ((dg n).map uv) ∧ Below w.heap.size w w' := by
  have h0 : (0 : Int) ≤ (n : Int) := by omega
  have h1 : (n : Int) ≤ 18446744073709551615 := by omega
  go_enter Tryd.func49, Tryd.ntmps49
  go_wp2
  go_ret
  refine ⟨_, rfl, Nat.le_refl _, ?_, ga (gr w) _⟩
  have := Blk.new w 22 ((dg n).map uv)
  simp only [dg, List.map_cons, List.map_nil, uv, Int.natCast_ediv, Int.natCast_emod] at this ⊢
  exact this

set_option maxHeartbeats 400000 in
theorem whole_any (p deg : Nat) (hp : p < 312) (hd : deg = 2 ∨ deg = 3) (w : World) :
    Calls Tryd.prog 15 #[uv p, .int .i64 (deg : Int)] w fun e w' => e = .returned (uv (wholeF p deg)) ∧ w = w' := by
  have h0 : (0 : Int) ≤ (p : Int) := by omega
  have h1 : (p : Int) ≤ 311 := by omega
  go_enter Tryd.func15, Tryd.ntmps15
  go_wp2
  go_loop [5] (fun v => ∃ n : Nat, 1 ≤ n ∧ n < 19 ∧ v = uv n ∧ ∀ m, 1 ≤ m → m < n → goF p deg m = true) (fun v => 20 - (intOf v).toNat)
  case atStart => exact ⟨1, by omega, by omega, rfl, fun m h1 h2 => by omega⟩
  case round =>
    obtain ⟨n, hn1, hn2, rfl, ha⟩ := hrel
    have HA := Lib.hid ha
    obtain ⟨s, hs⟩ : ∃ s, s = (n + 1) * (n + 1) := ⟨_, rfl⟩
    obtain ⟨c, hc⟩ : ∃ c, c = (n + 1) * (n + 1) * (n + 1) := ⟨_, rfl⟩
    have hs1 : s ≤ 361 := by
      have : (n + 1) * (n + 1) ≤ 19 * 19 := Nat.mul_le_mul (by omega) (by omega)
      omega
    have hc1 : c ≤ 6859 := by
      have : s * (n + 1) ≤ 361 * 19 := Nat.mul_le_mul hs1 (by omega)
      rw [hc, ← hs]; omega
    have hsi : ((n : Int) + 1) * ((n : Int) + 1) = (s : Int) := by rw [hs]; push_cast; rfl
    have hci : (s : Int) * ((n : Int) + 1) = (c : Int) := by rw [hc, hs]; push_cast; rfl
    have HG := Lib.hid (show goF p deg n = (decide (s ≤ p) && (decide (deg = 2) || decide (c ≤ p))) by unfold goF; rw [hs, hc])
    clear ha hs hc
    have hend : ∀ k : Nat, goF p deg n = true → 1 ≤ n + 1 ∧ n + 1 < 19 ∧ ∀ m, 1 ≤ m → m < n + 1 → goF p deg m = true := fun _ hg =>
      ⟨by omega, by have := go_lt hp (by omega) hg; omega, fun m h1 h2 => by
        by_cases hm : m < n
        · exact HA.out m h1 hm
        · obtain rfl : m = n := by omega
          exact hg⟩
    have HE := Lib.hid hend
    clear hend
    rcases hd with rfl | rfl
    · by_cases h2 : (s : Int) ≤ (p : Int)
      · have hg : goF p 2 n = true := by rw [HG.out]; simp; omega
        have HN := Lib.hid (HE.out 0 hg)
        clear hg
        go_wp2
        exact ⟨⟨n + 1, HN.out.1, HN.out.2.1, by go_num, HN.out.2.2⟩, by simp [intOf]; omega⟩
      · have hg : goF p 2 n = false := by rw [HG.out]; simp; omega
        have HN := Lib.hid (whole_is (.inl rfl) hp (by omega) hn1 HA.out hg)
        clear hg
        go_wp2
        go_ret
        exact ⟨by rw [← HN.out]; rfl, rfl⟩
    · by_cases h2 : (s : Int) ≤ (p : Int)
      · by_cases h3 : (c : Int) ≤ (p : Int)
        · have hg : goF p 3 n = true := by rw [HG.out]; simp; omega
          have HN := Lib.hid (HE.out 0 hg)
          clear hg
          go_wp2
          exact ⟨⟨n + 1, HN.out.1, HN.out.2.1, by go_num, HN.out.2.2⟩, by simp [intOf]; omega⟩
        · have hg : goF p 3 n = false := by rw [HG.out]; simp; omega
          have HN := Lib.hid (whole_is (.inr rfl) hp (by omega) hn1 HA.out hg)
          clear hg
          go_wp2
          go_ret
          exact ⟨by rw [← HN.out]; rfl, rfl⟩
      · have hg : goF p 3 n = false := by rw [HG.out]; simp; omega
        have HN := Lib.hid (whole_is (.inr rfl) hp (by omega) hn1 HA.out hg)
        clear hg
        go_wp2
        go_ret
        exact ⟨by rw [← HN.out]; rfl, rfl⟩

set_option maxHeartbeats 400000 in
theorem round_any (n : Nat) (hn : n < 64) (w : World) :
    Calls Tryd.prog 16 #[.int .i64 (n : Int)] w fun e w' => e = .returned (.int .u32 ((K n).toNat : Int)) ∧ Below w.heap.size w w' := by
  have h0 : (0 : Int) ≤ (n : Int) := by omega
  have h1 : (n : Int) < 64 := by omega
  have hkl : (col K 64).length = (col (fun _ => 0) 64).length := by rw [col_length, col_length]
  obtain ⟨ks, hks⟩ : ∃ k, k = col K 64 := ⟨_, rfl⟩
  have hk1 : ∀ v ∈ ks, v.oneCell' = true := by rw [hks]; exact col_one _ _
  have hkn : ks[n]? = some (.int .u32 ((K n).toNat : Int)) := by rw [hks]; exact col_get _ _ _ hn
  rw [← hks] at hkl
  have HK := Lib.hid (And.intro hks hkn)
  clear hks hkn
  go_enter Tryd.func16, Tryd.ntmps16
  go_wp2_with (first
    | (go_at_call 48; go_must (refine (rounds_any _).mono ?_); rintro e w1 ⟨he, hb1⟩; rw [← HK.out.1] at he; subst he)
    | ((with_reducible show wpList _ _ _ (⟨some 3, _, _, _, _, _⟩ :: _) _ _); go_must (refine wpList_allocB (op := ⟨some 3, _, _, _, _, _⟩) A92 rfl rfl w1.heap.size rfl ?_); intro w2 hB2 hb2 hz2)
    | ((with_reducible show wpList _ _ _ (⟨none, .store 92 _ _, _, _, _, _⟩ :: _) _ _); go_must (refine wpList_storeB (op := ⟨none, _, _, _, _, _⟩) A92 rfl _ _ rfl w1.heap.size 0 rfl ks rfl hkl _ _ hB2 (Nat.le_of_eq ((Nat.zero_add _).trans hkl)) hk1 ?_); intro w3 hB3 hg3 hz3; rw [splice_all _ _ hkl] at hB3; have cc := hB3.cell n; rw [HK.out.2] at cc))
  go_ret
  exact ⟨rfl, (hb1.trans (hb2.mono hb1.size)).grown hg3 (by have := hb1.size; have := hb2.size; omega) (fun j hj => by simp at hj; have := hb1.size; omega)⟩

set_option maxHeartbeats 400000 in
theorem round_out (n : Int) (hn : n < 0 ∨ 64 ≤ n) (w : World) :
    Calls Tryd.prog 16 #[.int .i64 n] w fun e w' => e = .returned (.int .u32 0) ∧ Below w.heap.size w w' := by
  have hkl : (col K 64).length = (col (fun _ => 0) 64).length := by rw [col_length, col_length]
  obtain ⟨ks, hks⟩ : ∃ k, k = col K 64 := ⟨_, rfl⟩
  have hk1 : ∀ v ∈ ks, v.oneCell' = true := by rw [hks]; exact col_one _ _
  rw [← hks] at hkl
  have HK := Lib.hid hks
  clear hks
  go_enter Tryd.func16, Tryd.ntmps16
  rcases hn with hn | hn
  all_goals
    go_wp2_with (first
      | (go_at_call 48; go_must (refine (rounds_any _).mono ?_); rintro e w1 ⟨he, hb1⟩; rw [← HK.out] at he; subst he)
      | ((with_reducible show wpList _ _ _ (⟨some 3, _, _, _, _, _⟩ :: _) _ _); go_must (refine wpList_allocB (op := ⟨some 3, _, _, _, _, _⟩) A92 rfl rfl w1.heap.size rfl ?_); intro w2 hB2 hb2 hz2)
      | ((with_reducible show wpList _ _ _ (⟨none, .store 92 _ _, _, _, _, _⟩ :: _) _ _); go_must (refine wpList_storeB (op := ⟨none, _, _, _, _, _⟩) A92 rfl _ _ rfl w1.heap.size 0 rfl ks rfl hkl _ _ hB2 (Nat.le_of_eq ((Nat.zero_add _).trans hkl)) hk1 ?_); intro w3 hB3 hg3 hz3))
    go_ret
    exact ⟨rfl, (hb1.trans (hb2.mono hb1.size)).grown hg3 (by have := hb1.size; have := hb2.size; omega) (fun j hj => by simp at hj; have := hb1.size; omega)⟩

set_option maxHeartbeats 400000 in
theorem start_any (n : Nat) (hn : n < 8) (w : World) (hG : GB w) :
    Calls Tryd.prog 18 #[.int .i64 (n : Int)] w fun e w' => e = .returned (.int .u32 ((Sha.start.at_ n).toNat : Int)) ∧ w = w' := by
  have h0 : (0 : Int) ≤ (n : Int) := by omega
  have h1 : (n : Int) < 8 := by omega
  have cc : w.cell? ⟨0, n, none⟩ = some (.int .u32 ((Sha.start.at_ n).toNat : Int)) := by
    have := hG.1 n (.int .u32 ((Sha.start.at_ n).toNat : Int)) (by
      have : n = 0 ∨ n = 1 ∨ n = 2 ∨ n = 3 ∨ n = 4 ∨ n = 5 ∨ n = 6 ∨ n = 7 := by omega
      rcases this with rfl | rfl | rfl | rfl | rfl | rfl | rfl | rfl <;> rfl)
    rwa [Nat.zero_add] at this
  clear hG
  go_enter Tryd.func18, Tryd.ntmps18
  go_wp2
  go_ret
  exact ⟨rfl, rfl⟩

set_option maxHeartbeats 400000 in
theorem start_out (n : Int) (hn : n < 0 ∨ 8 ≤ n) (w : World) :
    Calls Tryd.prog 18 #[.int .i64 n] w fun e w' => e = .returned (.int .u32 0) ∧ w = w' := by
  go_enter Tryd.func18, Tryd.ntmps18
  rcases hn with hn | hn
  all_goals
    go_wp2
    go_ret
    exact ⟨rfl, rfl⟩

theorem at_uv {l : List Nat} {i : Nat} (h : i < l.length) : (l.map uv)[i]? = some (uv (l.getD i 0)) := by
  rw [List.getElem?_map, List.getElem?_eq_getElem h, List.getD_eq_getElem?_getD, List.getElem?_eq_getElem h]
  rfl
theorem set_uv (l : List Nat) (i v : Nat) : (l.map uv).set i (uv v) = (l.set i v).map uv := by rw [List.map_set]

set_option maxHeartbeats 800000 in
theorem times_any (a b : List Nat) (g1 g2 c1 c2 na nb : Nat) (A K : Nat) (w : World) (h1 : Blk w g1 22 (a.map uv)) (h2 : Blk w g2 22 (b.map uv)) (hna : na = a.length) (hnb : nb = b.length) (hc1 : na ≤ c1) (hc2 : nb ≤ c2)
    (hal : na ≤ 8) (hbl : nb ≤ 4) (ha : ∀ y ∈ a, y ≤ A) (hb : ∀ y ∈ b, y ≤ 65535) (hK : 65535 + K * 13 + A * 65535 ≤ 65536 * K) (hA : A ≤ 2097152) (hK2 : K ≤ 4194304) :
    Calls Tryd.prog 50 #[.slice (some ⟨g1, 0, none⟩) na c1, .slice (some ⟨g2, 0, none⟩) nb c2] w fun e w' => ∃ g, e = .returned (.slice (some ⟨g, 0, none⟩) (na + nb) (na + nb)) ∧ w.heap.size ≤ g ∧ Blk w' g 22 ((mulF a b).map uv) ∧ Below w.heap.size w w' := by
  generalize hH : w.heap.size = H
  obtain ⟨n, hn⟩ : ∃ n, n = na + nb := ⟨_, rfl⟩
  have hni : (na : Int) + (nb : Int) = (n : Int) := by omega
  have hnm : (n : Int) ≤ 12 := by omega
  have hna8 : (na : Int) ≤ 8 := by omega
  have hnb4 : (nb : Int) ≤ 4 := by omega
  have hnn : n ≤ 12 := by omega
  rw [← hn]
  have HN := Lib.hid (And.intro hn (And.intro hna hnb))
  have HB := Lib.hid (And.intro h1 h2)
  have HK := Lib.hid (And.intro ha (And.intro hb hK))
  have hg1 : g1 < H := hH ▸ h1.lt
  have hg2 : g2 < H := hH ▸ h2.lt
  clear hn hna hnb h1 h2 ha hb hK
  go_enter Tryd.func50, Tryd.ntmps50
  go_wp2_with (first
    | (at_make; go_must (refine wpList_make1 E94 rfl (.tmp 16) (.tmp 16) rfl .i64 .i64 _ _ n rfl rfl (by simp <;> omega) (by simp <;> omega) (by omega) (by unfold maxLen; omega) H hH ?_); intro w1 hB1 hb1 hz1))
  have hB1' : Blk w1 H 22 ((mulUpto a b 0).map uv) := by
    have : (mulUpto a b 0).map uv = List.replicate n (.int .u64 0) := by
      rw [mulUpto, List.map_replicate, ← HN.out.2.1, ← HN.out.2.2, HN.out.1]; rfl
    rw [this]; exact hB1
  have HX := Lib.hid (And.intro hB1' hb1)
  clear hB1 hb1 hz1 hB1'
  go_loopw [20] (fun v wr => ∃ i : Nat, i ≤ na ∧ v = .int .i64 i ∧ Blk wr H 22 ((mulUpto a b i).map uv) ∧ Below H w wr) (fun v _ => na - (intOf v).toNat)
  case atStart => exact ⟨0, by omega, rfl, HX.out⟩
  case round =>
    clear HX
    obtain ⟨i, hi, rfl, hB, hb⟩ := hrel
    by_cases hlt : i < na
    · have hil : (i : Int) < (na : Int) := by omega
      have hi0 : (0 : Int) ≤ (i : Int) := by omega
      have hi8 : (i : Int) ≤ 7 := by omega
      obtain ⟨x, hx⟩ : ∃ x, x = a.getD i 0 := ⟨_, rfl⟩
      obtain ⟨c0, hc0⟩ : ∃ c, c = mulUpto a b i := ⟨_, rfl⟩
      have hxA : x ≤ A := by rw [hx]; exact getD_bd HK.out.1 i
      have hc0l : c0.length = n := by rw [hc0, mulUpto_length, HN.out.1, HN.out.2.1, HN.out.2.2]
      have hbd := fun j => mulRow_bd (x := x) (A := A) (E := 65535 + K * i) (K := K) (b := b) (c := c0) i hxA HK.out.2.1 (by rw [hc0]; exact mulUpto_bd HK.out.1 HK.out.2.1 i (by omega) HK.out.2.2) (by omega) (by
        have : K * i ≤ K * 12 := Nat.mul_le_mul_left _ (by omega)
        have := HK.out.2.2
        omega) j
      have hKi : K * i ≤ 4194304 * 7 := Nat.mul_le_mul hK2 (by omega)
      have ca : wr.cell? ⟨g1, i, none⟩ = some (uv x) := by
        rw [(HB.out.1.below (hH ▸ hb) (hH ▸ hg1)).cell i, hx, at_uv (by rw [← HN.out.2.1]; exact hlt)]
      have HBD := Lib.hid hbd
      have HC := Lib.hid (And.intro hx (And.intro hc0 hc0l))
      rw [← hc0] at hB
      have HX := Lib.hid (And.intro hB hb)
      clear hbd hx hc0 hc0l hB hb
      go_wp2_with fail
      clear ca
      go_loopw [8, 27] (fun u v w2 => ∃ j : Nat, j ≤ nb ∧ v = .int .i64 j ∧ u = uv (mulRow x b i c0 j).2 ∧ Blk w2 H 22 ((mulRow x b i c0 j).1.map uv) ∧ Below H w w2) (fun _ v _ => nb - (intOf v).toNat)
      case atStart => exact ⟨0, by omega, rfl, rfl, HX.out.1, HX.out.2⟩
      case round =>

        clear HX
        obtain ⟨j, hj, rfl, rfl, hB, hb⟩ := hrel
        obtain ⟨r, hr⟩ : ∃ r, r = mulRow x b i c0 j := ⟨_, rfl⟩
        have hrl : r.1.length = n := by rw [hr, mulRow_length]; exact HC.out.2.2
        have hbd := HBD.out j
        rw [← hr] at hbd hB ⊢
        by_cases hlj : j < nb
        · obtain ⟨q, hq⟩ : ∃ q, q = i + j := ⟨_, rfl⟩
          have hqi : (i : Int) + (j : Int) = (q : Int) := by omega
          have hq0 : (0 : Int) ≤ (q : Int) := by omega
          have hqn : (q : Int) < (n : Int) := by have := HN.out.1; omega
          have hjl : (j : Int) < (nb : Int) := by omega
          have hj0 : (0 : Int) ≤ (j : Int) := by omega
          obtain ⟨y, hy⟩ : ∃ y, y = b.getD j 0 := ⟨_, rfl⟩
          have hyb : y ≤ 65535 := by rw [hy]; exact getD_bd HK.out.2.1 j
          obtain ⟨t, ht⟩ : ∃ t, t = x * y := ⟨_, rfl⟩
          have htt : t ≤ A * 65535 := by rw [ht]; exact Nat.mul_le_mul hxA hyb
          have hti : (x : Int) * (y : Int) = (t : Int) := by rw [ht]; push_cast; rfl
          obtain ⟨e, he⟩ : ∃ e, e = r.1.getD q 0 := ⟨_, rfl⟩
          have hee : e ≤ 65535 + K * i := by rw [he]; exact getD_bd hbd.1 q
          obtain ⟨k, hk⟩ : ∃ k, k = r.2 := ⟨_, rfl⟩
          have hkk : k ≤ K := by rw [hk]; exact hbd.2
          rw [← hk] at ⊢
          have cb : wr.cell? ⟨g2, j, none⟩ = some (uv y) := by
            rw [(HB.out.2.below (hH ▸ hb) (hH ▸ hg2)).cell j, hy, at_uv (by rw [← HN.out.2.2]; exact hlj)]
          have cc : wr.cell? ⟨H, q, none⟩ = some (uv e) := by
            rw [hB.cell q, he, at_uv (by rw [hrl]; omega)]
          have ff := hB.frozen q
          have hBs := hB.set_ q (uv ((e + t + k) % 65536))
          rw [set_uv] at hBs
          have hstep : mulRow x b i c0 (j + 1) = (r.1.set q ((e + t + k) % 65536), (e + t + k) / 65536) := by
            rw [mulRow, ← hr, mulStep, ← hq, ← he, ← hy, ← ht, ← hk]
          have HS := Lib.hid (And.intro hBs (And.intro hb hstep))
          have e1 : (e : Int) ≤ 4294967295 := by omega
          have e2 : (t : Int) ≤ 1099511627776 := by omega
          have e3 : (k : Int) ≤ 4294967295 := by omega
          have e4 : (0 : Int) ≤ (e : Int) := by omega
          have e5 : (0 : Int) ≤ (t : Int) := by omega
          have e6 : (0 : Int) ≤ (k : Int) := by omega
          clear hr hrl hbd hB hb hq hy hyb ht htt he hee hk hkk hBs hstep hlj
          go_wp2
          refine ⟨⟨j + 1, by omega, by go_num, ?_, ?_, ?_⟩, by simp [intOf]; omega⟩
          · rw [HS.out.2.2]; simp only [uv, Int.natCast_ediv, Int.natCast_emod, Int.natCast_add]; rfl
          · rw [HS.out.2.2]
            have := HS.out.1
            simp only [uv, Int.natCast_ediv, Int.natCast_emod, Int.natCast_add] at this ⊢
            exact this
          · exact HS.out.2.1.setCell (Nat.le_refl _) _
        · obtain rfl : j = nb := by omega
          obtain ⟨q, hq⟩ : ∃ q, q = i + j := ⟨_, rfl⟩
          have hqi : (i : Int) + (j : Int) = (q : Int) := by omega
          have hq0 : (0 : Int) ≤ (q : Int) := by omega
          have hqn : (q : Int) < (n : Int) := by have := HN.out.1; omega
          obtain ⟨e, he⟩ : ∃ e, e = r.1.getD q 0 := ⟨_, rfl⟩
          have hee : e ≤ 65535 + K * i := by rw [he]; exact getD_bd hbd.1 q
          obtain ⟨k, hk⟩ : ∃ k, k = r.2 := ⟨_, rfl⟩
          have hkk : k ≤ K := by rw [hk]; exact hbd.2
          rw [← hk] at ⊢
          have cc : wr.cell? ⟨H, q, none⟩ = some (uv e) := by
            rw [hB.cell q, he, at_uv (by rw [hrl]; omega)]
          have ff := hB.frozen q
          have hBs := hB.set_ q (uv (e + k))
          rw [set_uv] at hBs
          have hstep : mulUpto a b (i + 1) = r.1.set q (e + k) := by
            rw [mulUpto, mulDone, ← HC.out.1, ← HC.out.2.1, ← HN.out.2.2, ← hr, ← hq, ← he, ← hk]
          have HS := Lib.hid (And.intro hBs (And.intro hb hstep))
          have e1 : (e : Int) ≤ 4294967295 := by omega
          have e3 : (k : Int) ≤ 4294967295 := by omega
          have e4 : (0 : Int) ≤ (e : Int) := by omega
          have e6 : (0 : Int) ≤ (k : Int) := by omega
          clear hr hrl hbd hB hb hq he hee hk hkk hBs hstep
          go_wp2
          refine ⟨⟨i + 1, by omega, by go_num, ?_, ?_⟩, by simp [intOf]; omega⟩
          · rw [HS.out.2.2]
            have := HS.out.1
            simp only [uv, Int.natCast_ediv, Int.natCast_emod, Int.natCast_add] at this ⊢
            exact this
          · exact HS.out.2.1.setCell (Nat.le_refl _) _
    · obtain rfl : i = na := by omega
      go_wp2
      go_ret
      refine ⟨H, rfl, Nat.le_refl _, ?_, hb⟩
      rw [mulF, ← HN.out.2.1]; exact hB

set_option maxHeartbeats 800000 in
theorem atMost_any (x p deg : Nat) (d : Int) (hd' : d = (deg : Int)) (hx : x ≤ 18446744073709551615) (hp : p < 312) (hd : deg = 2 ∨ deg = 3) (w : World) :
    Calls Tryd.prog 17 #[uv x, uv p, .int .i64 d] w fun e w' => e = .returned (.bool (atMostF x p deg)) ∧ Below w.heap.size w w' := by
  subst hd'
  have hd2 : (2 : Int) ≤ (deg : Int) := by omega
  have hd3 : (deg : Int) ≤ 3 := by omega
  have hp1 : (p : Int) ≤ 311 := by omega
  have hp0 : (0 : Int) ≤ (p : Int) := by omega
  obtain ⟨d1, hd1⟩ : ∃ k, k = deg - 1 := ⟨_, rfl⟩
  have hdi : (deg : Int) - 1 = (d1 : Int) := by omega
  have HD := Lib.hid (And.intro hd hd1)
  have hd1b : d1 ≤ 2 := by omega
  clear hd hd1
  go_enter Tryd.func17, Tryd.ntmps17
  go_wp2_with (first
    | (go_at_call 49; go_must (refine (digits_any x hx _).mono ?_); rintro e w1 ⟨gz, rfl, hgz, hBz, hb1⟩))
  have HX := Lib.hid (And.intro hBz hb1)
  clear hgz hBz hb1
  go_loopw [7, 14] (fun u v wr => ∃ k g : Nat, k ≤ d1 ∧ v = .int .i64 k ∧ u = .slice (some ⟨g, 0, none⟩) (4 * (k + 1)) (4 * (k + 1)) ∧ Blk wr g 22 ((zF x k).map uv) ∧ Below w.heap.size w wr) (fun _ v _ => d1 - (intOf v).toNat)
  case atStart => exact ⟨0, gz, by omega, rfl, rfl, HX.out.1, HX.out.2⟩
  case round =>
    clear HX
    obtain ⟨k, gz, hk, rfl, rfl, hB, hb⟩ := hrel
    have HX := Lib.hid (And.intro hB hb)
    by_cases hlt : k < d1
    · have hki : (k : Int) < (d1 : Int) := by omega
      have hk0 : (0 : Int) ≤ (k : Int) := by omega
      have hsz : (zF x k).length = 4 * (k + 1) := zF_length x k
      obtain ⟨A, K, hA, hK1, hK2, hK3⟩ : ∃ A K : Nat, (∀ y ∈ zF x k, y ≤ A) ∧ 65535 + K * 13 + A * 65535 ≤ 65536 * K ∧ A ≤ 2097152 ∧ K ≤ 4194304 := by
        have : k = 0 ∨ k = 1 := by omega
        rcases this with rfl | rfl
        · exact ⟨65535, 131072, zF_bd0 hx, by omega, by omega, by omega⟩
        · exact ⟨2097152, 4194304, zF_bd1 hx, by omega, by omega, by omega⟩
      obtain ⟨n, hn⟩ : ∃ n, n = 4 * (k + 1) := ⟨_, rfl⟩
      rw [← hn] at hsz ⊢
      have hn8 : n ≤ 8 := by omega
      have HK := Lib.hid (And.intro hA (And.intro hK1 (And.intro hsz hn)))
      clear hA hK1 hsz hn hB hb hlt
      go_wp2_with (first
        | (go_at_call 49; go_must (refine (digits_any x hx _).mono ?_); rintro e w3 ⟨gd, rfl, hgd, hBd, hb3⟩)
        | (go_at_call 50; go_must (refine (times_any (zF x k) (dg x) gz gd n 4 n 4 A K _ (HX.out.1.grow hb3) hBd HK.out.2.2.1.symm rfl (Nat.le_refl _) (Nat.le_refl _) hn8 (Nat.le_refl _) HK.out.1 (dg_bd hx) HK.out.2.1 hK2 hK3).mono ?_); rintro e w4 ⟨gt4, rfl, hgt4, hBt, hb4⟩))
      refine ⟨⟨k + 1, gt4, by omega, by go_num, ?_, ?_, gt (gt HX.out.2 hb3) hb4⟩, by simp [intOf]; omega⟩
      · rw [HK.out.2.2.2, show 4 * (k + 1) + 4 = 4 * (k + 1 + 1) by omega]
      · exact hBt
    · obtain rfl : k = d1 := by omega
      obtain ⟨n, hn⟩ : ∃ n, n = 4 * (k + 1) := ⟨_, rfl⟩
      have hsz : (zF x k).length = n := by rw [hn]; exact zF_length x k
      rw [← hn]
      have hn12 : n ≤ 12 := by omega
      have hnd : n = 4 * deg := by have := HD.out; omega
      have HN := Lib.hid (And.intro hsz (And.intro hnd hn))
      obtain ⟨z, hz⟩ : ∃ z, z = zF x k := ⟨_, rfl⟩
      have hF : atMostF x p deg = cmpF z p deg n := by unfold atMostF; rw [hz, hnd, HD.out.2]
      rw [← hz] at hB HX HN
      have HF := Lib.hid hF
      have hzb : ∀ e ∈ z, e ≤ 67108864 := by
        rw [hz]
        have : k = 1 ∨ k = 2 := by have := HD.out; omega
        rcases this with rfl | rfl
        · exact fun e he => by have := zF_bd1 hx e he; omega
        · exact zF_bd2 hx
      have HZ := Lib.hid hzb
      clear hn hsz hB hb hnd hz hF hzb hlt hk
      go_wp2_with fail
      have hgz := HX.out.1.lt
      go_loop [8] (fun v => ∃ (m : Nat) (vi : Int), m ≤ n ∧ v = .int .i64 vi ∧ vi = (m : Int) - 1 ∧ cmpF z p deg n = cmpF z p deg m) (fun v => (intOf v + 1).toNat)
      case atStart => exact ⟨n, _, Nat.le_refl _, rfl, by simp, rfl⟩
      case round =>
        obtain ⟨m, vi, hm, rfl, hvi, hcmp⟩ := hrel
        rcases m with _ | m
        · obtain rfl : vi = -1 := by omega
          have hr : cmpF z p deg n = true := hcmp
          have HR := Lib.hid hr
          clear hcmp hvi hr
          go_wp2
          go_ret
          exact ⟨by rw [HF.out, HR.out]; rfl, HX.out.2⟩
        · obtain rfl : vi = (m : Int) := by omega
          obtain ⟨e, he⟩ : ∃ e, e = z.getD m 0 := ⟨_, rfl⟩
          have hcmp' : cmpF z p deg n = if e = (if m = 2 * deg then p else 0) then cmpF z p deg m else decide (e < (if m = 2 * deg then p else 0)) := by rw [hcmp, cmpF, ← he]
          have heb : e ≤ 67108864 := by rw [he]; exact getD_bd HZ.out m
          have cc : wr.cell? ⟨gz, m, none⟩ = some (uv e) := by
            rw [HX.out.1.cell m, he, at_uv (by rw [HN.out.1]; omega)]
          have e0 : (0 : Int) ≤ (e : Int) := by omega
          have e1 : (e : Int) ≤ 67108864 := by omega
          have m0 : (0 : Int) ≤ (m : Int) := by omega
          have mn : (m : Int) < (n : Int) := by omega
          have mn2 : (n : Int) ≤ 12 := by omega
          clear hcmp he hvi
          have HC := Lib.hid hcmp'
          clear hcmp'
          go_wp2
          · have h1 : ((m : Int) == 2 * (deg : Int)) = true := by assumption
            have h2 : ((e : Int) != (p : Int)) = true := by assumption
            simp at h1 h2
            go_ret
            refine ⟨ret_bool ?_, HX.out.2⟩
            rw [HF.out, HC.out, if_pos (show m = 2 * deg by omega), if_neg (show ¬ e = p by omega)]
          · have h1 : ((m : Int) == 2 * (deg : Int)) = true := by assumption
            have h2 : ((e : Int) != (p : Int)) = false := by assumption
            simp at h1 h2
            refine ⟨⟨m, _, by omega, rfl, rfl, ?_⟩, by simp [intOf]⟩
            rw [HC.out, if_pos (show m = 2 * deg by omega), if_pos (show e = p by omega)]
          · have h1 : ((m : Int) == 2 * (deg : Int)) = false := by assumption
            have h2 : ((e : Int) != 0) = true := by assumption
            simp at h1 h2
            go_ret
            refine ⟨ret_bool ?_, HX.out.2⟩
            rw [HF.out, HC.out, if_neg (show ¬ m = 2 * deg by omega), if_neg (show ¬ e = 0 by omega)]
            have : ¬ (e : Int) < 0 := by omega
            simp [this]
          · have h1 : ((m : Int) == 2 * (deg : Int)) = false := by assumption
            have h2 : ((e : Int) != 0) = false := by assumption
            simp at h1 h2
            refine ⟨⟨m, _, by omega, rfl, rfl, ?_⟩, by simp [intOf]⟩
            rw [HC.out, if_neg (show ¬ m = 2 * deg by omega), if_pos (show e = 0 by omega)]
end Go.Proofs.YtoemceehmiaigaaDoor.Roots
