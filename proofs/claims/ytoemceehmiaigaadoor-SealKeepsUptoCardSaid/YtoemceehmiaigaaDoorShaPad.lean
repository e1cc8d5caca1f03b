/- SHA-256's padding: the reference's walk. -/
import Derived.Test.YtoemceehmiaigaaDoorShaList
import Derived.Test.YtoemceehmiaigaaDoorLoan
namespace Go.Proofs.YtoemceehmiaigaaDoor.Sha
open Go.RowKit Go.Proofs.YtoemceehmiaigaaDoor.Mem Go.Proofs.YtoemceehmiaigaaDoor.Loan

def lenV : Value → Nat
  | .slice _ n _ => n
  | _ => 0

theorem pad_step (l : List UInt8) (j : Nat) : (l ++ (0x80 : UInt8) :: List.replicate j 0).map bv ++ [bv 0] = (l ++ (0x80 : UInt8) :: List.replicate (j + 1) 0).map bv := by
  rw [List.replicate_succ']; simp
theorem noughts_iff (n j : Nat) (h : j ≤ noughts n) : ((n + 1 + j) % 64 = 56) ↔ j = noughts n := by
  unfold noughts at *; omega

theorem be_val (L j : Nat) (t : Int) (ht : t = 7 - (j : Int)) (hj : j < 8) : ((L : Int) * 8 / 2 ^ (8 * t).toNat % 256) = (((UInt8.ofNat (8 * L / 2 ^ (56 - 8 * j))).toNat : Nat) : Int) := by
  have e : (8 * t).toNat = 56 - 8 * j := by omega
  rw [e, UInt8.toNat_ofNat', Int.mul_comm]
  simp
theorem be8_step (n j : Nat) (hj : j < 8) : (be8 n).take (j + 1) = (be8 n).take j ++ [UInt8.ofNat (n / 2 ^ (56 - 8 * j))] := by
  rw [take_succ_ (by rw [be8_length]; exact hj)]
  simp [be8]

set_option maxHeartbeats 1600000 in
set_option maxRecDepth 8000 in
theorem padded_any (l : List UInt8) (A : Option Addr) (c : Nat) (w : World) (ha : RB w A l) (hl : l.length ≤ 35184372088832) :
    Calls Tryd.prog 51 #[.slice A l.length c] w fun e w' => ∃ v, e = .returned v ∧ w'.ownsRow w.heap.size 5 1 v (padded l).length ((padded l).map bv) ∧ Below w.heap.size w w' := by
  obtain ⟨L, hL⟩ : ∃ L, L = l.length := ⟨_, rfl⟩
  rw [← hL] at hl ⊢
  have HL := Lib.hid hL
  clear hL
  generalize hH : w.heap.size = H
  have HH := Lib.hid hH
  clear hH
  have HA := Lib.hid ha
  clear ha
  go_enter Tryd.func51, Tryd.ntmps51
  go_wp2_with (first
    | ((with_reducible show wpList _ _ _ (⟨some 8, _, _, _, _, _⟩ :: _) _ _); go_must (refine wpList_app E8 rfl (.tmp 6) (.tmp 7) rfl H _ 0 [] rfl (World.ownsRow_nil w _ _ _) A L c (l.map bv) rfl HA.out.rv (by have := HL.out; simp; omega) (bytes_oneCell l) (by unfold maxLen; omega) (by omega) (by have := HH.out; omega) ?_); intro v1 w1 hown1 hg1 _; replace hg1 : Below H w w1 := below_own (Below.refl _ _) (World.ownsRow_nil w H 5 1) hg1 (by have := HH.out; omega))
    | ((with_reducible show wpList _ _ _ (⟨some 11, _, _, _, _, _⟩ :: _) _ _); go_must (refine wpList_app E8 rfl (.tmp 9) (.tmp 10) rfl H _ _ _ rfl (hown1.alloc _) (some ⟨w1.heap.size, 0, none⟩) 1 1 [bv 128] rfl (rv_new _ _ _) rfl (bytes_oneCell [128]) (by unfold maxLen; omega) (by omega) (by have := HH.out; have := hg1.size; simp; omega) ?_); intro v2 w2 hown2 hg2 _; replace hg2 : Below H w w2 := below_own (hg1.alloc (by have := HH.out; have := hg1.size; omega) _) (hown1.alloc _) hg2 (by have := HH.out; have := hg1.size; simp; omega)))
  have X : w2.ownsRow H 5 1 v2 (L + 1 + 0) ((l ++ (0x80 : UInt8) :: List.replicate 0 0).map bv) ∧ Below H w w2 := ⟨by simpa using hown2, hg2⟩
  have HX := Lib.hid X
  clear X hown1 hg1 hown2 hg2
  have hno : noughts L < 64 := Nat.mod_lt _ (by omega)
  go_loopw [3] (fun v wr => ∃ j : Nat, j ≤ noughts L ∧ wr.ownsRow H 5 1 v (L + 1 + j) ((l ++ (0x80 : UInt8) :: List.replicate j 0).map bv) ∧ Below H w wr)
    (fun v _ => L + 1 + noughts L - lenV v)
  case atStart => exact ⟨0, by omega, HX.out⟩
  case round =>
    clear HX
    obtain ⟨j, hj, hown, hb⟩ := hrel
    obtain ⟨A', n, c', rfl, hn⟩ := own_form hown
    have HXX := Lib.hid (And.intro hown hb)
    have HN := Lib.hid hn
    clear hown hb hn
    have hmod : (n : Int).tmod 64 = ((n % 64 : Nat) : Int) := by rw [Int.tmod_eq_emod_of_nonneg (by omega)]; omega
    by_cases hlt : j < noughts L
    · have h56 : (n % 64 : Nat) ≠ 56 := by
        have := noughts_iff L j hj
        have := HN.out
        omega
      obtain ⟨q, hq⟩ : ∃ q, q = n % 64 := ⟨_, rfl⟩
      rw [← hq] at hmod h56
      have hq2 : ((q : Int) == 56) = false := by simp; omega
      clear hq
      go_wp2_with (first
        | ((with_reducible show wpList _ _ _ (⟨some 18, _, _, _, _, _⟩ :: _) _ _); go_must (refine wpList_app E8 rfl (.tmp 16) (.tmp 17) rfl H _ _ _ rfl (HXX.out.1.alloc _) (some ⟨wr.heap.size, 0, none⟩) 1 1 [bv 0] rfl (rv_new _ _ _) rfl (bytes_oneCell [0]) (by unfold maxLen; omega) (by omega) (by have := HH.out; have := HXX.out.2.size; simp; omega) ?_); intro v3 w3 hown3 hg3 _; replace hg3 : Below H w w3 := below_own (HXX.out.2.alloc (by have := HH.out; have := HXX.out.2.size; omega) _) (HXX.out.1.alloc _) hg3 (by have := HH.out; have := HXX.out.2.size; simp; omega)))
      rw [pad_step] at hown3
      obtain ⟨A3, n3, c3, rfl, hn3⟩ := own_form hown3
      exact ⟨⟨j + 1, by omega, hown3, hg3⟩, by show L + 1 + noughts L - n3 < L + 1 + noughts L - n; have := HN.out; omega⟩
    · have hjn : j = noughts L := by omega
      rw [hjn] at HXX HN
      clear hjn hj hlt
      have h56 : (n % 64 : Nat) = 56 := by
        have := noughts_iff L (noughts L) (Nat.le_refl _)
        have := HN.out
        omega
      rw [h56] at hmod
      go_wp2_with fail
      obtain ⟨S, hS⟩ : ∃ S, S = l ++ (0x80 : UInt8) :: List.replicate (noughts L) 0 := ⟨_, rfl⟩
      rw [← hS] at HXX
      have HSS := Lib.hid hS
      clear hS h56 hmod
      obtain ⟨N, hNN⟩ : ∃ N, N = L + 1 + noughts L := ⟨_, rfl⟩
      rw [← hNN] at HXX
      have HNN := Lib.hid hNN
      have hN1 : N ≤ L + 64 := by omega
      have hN2 : L ≤ N := by omega
      clear hNN HN hno
      go_loopw [3, 5] (fun v i wr => ∃ (j : Nat) (t : Int), j ≤ 8 ∧ t = 7 - (j : Int) ∧ i = .int .i64 t ∧ wr.ownsRow H 5 1 v (N + j) ((S ++ (be8 (8 * L)).take j).map bv) ∧ Below H w wr)
        (fun _ i _ => ((intOf i) + 1).toNat)
      case atStart => exact ⟨0, 7, by omega, by omega, rfl, by simpa using HXX.out.1, HXX.out.2⟩
      case round =>
        clear HXX
        obtain ⟨j, t, hj, ht, rfl, hown, hb⟩ := hrel
        obtain ⟨A', n, c', rfl, hn⟩ := own_form hown
        have HX := Lib.hid (And.intro hown hb)
        have HN := Lib.hid hn
        have HT := Lib.hid ht
        clear hown hb hn
        by_cases hlt : j < 8
        · have ht0 : 0 ≤ t := by omega
          have ht7 : t ≤ 7 := by omega
          obtain ⟨bt, hbt⟩ : ∃ bt, bt = UInt8.ofNat (8 * L / 2 ^ (56 - 8 * j)) := ⟨_, rfl⟩
          have hval := be_val L j t ht hlt
          rw [← hbt] at hval
          have HBT := Lib.hid hbt
          clear ht hbt
          go_wp2_with (first
            | ((with_reducible show wpList _ _ _ (⟨some 34, _, _, _, _, _⟩ :: _) _ _); go_must (refine wpList_app E8 rfl (.tmp 27) (.tmp 33) rfl H _ _ _ rfl (HX.out.1.alloc _) (some ⟨wr.heap.size, 0, none⟩) 1 1 [bv bt] rfl (rv_new _ _ _) rfl (bytes_oneCell [bt]) (by unfold maxLen; omega) (by omega) (by have := HH.out; have := HX.out.2.size; simp; omega) ?_); intro v3 w3 hown3 hg3 _; replace hg3 : Below H w w3 := below_own (HX.out.2.alloc (by have := HH.out; have := HX.out.2.size; omega) _) (HX.out.1.alloc _) hg3 (by have := HH.out; have := HX.out.2.size; simp; omega)))
          have hend : w3.ownsRow H 5 1 v3 (N + (j + 1)) ((S ++ (be8 (8 * L)).take (j + 1)).map bv) := by
            rw [be8_step _ _ hlt, ← HBT.out]
            simpa [Nat.add_assoc] using hown3
          have hT := HT.out
          exact ⟨⟨j + 1, t - 1, by omega, by omega, by go_num, hend, hg3⟩, by simp [intOf]; omega⟩
        · have hj8 : j = 8 := by omega
          rw [hj8] at HX ht
          clear hj8 hlt hj HT
          have ht1 : t = -1 := by omega
          rw [ht1]
          clear ht ht1
          have hpl : (padded l).length = N + 8 := by rw [padded_length, ← HL.out, HNN.out]; omega
          have hpc : padded l = S ++ (be8 (8 * L)).take 8 := by
            rw [List.take_of_length_le (by rw [be8_length]; omega), HSS.out]
            unfold padded
            rw [← HL.out]; simp
          have HPL := Lib.hid (And.intro hpl hpc)
          clear hpl hpc
          go_wp2
          go_ret
          exact ⟨_, rfl, by rw [HPL.out.1, HPL.out.2]; exact HX.out.1, HX.out.2⟩
end Go.Proofs.YtoemceehmiaigaaDoor.Sha
