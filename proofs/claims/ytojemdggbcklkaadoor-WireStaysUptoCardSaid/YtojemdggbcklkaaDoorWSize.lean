/- size: a chunk's number. (Printed by mkwsize.py.) -/
import Derived.Test.YtojemdggbcklkaaDoorWNamed
namespace Go.Proofs.YtojemdggbcklkaaDoor.WireR
open Go.RowKit Go.Proofs.YtojemdggbcklkaaDoor.Mem Go.Proofs.YtojemdggbcklkaaDoor.Wire Go.Proofs.YtojemdggbcklkaaDoor.Strs Go.Proofs.YtojemdggbcklkaaDoor.Heads
set_option linter.unusedVariables false
set_option linter.unusedSimpArgs false
set_option maxRecDepth 4000

theorem hex_at (c : UInt8) : Lib.indexByte (⟨#[48, 49, 50, 51, 52, 53, 54, 55, 56, 57, 97, 98, 99, 100, 101, 102]⟩ : ByteArray).data.toList (lowB c) = if hexV c.toNat = 16 then -1 else (hexV c.toNat : Int) := by
  have h3 : ∀ c : UInt8, ((List.range 256).all fun n => Lib.indexByte (⟨#[48, 49, 50, 51, 52, 53, 54, 55, 56, 57, 97, 98, 99, 100, 101, 102]⟩ : ByteArray).data.toList (lowB (UInt8.ofNat n)) == if hexV n = 16 then -1 else (hexV n : Int)) = true := fun _ => by decide +kernel
  have h2 := List.all_eq_true.1 (h3 c) c.toNat (List.mem_range.2 c.toNat_lt)
  simpa using h2
theorem hexV_lt (c : Nat) : hexV c ≤ 16 := by unfold hexV; repeat' split
                                              all_goals omega
theorem hexS_step {l : List UInt8} {k : Nat} (h : k < l.length) : hexS (l.take (k + 1)) = hexS (l.take k) * 16 + hexV l[k].toNat := by
  unfold hexS
  rw [List.take_succ_eq_append_getElem h, List.foldl_append]
  rfl
theorem hexS_lt : ∀ (k : Nat) (l : List UInt8), k ≤ l.length → (l.take k).all hexB = true → hexS (l.take k) < 16 ^ k
  | 0, l, _, _ => by simp [hexS]
  | k + 1, l, h, ha => by
    rw [all_step (by omega), Bool.and_eq_true] at ha
    have ih := hexS_lt k l (by omega) ha.1
    have hx := ha.2
    unfold hexB at hx
    have h1 := hexV_lt (l[k]'(by omega)).toNat
    have h2 : hexV (l[k]'(by omega)).toNat ≠ 16 := by simpa using hx
    rw [hexS_step (by omega), Nat.pow_succ]
    omega
def SizePost (r : Option Nat) (e : Ending) : Prop :=
  match r with
  | none => e = .returned (.tuple #[.int .i64 0, .bool false])
  | some n => e = .returned (.tuple #[.int .i64 (n : Int), .bool true])
theorem size_none {c : Bytes} (h : cutL 59 c = none) : sizeS c = if 1 ≤ c.length ∧ c.length ≤ 8 ∧ c.all hexB = true then some (hexS c) else none := by unfold sizeS; rw [h]
theorem size_some {c d x : Bytes} (h : cutL 59 c = some (d, x)) : sizeS c = if 1 ≤ d.length ∧ d.length ≤ 8 ∧ d.all hexB = true ∧ x.all valB = true then some (hexS d) else none := by unfold sizeS; rw [h]

theorem w64b {x y : Int} (e : x = y) (h0 : 0 ≤ y) (h1 : y ≤ 1152921504606846976) : wrap64 x = y := by
  subst e
  unfold wrap64
  omega
set_option maxHeartbeats 4000000 in
theorem size_any (l : List UInt8) (w : World) (hl : l.length ≤ 1073741824) :
    Calls Tryd.prog 57 #[.string ⟨l.toArray⟩] w fun e w' => SizePost (sizeS l) e ∧ w = w' := by
  obtain ⟨n, hn⟩ : ∃ n, n = l.length := ⟨_, rfl⟩
  obtain ⟨s, hs⟩ : ∃ s, s = (⟨l.toArray⟩ : ByteArray) := ⟨_, rfl⟩
  have hsz : s.size = n := by rw [hs, hn]; simp [ByteArray.size]
  have hni : (n : Int) ≤ 1073741824 := by omega
  obtain ⟨i, hi⟩ : ∃ i, i = Lib.indexByte l 59 := ⟨_, rfl⟩
  have c1 := fun w => Tryd.strings_IndexByte ⟨l.toArray⟩ 59 w
  rw [show (Lib.indexByte (⟨l.toArray⟩ : ByteArray).data.toList (59 : Int).toNat.toUInt8) = i from hi.symm] at c1
  rw [← hs] at c1 ⊢
  have C1 := Lib.hid c1
  clear c1
  cases hcut : cutL 59 l with
  | none =>
    have d0 : decide (0 ≤ i) = false := by rw [hi, indexByte_cut, hcut]; rfl
    have d1 : ¬ 0 ≤ i := of_decide_eq_false d0
    obtain ⟨d, hdl⟩ : ∃ d, d = l := ⟨_, rfl⟩
    have HD := Lib.hid (And.intro (by rw [hdl]; exact hn : n = d.length) (by rw [hdl]; exact hs : s = (⟨d.toArray⟩ : ByteArray)))
    have hp := size_none hcut
    rw [← hn] at hp
    have HP := Lib.hid (by rw [hp, hdl] : sizeS l = if 1 ≤ n ∧ n ≤ 8 ∧ d.all hexB = true then some (hexS d) else none)
    clear hp hcut hi hn hs hl hdl
    by_cases hlen : 1 ≤ n ∧ n ≤ 8
    · have b1 : decide ((n : Int) < 1) = false := by rw [decide_eq_false_iff_not]; omega
      have b2 : decide ((8 : Int) < (n : Int)) = false := by rw [decide_eq_false_iff_not]; omega
      have HL := Lib.hid hlen
      clear hlen
      go_enter Tryd.func57, Tryd.ntmps57
      go_wp2_with (first
        | (go_at_call 48; go_must (refine (C1.out _).mono ?_); rintro e w' ⟨rfl, hw'⟩; rw [hw']; clear hw' w'))
      go_loopw [5, 6] (fun a v wr => ∃ k : Nat, k ≤ n ∧ v = .int .i64 k ∧ a = .int .i64 ((hexS (d.take k) : Nat) : Int) ∧ (d.take k).all hexB = true ∧ wr = w) (fun _ v _ => n - (intOf v).toNat)
      case atStart => exact ⟨0, by omega, rfl, rfl, rfl, rfl⟩
      case round =>
        obtain ⟨k, hk, rfl, rfl, hall, rfl⟩ := hrel
        obtain ⟨V, hV⟩ : ∃ V, V = hexS (d.take k) := ⟨_, rfl⟩
        rw [← hV]
        by_cases hlt : k < n
        · have hkd : k < d.length := by have := HD.out.1; omega
          obtain ⟨x, hx⟩ : ∃ x, x = d[k] := ⟨_, rfl⟩
          have hks : k < s.size := by omega
          have hsx : s[k] = x := by
            have : ∀ s' : ByteArray, s' = (⟨d.toArray⟩ : ByteArray) → ∀ h, s'[k]'h = d[k] := fun s' e h => by subst e; rfl
            rw [hx]; exact this s HD.out.2 hks
          have hVlt : V < 4294967296 := by
            have h1 := hexS_lt k d (by omega) hall
            have h2 : 16 ^ k ≤ 16 ^ 8 := Nat.pow_le_pow_right (by decide) (by have := HL.out.2; omega)
            rw [hV]
            exact Nat.lt_of_lt_of_le h1 h2
          obtain ⟨y, hy⟩ : ∃ y, y = (lowB x).toNat := ⟨_, rfl⟩
          have c4 := fun W => small_any x W
          rw [← hy] at c4
          have c5 := fun W => Tryd.strings_IndexByte ⟨#[48, 49, 50, 51, 52, 53, 54, 55, 56, 57, 97, 98, 99, 100, 101, 102]⟩ (y : Int) W
          rw [show ((y : Int)).toNat.toUInt8 = lowB x by rw [hy, Int.toNat_natCast]; simp, hex_at] at c5
          have hst := all_step (p := hexB) hkd
          have hno := all_not (p := hexB) hkd
          have hsum := hexS_step hkd
          rw [← hx] at hst hno hsum
          rw [hall, Bool.true_and] at hst
          rw [← hV] at hsum
          obtain ⟨z, hz⟩ : ∃ z, z = hexV x.toNat := ⟨_, rfl⟩
          have hz16 : z ≤ 16 := hz ▸ hexV_lt _
          have hzb : hexB x = (z != 16) := by rw [hz]; rfl
          rw [← hz] at c5 hsum
          rw [hzb] at hst hno
          have C4 := Lib.hid c4
          have hki : (k : Int) < (n : Int) := by omega
          have hk0 : (0 : Int) ≤ (k : Int) := by omega
          by_cases h16 : z = 16
          · rw [if_pos h16] at c5
            have C5 := Lib.hid c5
            have hf : d.all hexB = false := hno (by rw [h16]; rfl)
            have HF := Lib.hid hf
            clear c4 c5 hst hno hsum hz hzb hz16 h16 hx hy hall hV hlt hkd hf hVlt
            go_wp2_with (first
              | (go_at_call 71; go_must (refine (C4.out _).mono ?_); rintro e w' ⟨rfl, rfl⟩)
              | (go_at_call 48; go_must (refine (C5.out _).mono ?_); rintro e w' ⟨rfl, rfl⟩))
            go_ret2
            refine ⟨?_, rfl⟩
            rw [HP.out, if_neg (by rw [HF.out]; simp)]
            rfl
          · rw [if_neg h16] at c5
            have C5 := Lib.hid c5
            have HS := Lib.hid (And.intro (hst.trans (show (z != 16) = true by simpa using h16)) hsum)
            obtain ⟨V2, hV2⟩ : ∃ V2 : Nat, V2 = V * 16 + z := ⟨_, rfl⟩
            obtain ⟨V16, hV16⟩ : ∃ V16 : Nat, V16 = V * 16 := ⟨_, rfl⟩
            have e16 : (V : Int) * 16 = (V16 : Int) := by omega
            have e2 : (V16 : Int) + (z : Int) = (V2 : Int) := by omega
            have b16 : (V16 : Int) ≤ 68719476736 := by omega
            have b22 : (V2 : Int) ≤ 68719476752 := by omega
            have b60 : (0 : Int) ≤ (V16 : Int) := by omega
            have b20 : (0 : Int) ≤ (V2 : Int) := by omega
            have bz : decide ((z : Int) < 0) = false := by rw [decide_eq_false_iff_not]; omega
            have bz' : ¬ (z : Int) < 0 := by omega
            have HV := Lib.hid hV2
            have q1 : wrap64 ((V : Int) * 16) = (V16 : Int) := w64b e16 b60 (by omega)
            have q2 : wrap64 ((V16 : Int) + (z : Int)) = (V2 : Int) := w64b e2 b20 (by exact Int.le_trans b22 (by decide))
            clear c4 c5 hst hno hsum hz hzb hz16 h16 hx hy hall hV hlt hkd hVlt hV2 hV16 e16 e2 b16 b22 b60 b20
            go_wp2_with (first
              | (go_at_call 71; go_must (refine (C4.out _).mono ?_); rintro e w' ⟨rfl, rfl⟩)
              | (go_at_call 48; go_must (refine (C5.out _).mono ?_); rintro e w' ⟨rfl, rfl⟩))
            exact ⟨⟨k + 1, by omega, by go_num, by rw [HS.out.2, ← HV.out, q2], HS.out.1, trivial⟩, by simp [intOf]; omega⟩
        · obtain rfl : k = n := by omega
          have hd : d.take k = d := List.take_of_length_le (by have := HD.out.1; omega)
          rw [hd] at hall hV
          have HF := Lib.hid (And.intro hall hV)
          clear hall hV hd hlt
          go_wp2
          go_ret2
          refine ⟨?_, rfl⟩
          rw [HP.out, if_pos ⟨HL.out.1, HL.out.2, HF.out.1⟩, ← HF.out.2]
          rfl
    · have hp2 : sizeS l = none := by rw [HP.out, if_neg (fun h => hlen ⟨h.1, h.2.1⟩)]
      have HQ := Lib.hid hp2
      clear hp2
      by_cases hl1 : n < 1
      · have b1 : decide ((n : Int) < 1) = true := by rw [decide_eq_true_iff]; omega
        clear hlen hl1
        go_enter Tryd.func57, Tryd.ntmps57
        go_wp2_with (first
          | (go_at_call 48; go_must (refine (C1.out _).mono ?_); rintro e w' ⟨rfl, hw'⟩; rw [hw']; clear hw' w'))
        go_ret2
        exact ⟨by rw [HQ.out]; rfl, rfl⟩
      · have b1 : decide ((n : Int) < 1) = false := by rw [decide_eq_false_iff_not]; omega
        have b2 : decide ((8 : Int) < (n : Int)) = true := by rw [decide_eq_true_iff]; omega
        clear hlen hl1
        go_enter Tryd.func57, Tryd.ntmps57
        go_wp2_with (first
          | (go_at_call 48; go_must (refine (C1.out _).mono ?_); rintro e w' ⟨rfl, hw'⟩; rw [hw']; clear hw' w'))
        go_ret2
        exact ⟨by rw [HQ.out]; rfl, rfl⟩
  | some ab =>
    obtain ⟨d, b⟩ := ab
    have him : i = (d.length : Int) := by rw [hi, indexByte_cut, hcut]
    have hlen := cutL_len hcut
    obtain ⟨e1, e2⟩ := ext_two hcut
    obtain ⟨m, hm⟩ : ∃ m, m = d.length := ⟨_, rfl⟩
    obtain ⟨sa, hsa⟩ : ∃ x, x = (⟨d.toArray⟩ : ByteArray) := ⟨_, rfl⟩
    obtain ⟨sb, hsb⟩ : ∃ x, x = (⟨b.toArray⟩ : ByteArray) := ⟨_, rfl⟩
    have hsaz : sa.size = m := by rw [hsa, hm]; simp [ByteArray.size]
    rw [← hs, ← hm, ← hsa] at e1
    rw [← hs, ← hm, ← hsb, ← hn] at e2
    have hbl : b.length ≤ 1073741824 := by omega
    have hmi : (m : Int) + 1 ≤ (n : Int) := by omega
    have hmn : (m : Int) ≤ 1073741824 := by omega
    have hmw : wrap64 ((m : Int) + 1) = (m : Int) + 1 := by unfold wrap64; omega
    have hnm : ¬ n < m := by clear hmw; omega
    have hnm1 : ¬ n < m + 1 := by clear hmw; omega
    obtain rfl : i = (m : Int) := by rw [him, hm]
    have hp := size_some hcut
    rw [← hm] at hp
    have d0 : decide ((0 : Int) ≤ (m : Int)) = true := by simp
    have d1 : (0 : Int) ≤ (m : Int) := Int.natCast_nonneg m
    obtain ⟨bb, hbb⟩ : ∃ x, x = b.all valB := ⟨_, rfl⟩
    have c3 := fun W => allOf_val b W hbl
    rw [← hbb, ← hsb] at c3
    rw [← hbb] at hp
    have C3 := Lib.hid c3
    have HD := Lib.hid (And.intro hm hsa)
    cases bb
    · have hp2 : sizeS l = none := by rw [hp, if_neg (fun h => Bool.noConfusion h.2.2.2)]
      have HQ := Lib.hid hp2
      clear hp hp2 c3 hbb hi him hcut hn hs hl hlen hm hsa hsb hbl
      go_enter Tryd.func57, Tryd.ntmps57
      go_wp2_with (first
        | (go_at_call 48; go_must (refine (C1.out _).mono ?_); rintro e w' ⟨rfl, hw'⟩; rw [hw']; clear hw' w')
        | (go_at_call 50; go_must (refine (C3.out _).mono ?_); rintro e w' ⟨rfl, rfl⟩))
      go_ret2
      exact ⟨by rw [HQ.out]; rfl, rfl⟩
    · have HP := Lib.hid (by rw [hp]; simp : sizeS l = if 1 ≤ m ∧ m ≤ 8 ∧ d.all hexB = true then some (hexS d) else none)
      clear hp c3 hbb hi him hcut hn hs hl hlen hm hsa hsb hbl
      by_cases hlen : 1 ≤ m ∧ m ≤ 8
      · have b1 : decide ((m : Int) < 1) = false := by rw [decide_eq_false_iff_not]; omega
        have b2 : decide ((8 : Int) < (m : Int)) = false := by rw [decide_eq_false_iff_not]; omega
        have HL := Lib.hid hlen
        clear hlen
        go_enter Tryd.func57, Tryd.ntmps57
        go_wp2_with (first
          | (go_at_call 48; go_must (refine (C1.out _).mono ?_); rintro e w' ⟨rfl, hw'⟩; rw [hw']; clear hw' w')
          | (go_at_call 50; go_must (refine (C3.out _).mono ?_); rintro e w' ⟨rfl, rfl⟩))
        go_loopw [5, 6] (fun a v wr => ∃ k : Nat, k ≤ m ∧ v = .int .i64 k ∧ a = .int .i64 ((hexS (d.take k) : Nat) : Int) ∧ (d.take k).all hexB = true ∧ wr = w) (fun _ v _ => m - (intOf v).toNat)
        case atStart => exact ⟨0, by omega, rfl, rfl, rfl, rfl⟩
        case round =>
          obtain ⟨k, hk, rfl, rfl, hall, rfl⟩ := hrel
          obtain ⟨V, hV⟩ : ∃ V, V = hexS (d.take k) := ⟨_, rfl⟩
          rw [← hV]
          by_cases hlt : k < m
          · have hkd : k < d.length := by have := HD.out.1; omega
            obtain ⟨x, hx⟩ : ∃ x, x = d[k] := ⟨_, rfl⟩
            have hks : k < sa.size := by omega
            have hsx : sa[k] = x := by
              have : ∀ s' : ByteArray, s' = (⟨d.toArray⟩ : ByteArray) → ∀ h, s'[k]'h = d[k] := fun s' e h => by subst e; rfl
              rw [hx]; exact this sa HD.out.2 hks
            have hVlt : V < 4294967296 := by
              have h1 := hexS_lt k d (by omega) hall
              have h2 : 16 ^ k ≤ 16 ^ 8 := Nat.pow_le_pow_right (by decide) (by have := HL.out.2; omega)
              rw [hV]
              exact Nat.lt_of_lt_of_le h1 h2
            obtain ⟨y, hy⟩ : ∃ y, y = (lowB x).toNat := ⟨_, rfl⟩
            have c4 := fun W => small_any x W
            rw [← hy] at c4
            have c5 := fun W => Tryd.strings_IndexByte ⟨#[48, 49, 50, 51, 52, 53, 54, 55, 56, 57, 97, 98, 99, 100, 101, 102]⟩ (y : Int) W
            rw [show ((y : Int)).toNat.toUInt8 = lowB x by rw [hy, Int.toNat_natCast]; simp, hex_at] at c5
            have hst := all_step (p := hexB) hkd
            have hno := all_not (p := hexB) hkd
            have hsum := hexS_step hkd
            rw [← hx] at hst hno hsum
            rw [hall, Bool.true_and] at hst
            rw [← hV] at hsum
            obtain ⟨z, hz⟩ : ∃ z, z = hexV x.toNat := ⟨_, rfl⟩
            have hz16 : z ≤ 16 := hz ▸ hexV_lt _
            have hzb : hexB x = (z != 16) := by rw [hz]; rfl
            rw [← hz] at c5 hsum
            rw [hzb] at hst hno
            have C4 := Lib.hid c4
            have hki : (k : Int) < (m : Int) := by omega
            have hk0 : (0 : Int) ≤ (k : Int) := by omega
            by_cases h16 : z = 16
            · rw [if_pos h16] at c5
              have C5 := Lib.hid c5
              have hf : d.all hexB = false := hno (by rw [h16]; rfl)
              have HF := Lib.hid hf
              clear c4 c5 hst hno hsum hz hzb hz16 h16 hx hy hall hV hlt hkd hf hVlt
              go_wp2_with (first
                | (go_at_call 71; go_must (refine (C4.out _).mono ?_); rintro e w' ⟨rfl, rfl⟩)
                | (go_at_call 48; go_must (refine (C5.out _).mono ?_); rintro e w' ⟨rfl, rfl⟩))
              go_ret2
              refine ⟨?_, rfl⟩
              rw [HP.out, if_neg (by rw [HF.out]; simp)]
              rfl
            · rw [if_neg h16] at c5
              have C5 := Lib.hid c5
              have HS := Lib.hid (And.intro (hst.trans (show (z != 16) = true by simpa using h16)) hsum)
              obtain ⟨V2, hV2⟩ : ∃ V2 : Nat, V2 = V * 16 + z := ⟨_, rfl⟩
              obtain ⟨V16, hV16⟩ : ∃ V16 : Nat, V16 = V * 16 := ⟨_, rfl⟩
              have e16 : (V : Int) * 16 = (V16 : Int) := by omega
              have e2 : (V16 : Int) + (z : Int) = (V2 : Int) := by omega
              have b16 : (V16 : Int) ≤ 68719476736 := by omega
              have b22 : (V2 : Int) ≤ 68719476752 := by omega
              have b60 : (0 : Int) ≤ (V16 : Int) := by omega
              have b20 : (0 : Int) ≤ (V2 : Int) := by omega
              have bz : decide ((z : Int) < 0) = false := by rw [decide_eq_false_iff_not]; omega
              have bz' : ¬ (z : Int) < 0 := by omega
              have HV := Lib.hid hV2
              have q1 : wrap64 ((V : Int) * 16) = (V16 : Int) := w64b e16 b60 (by omega)
              have q2 : wrap64 ((V16 : Int) + (z : Int)) = (V2 : Int) := w64b e2 b20 (by exact Int.le_trans b22 (by decide))
              clear c4 c5 hst hno hsum hz hzb hz16 h16 hx hy hall hV hlt hkd hVlt hV2 hV16 e16 e2 b16 b22 b60 b20
              go_wp2_with (first
                | (go_at_call 71; go_must (refine (C4.out _).mono ?_); rintro e w' ⟨rfl, rfl⟩)
                | (go_at_call 48; go_must (refine (C5.out _).mono ?_); rintro e w' ⟨rfl, rfl⟩))
              exact ⟨⟨k + 1, by omega, by go_num, by rw [HS.out.2, ← HV.out, q2], HS.out.1, trivial⟩, by simp [intOf]; omega⟩
          · obtain rfl : k = m := by omega
            have hd : d.take k = d := List.take_of_length_le (by have := HD.out.1; omega)
            rw [hd] at hall hV
            have HF := Lib.hid (And.intro hall hV)
            clear hall hV hd hlt
            go_wp2
            go_ret2
            refine ⟨?_, rfl⟩
            rw [HP.out, if_pos ⟨HL.out.1, HL.out.2, HF.out.1⟩, ← HF.out.2]
            rfl
      · have hp2 : sizeS l = none := by rw [HP.out, if_neg (fun h => hlen ⟨h.1, h.2.1⟩)]
        have HQ := Lib.hid hp2
        clear hp2
        by_cases hl1 : m < 1
        · have b1 : decide ((m : Int) < 1) = true := by rw [decide_eq_true_iff]; omega
          clear hlen hl1
          go_enter Tryd.func57, Tryd.ntmps57
          go_wp2_with (first
            | (go_at_call 48; go_must (refine (C1.out _).mono ?_); rintro e w' ⟨rfl, hw'⟩; rw [hw']; clear hw' w')
            | (go_at_call 50; go_must (refine (C3.out _).mono ?_); rintro e w' ⟨rfl, rfl⟩))
          go_ret2
          exact ⟨by rw [HQ.out]; rfl, rfl⟩
        · have b1 : decide ((m : Int) < 1) = false := by rw [decide_eq_false_iff_not]; omega
          have b2 : decide ((8 : Int) < (m : Int)) = true := by rw [decide_eq_true_iff]; omega
          clear hlen hl1
          go_enter Tryd.func57, Tryd.ntmps57
          go_wp2_with (first
            | (go_at_call 48; go_must (refine (C1.out _).mono ?_); rintro e w' ⟨rfl, hw'⟩; rw [hw']; clear hw' w')
            | (go_at_call 50; go_must (refine (C3.out _).mono ?_); rintro e w' ⟨rfl, rfl⟩))
          go_ret2
          exact ⟨by rw [HQ.out]; rfl, rfl⟩
end Go.Proofs.YtojemdggbcklkaaDoor.WireR
