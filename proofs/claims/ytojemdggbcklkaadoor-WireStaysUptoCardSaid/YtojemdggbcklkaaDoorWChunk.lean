/- weirref28.chunk: a chunk's number. (Printed by mkwchunk.py.) -/
import Derived.Test.YtojemdggbcklkaaDoorWSize
import Derived.Test.YtojemdggbcklkaaDoorWRFields
namespace Go.Proofs.YtojemdggbcklkaaDoor.WireR
open Go.RowKit Go.Proofs.YtojemdggbcklkaaDoor.Mem Go.Proofs.YtojemdggbcklkaaDoor.Wire Go.Proofs.YtojemdggbcklkaaDoor.Strs Go.Proofs.YtojemdggbcklkaaDoor.Heads
set_option linter.unusedVariables false
set_option linter.unusedSimpArgs false
set_option maxRecDepth 4000

theorem hex_no59 {l : Bytes} (h : l.all hexB = true) : (59 : UInt8) ∉ l := fun hm => by
  have := List.all_eq_true.1 h 59 hm
  revert this
  decide
theorem hex_low (c : Nat) : hexV c = if 48 ≤ lowN c ∧ lowN c ≤ 57 then lowN c - 48 else if 97 ≤ lowN c ∧ lowN c ≤ 102 then lowN c - 97 + 10 else 16 := by
  unfold hexV lowN
  repeat' split
  all_goals omega
theorem size_at {l : Bytes} {k : Nat} (hk : k ≤ l.length) (hall : (l.take k).all hexB = true) (hend : k = l.length ∨ 8 < k ∨ ∃ h : k < l.length, hexB l[k] = false) :
    sizeS l = if 1 ≤ k ∧ k ≤ 8 ∧ (∀ h : k < l.length, l[k] = 59) ∧ (l.drop k).all valB = true then some (hexS (l.take k)) else none := by
  have hno := hex_no59 hall
  have hge : ∀ {d x : Bytes}, cutL 59 l = some (d, x) → k ≤ d.length := fun {d x} h => by
    rcases Nat.lt_or_ge d.length k with h1 | h1
    · exfalso
      apply hno
      have e := (cutL_some h).1
      have h2 : l[d.length]? = some 59 := by rw [e, List.getElem?_append_right (Nat.le_refl _)]; simp
      have h3 : (l.take k)[d.length]? = some 59 := by rw [List.getElem?_take_of_lt h1]; exact h2
      exact List.mem_of_getElem? h3
    · exact h1
  by_cases h8 : 8 < k
  · rw [if_neg (fun h => by omega)]
    cases hc : cutL 59 l with
    | none => rw [size_none hc, if_neg (fun h => by omega)]
    | some p => obtain ⟨d, x⟩ := p; rw [size_some hc, if_neg (fun h => by have := hge hc; omega)]
  · rcases hend with h | h | ⟨h, hx⟩
    · have ht : l.take k = l := List.take_of_length_le (by omega)
      rw [ht] at hall hno ⊢
      rw [size_none (cutL_not hno)]
      have hd : l.drop k = [] := List.drop_of_length_le (by omega)
      rw [hd]
      by_cases h1 : 1 ≤ k
      · rw [if_pos ⟨by omega, by omega, hall⟩, if_pos ⟨h1, by omega, fun h => by omega, rfl⟩]
      · rw [if_neg (fun h => by omega), if_neg (fun h => h1 h.1)]
    · omega
    · have e : l = l.take k ++ l[k] :: l.drop (k + 1) := by rw [← List.drop_eq_getElem_cons h, List.take_append_drop]
      have hdk : l.drop k = l[k] :: l.drop (k + 1) := List.drop_eq_getElem_cons h
      have hlk : (l.take k).length = k := by rw [List.length_take]; omega
      by_cases h59 : l[k] = 59
      · have hc : cutL 59 l = some (l.take k, l.drop (k + 1)) := by
          have h2 := cutL_of (c := 59) (b := l.drop (k + 1)) hno
          rw [h59] at e
          rwa [← e] at h2
        rw [size_some hc, hlk, hdk, List.all_cons, h59]
        have hv : valB 59 = true := by decide
        rw [hv, Bool.true_and]
        by_cases hh : 1 ≤ k ∧ k ≤ 8 ∧ (l.drop (k + 1)).all valB = true
        · rw [if_pos ⟨hh.1, hh.2.1, hall, hh.2.2⟩, if_pos ⟨hh.1, hh.2.1, fun _ => h59, hh.2.2⟩]
        · rw [if_neg (fun h => hh ⟨h.1, h.2.1, h.2.2.2⟩), if_neg (fun h => hh ⟨h.1, h.2.1, h.2.2.2⟩)]
      · rw [if_neg (fun h2 => h59 (h2.2.2.1 h))]
        cases hc : cutL 59 l with
        | none => rw [size_none hc, if_neg (fun h2 => by rw [all_not h hx] at h2; exact absurd h2.2.2 (by simp))]
        | some p =>
          obtain ⟨d, x⟩ := p
          rw [size_some hc, if_neg]
          intro h2
          have hd := hge hc
          have e2 := (cutL_some hc).1
          rcases Nat.lt_or_ge k d.length with h3 | h3
          · have h4 : l[k]? = some d[k] := by rw [e2, List.getElem?_append_left h3, List.getElem?_eq_getElem h3]
            have h5 : l[k] = d[k] := by rw [List.getElem?_eq_getElem h] at h4; injection h4
            rw [h5] at hx
            rw [all_not h3 hx] at h2
            exact absurd h2.2.2.1 (by simp)
          · have h6 : k = d.length := by omega
            have h4 : l[k]? = some 59 := by rw [e2, h6, List.getElem?_append_right (Nat.le_refl _)]; simp
            apply h59
            rw [List.getElem?_eq_getElem h] at h4
            injection h4
def ChunkPost (r : Option Nat) (e : Ending) : Prop :=
  match r with
  | none => e = .returned (.int .i64 (-1))
  | some n => e = .returned (.int .i64 (n : Int))
theorem cp_none {r : Option Nat} {e : Ending} (h : r = none) (he : e = .returned (.int .i64 (-1))) : ChunkPost r e := by rw [h]; exact he
theorem cp_some {r : Option Nat} {n : Nat} {e : Ending} (h : r = some n) (he : e = .returned (.int .i64 (n : Int))) : ChunkPost r e := by rw [h]; exact he
theorem u8sub {y z m : Nat} (h : y = z + m) (hy : y < 256) : IntKind.u8.wrap ((y : Int) - (m : Int)) = (z : Int) := by
  simp [IntKind.wrap, IntKind.bits, IntKind.signed]; omega
theorem size_mod {y z m : Nat} (h : y = z + m) (hy : y < 256) : ((y : Int) - (m : Int)) % 256 = (z : Int) := by omega
set_option maxHeartbeats 8000000 in
theorem chunk_any (l : List UInt8) (w : World) (hl : l.length ≤ 65536) :
    Calls Tryd.prog 66 #[.string ⟨l.toArray⟩] w fun e w' => ChunkPost (sizeS l) e ∧ w = w' := by
  obtain ⟨n, hn⟩ : ∃ n, n = l.length := ⟨_, rfl⟩
  obtain ⟨s, hs⟩ : ∃ s, s = (⟨l.toArray⟩ : ByteArray) := ⟨_, rfl⟩
  have hsz : s.size = n := by rw [hs, hn]; simp [ByteArray.size]
  have hni : (n : Int) ≤ 65536 := by omega
  have HD := Lib.hid (And.intro hn (And.intro hs hl))
  rw [← hs]
  clear hn hs hl
  go_enter Tryd.func66, Tryd.ntmps66
  go_wp2
  go_loopw [3, 4] (fun a v wr => ∃ k : Nat, k ≤ n ∧ k ≤ 9 ∧ v = .int .i64 k ∧ a = .int .i64 ((hexS (l.take k) : Nat) : Int) ∧ (l.take k).all hexB = true ∧ wr = w) (fun _ v _ => n - (intOf v).toNat)
  case atStart => exact ⟨0, by omega, by omega, rfl, rfl, rfl, rfl⟩
  case round =>
    obtain ⟨k, hk, hk9, rfl, rfl, hall, rfl⟩ := hrel
    have hval : Calls Tryd.prog 79 #[.string ⟨(l.drop k).toArray⟩] wr fun e w' => e = .returned (.bool ((l.drop k).all valB)) ∧ wr = w' := rvalue_any (l.drop k) wr (by rw [List.length_drop]; have := HD.out; omega)
    obtain ⟨bv, hbv⟩ : ∃ b, b = (l.drop k).all valB := ⟨_, rfl⟩
    obtain ⟨sd, hsd⟩ : ∃ x, x = (⟨(l.drop k).toArray⟩ : ByteArray) := ⟨_, rfl⟩
    have hsl : s.extract k n = sd := by rw [HD.out.2.1, HD.out.1, ext_drop, hsd]
    rw [← hbv, ← hsd] at hval
    have HV := Lib.hid hval
    clear hval
    obtain ⟨V, hV⟩ : ∃ V, V = hexS (l.take k) := ⟨_, rfl⟩
    rw [← hV]
    have hk0 : (0 : Int) ≤ (k : Int) := by omega
    have hnk : ¬ n < k := by omega
    by_cases hlt : k < n
    · have hkl : k < l.length := by have := HD.out.1; omega
      obtain ⟨x, hx⟩ : ∃ x, x = l[k] := ⟨_, rfl⟩
      have hks : k < s.size := by omega
      have hsx : s[k] = x := by
        have : ∀ s' : ByteArray, s' = (⟨l.toArray⟩ : ByteArray) → ∀ h, s'[k]'h = l[k] := fun s' e h => by subst e; rfl
        rw [hx]; exact this s HD.out.2.1 hks
      have hki : (k : Int) < (n : Int) := by omega
      have bkn : decide ((k : Int) < (n : Int)) = true := decide_eq_true hki
      by_cases h9 : k < 9
      · have b9 : decide ((k : Int) < 9) = true := by rw [decide_eq_true_iff]; omega
        obtain ⟨y, hy⟩ : ∃ y, y = (lowB x).toNat := ⟨_, rfl⟩
        have c4 := fun W => lower_any x W
        rw [← hy] at c4
        have C4 := Lib.hid c4
        have hy2 : y = lowN x.toNat := by rw [hy, lowB_toNat]
        have hhx := hex_low x.toNat
        rw [← hy2] at hhx
        have hy256 : y < 256 := by rw [hy]; exact (lowB x).toNat_lt
        have hst := all_step (p := hexB) hkl
        have hsum := hexS_step hkl
        rw [← hx] at hst hsum
        rw [hall, Bool.true_and] at hst
        rw [← hV] at hsum
        have hVlt : V < 16 ^ 9 := by
          have h1 := hexS_lt k l (by omega) hall
          have h2 : 16 ^ k ≤ 16 ^ 9 := Nat.pow_le_pow_right (by decide) (by omega)
          rw [hV]
          exact Nat.lt_of_lt_of_le h1 h2
        have hVlt2 : V < 68719476736 := by simpa using hVlt
        clear hVlt c4
        obtain ⟨g1, hg1⟩ : ∃ b, decide ((48 : Int) ≤ (y : Int)) = b := ⟨_, rfl⟩
        obtain ⟨g2, hg2⟩ : ∃ b, decide ((y : Int) ≤ 57) = b := ⟨_, rfl⟩
        obtain ⟨g3, hg3⟩ : ∃ b, decide ((97 : Int) ≤ (y : Int)) = b := ⟨_, rfl⟩
        obtain ⟨g4, hg4⟩ : ∃ b, decide ((y : Int) ≤ 102) = b := ⟨_, rfl⟩
        obtain ⟨V16, hV16⟩ : ∃ V16 : Nat, V16 = V * 16 := ⟨_, rfl⟩
        have e16 : (V : Int) * 16 = (V16 : Int) := by omega
        have b60 : (0 : Int) ≤ (V16 : Int) := by omega
        have b16 : (V16 : Int) ≤ 1152921504606846976 := by omega
        have q1 := w64b e16 b60 b16
        by_cases hdig : 48 ≤ y ∧ y ≤ 57
        · rw [if_pos hdig] at hhx
          obtain rfl : g1 = true := by rw [← hg1, decide_eq_true_iff]; clear q1; omega
          obtain rfl : g2 = true := by rw [← hg2, decide_eq_true_iff]; clear q1; omega
          obtain ⟨z, hz⟩ : ∃ z, z = y - 48 := ⟨_, rfl⟩
          rw [← hz] at hhx
          have hzy : y = z + 48 := by clear q1; omega
          have hz16 : z < 16 := by clear q1; omega
          have hhex : hexB x = true := by unfold hexB; rw [hhx]; simp; clear q1; omega
          rw [hhx] at hsum
          have HS := Lib.hid (And.intro (hst.trans hhex) hsum)
          obtain ⟨V2, hV2⟩ : ∃ V2 : Nat, V2 = V * 16 + z := ⟨_, rfl⟩
          have e2 : (V16 : Int) + (z : Int) = (V2 : Int) := by clear q1; omega
          have b20 : (0 : Int) ≤ (V2 : Int) := by clear q1; omega
          have b22 : (V2 : Int) ≤ 1152921504606846976 := by clear q1; omega
          have q2 := w64b e2 b20 b22
          have q3 : IntKind.u8.wrap ((y : Int) - 48) = (z : Int) := u8sub (m := 48) hzy hy256
          have q4 : ((y : Int) - 48) % 256 = (z : Int) := size_mod (m := 48) hzy hy256
          have HQ := Lib.hid (And.intro hV2 (And.intro hlt h9))
          clear hg3 hg4 hy hy2 hhx hy256 hst hsum hVlt2 hV16 e16 b60 b16 hzy hz16 hhex hV2 e2 b20 b22 hV hbv hsd hsl hx hdig hz hall hlt hkl h9
          go_wp2_with (first
            | (go_at_call 65; go_must (refine (C4.out _).mono ?_); rintro e w' ⟨rfl, rfl⟩))
          exact ⟨⟨k + 1, by have := HQ.out.2; omega, by have := HQ.out.2; omega, by go_num, by rw [HS.out.2, ← HQ.out.1, q2], HS.out.1, trivial⟩, by simp [intOf]; omega⟩
        · rw [if_neg hdig] at hhx
          by_cases hlet : 97 ≤ y ∧ y ≤ 102
          · rw [if_pos hlet] at hhx
            obtain rfl : g3 = true := by rw [← hg3, decide_eq_true_iff]; clear q1; omega
            obtain rfl : g4 = true := by rw [← hg4, decide_eq_true_iff]; clear q1; omega
            obtain rfl : g1 = true := by rw [← hg1, decide_eq_true_iff]; clear q1; omega
            obtain rfl : g2 = false := by rw [← hg2, decide_eq_false_iff_not]; clear q1; omega
            obtain ⟨z, hz⟩ : ∃ z, z = y - 97 := ⟨_, rfl⟩
            rw [← hz] at hhx
            have hzy : y = z + 97 := by clear q1; omega
            have hz16 : z < 6 := by clear q1; omega
            have hhex : hexB x = true := by unfold hexB; rw [hhx]; simp; clear q1; omega
            rw [hhx] at hsum
            have HS := Lib.hid (And.intro (hst.trans hhex) hsum)
            obtain ⟨V2, hV2⟩ : ∃ V2 : Nat, V2 = V16 + z := ⟨_, rfl⟩
            obtain ⟨V3, hV3⟩ : ∃ V3 : Nat, V3 = V2 + 10 := ⟨_, rfl⟩
            have e2 : (V16 : Int) + (z : Int) = (V2 : Int) := by clear q1; omega
            have b20 : (0 : Int) ≤ (V2 : Int) := by clear q1; omega
            have b22 : (V2 : Int) ≤ 1152921504606846976 := by clear q1; omega
            have e3 : (V2 : Int) + 10 = (V3 : Int) := by clear q1; omega
            have b30 : (0 : Int) ≤ (V3 : Int) := by clear q1; omega
            have b32 : (V3 : Int) ≤ 1152921504606846976 := by clear q1; omega
            have HQ := Lib.hid (And.intro (show V3 = V * 16 + (z + 10) by clear q1; omega) (And.intro hlt h9))
            have q2 := w64b e2 b20 b22
            have q5 := w64b e3 b30 b32
            have q3 : IntKind.u8.wrap ((y : Int) - 97) = (z : Int) := u8sub (m := 97) hzy hy256
            have q4 : ((y : Int) - 97) % 256 = (z : Int) := size_mod (m := 97) hzy hy256
            clear hy hy2 hhx hy256 hst hsum hVlt2 hV16 e16 b60 b16 hzy hz16 hhex hV2 e2 b20 b22 hV hbv hsd hsl hx hdig hlet hz hall hlt hkl h9 hV3 e3 b30 b32
            go_wp2_with (first
              | (go_at_call 65; go_must (refine (C4.out _).mono ?_); rintro e w' ⟨rfl, rfl⟩))
            exact ⟨⟨k + 1, by have := HQ.out.2; omega, by have := HQ.out.2; omega, by go_num, by rw [HS.out.2, ← HQ.out.1, q5], HS.out.1, trivial⟩, by simp [intOf]; omega⟩
          · rw [if_neg hlet] at hhx
            have hnh : hexB x = false := by unfold hexB; rw [hhx]; rfl
            have HP := Lib.hid (size_at (by omega) hall (.inr (.inr ⟨hkl, by rw [← hx]; exact hnh⟩)))
            have q1 : (g1 && g2) = false := by
              rw [← hg1, ← hg2, Bool.and_eq_false_iff, decide_eq_false_iff_not, decide_eq_false_iff_not]; clear q1; omega
            have q2 : (g3 && g4) = false := by
              rw [← hg3, ← hg4, Bool.and_eq_false_iff, decide_eq_false_iff_not, decide_eq_false_iff_not]; clear q1; omega
            have hk8 : k ≤ 8 := by omega
            clear hhx hnh hdig hlet hy hy2 hy256 hst hsum hVlt2 hV16 e16 b60 b16 h9 hlt
            cases g1 <;> cases g2 <;> cases g3 <;> cases g4 <;> first | (exact absurd q1 (by decide)) | (exact absurd q2 (by decide)) | skip
            all_goals clear q1 q2
            all_goals (
              by_cases h0 : k = 0
              · have b0 : ((k : Int) == 0) = true := by simp; omega
                have HN := Lib.hid (show sizeS l = none by rw [HP.out, if_neg (fun h => by omega)])
                clear hV hbv hsd hall hx hkl h0 hk8
                go_wp2_with (first
                  | (go_at_call 65; go_must (refine (C4.out _).mono ?_); rintro e w' ⟨rfl, hw'⟩; rw [← hw']; clear hw' w')
                  | (go_at_call 79; go_must (refine (HV.out).mono ?_); rintro e w' ⟨rfl, hw'⟩; rw [← hw']; clear hw' w'))
                go_ret
                exact ⟨cp_none HN.out rfl, rfl⟩
              · have b0 : ((k : Int) == 0) = false := by rw [beq_eq_false_iff_ne]; omega
                have b8 : decide ((8 : Int) < (k : Int)) = false := by rw [decide_eq_false_iff_not]; omega
                by_cases h59 : x = 59
                · have b59 : ((x.toNat : Int) != 59) = false := by rw [h59]; rfl
                  have HX := Lib.hid (show ∀ h : k < l.length, l[k] = 59 from fun h => by rw [← hx, h59])
                  cases bv
                  · have HN := Lib.hid (show sizeS l = none by rw [HP.out, if_neg (fun h => by rw [← hbv] at h; exact absurd h.2.2.2 (by simp))])
                    clear hV hbv hsd hall hx hkl h0 hk8 h59
                    go_wp2_with (first
                      | (go_at_call 65; go_must (refine (C4.out _).mono ?_); rintro e w' ⟨rfl, hw'⟩; rw [← hw']; clear hw' w')
                      | (go_at_call 79; go_must (refine (HV.out).mono ?_); rintro e w' ⟨rfl, hw'⟩; rw [← hw']; clear hw' w'))
                    go_ret
                    exact ⟨cp_none HN.out rfl, rfl⟩
                  · have HN := Lib.hid (show sizeS l = some V by rw [HP.out, if_pos ⟨by omega, by omega, HX.out, hbv.symm⟩, hV])
                    clear hV hbv hsd hall hx hkl h0 hk8 h59
                    go_wp2_with (first
                      | (go_at_call 65; go_must (refine (C4.out _).mono ?_); rintro e w' ⟨rfl, hw'⟩; rw [← hw']; clear hw' w')
                      | (go_at_call 79; go_must (refine (HV.out).mono ?_); rintro e w' ⟨rfl, hw'⟩; rw [← hw']; clear hw' w'))
                    go_ret
                    exact ⟨cp_some HN.out rfl, rfl⟩
                · have b59 : ((x.toNat : Int) != 59) = true := by
                    rw [bne_iff_ne]; intro h; exact h59 (UInt8.toNat_inj.1 (by show x.toNat = 59; omega))
                  have HN := Lib.hid (show sizeS l = none by rw [HP.out, if_neg (fun h => h59 (by rw [hx]; exact h.2.2.1 hkl))])
                  clear hV hbv hsd hall hx hkl h0 hk8 h59
                  go_wp2_with (first
                    | (go_at_call 65; go_must (refine (C4.out _).mono ?_); rintro e w' ⟨rfl, hw'⟩; rw [← hw']; clear hw' w')
                    | (go_at_call 79; go_must (refine (HV.out).mono ?_); rintro e w' ⟨rfl, hw'⟩; rw [← hw']; clear hw' w'))
                  go_ret
                  exact ⟨cp_none HN.out rfl, rfl⟩
              )
      · have b9 : decide ((k : Int) < 9) = false := by rw [decide_eq_false_iff_not]; omega
        have HP := Lib.hid (size_at (by omega) hall (.inr (.inl (by omega))))
        have b0 : ((k : Int) == 0) = false := by rw [beq_eq_false_iff_ne]; omega
        have b8 : decide ((8 : Int) < (k : Int)) = true := by rw [decide_eq_true_iff]; omega
        have HN := Lib.hid (show sizeS l = none by rw [HP.out, if_neg (fun h => by omega)])
        clear hV hbv hsd hall hx hkl h9 hlt
        go_wp2_with (first
          | (go_at_call 79; go_must (refine (HV.out).mono ?_); rintro e w' ⟨rfl, hw'⟩; rw [← hw']; clear hw' w'))
        go_ret
        exact ⟨cp_none HN.out rfl, rfl⟩
    · obtain rfl : k = n := by omega
      have bkn : decide ((k : Int) < (k : Int)) = false := by simp
      have HP := Lib.hid (size_at (by have := HD.out.1; omega) hall (.inl HD.out.1))
      have HX := Lib.hid (show ∀ h : k < l.length, l[k] = 59 from fun h => by have := HD.out.1; omega)
      have hse : sd = ByteArray.empty := by rw [← hsl]; simp
      have hse2 : sd = (⟨#[]⟩ : ByteArray) := by rw [hse]; rfl
      have hv1 := HV.out
      have hv2 := HV.out
      rw [hse] at hv1
      rw [hse2] at hv2
      have HV1 := Lib.hid hv1
      have HV2 := Lib.hid hv2
      clear hlt hnk hse hse2 hv1 hv2 hsl
      by_cases h0 : k = 0
      · have b0 : ((k : Int) == 0) = true := by simp; omega
        have HN := Lib.hid (show sizeS l = none by rw [HP.out, if_neg (fun h => by omega)])
        clear hV hbv hsd hall h0
        go_wp2_with (first
          | (go_at_call 79; (with_reducible show Calls _ _ #[.string ByteArray.empty] _ _); go_must (refine (HV1.out).mono ?_); rintro e w' ⟨rfl, hw'⟩; rw [← hw']; clear hw' w')
          | (go_at_call 79; go_must (refine (HV2.out).mono ?_); rintro e w' ⟨rfl, hw'⟩; rw [← hw']; clear hw' w'))
        go_ret
        exact ⟨cp_none HN.out rfl, rfl⟩
      · have b0 : ((k : Int) == 0) = false := by rw [beq_eq_false_iff_ne]; omega
        by_cases h8 : 8 < k
        · have b8 : decide ((8 : Int) < (k : Int)) = true := by rw [decide_eq_true_iff]; omega
          have HN := Lib.hid (show sizeS l = none by rw [HP.out, if_neg (fun h => by omega)])
          clear hV hbv hsd hall h0 h8
          go_wp2_with (first
            | (go_at_call 79; (with_reducible show Calls _ _ #[.string ByteArray.empty] _ _); go_must (refine (HV1.out).mono ?_); rintro e w' ⟨rfl, hw'⟩; rw [← hw']; clear hw' w')
            | (go_at_call 79; go_must (refine (HV2.out).mono ?_); rintro e w' ⟨rfl, hw'⟩; rw [← hw']; clear hw' w'))
          go_ret
          exact ⟨cp_none HN.out rfl, rfl⟩
        · have b8 : decide ((8 : Int) < (k : Int)) = false := by rw [decide_eq_false_iff_not]; omega
          cases bv
          · have HN := Lib.hid (show sizeS l = none by rw [HP.out, if_neg (fun h => by rw [← hbv] at h; exact absurd h.2.2.2 (by simp))])
            clear hV hbv hsd hall h0 h8
            go_wp2_with (first
              | (go_at_call 79; (with_reducible show Calls _ _ #[.string ByteArray.empty] _ _); go_must (refine (HV1.out).mono ?_); rintro e w' ⟨rfl, hw'⟩; rw [← hw']; clear hw' w')
              | (go_at_call 79; go_must (refine (HV2.out).mono ?_); rintro e w' ⟨rfl, hw'⟩; rw [← hw']; clear hw' w'))
            go_ret
            exact ⟨cp_none HN.out rfl, rfl⟩
          · have HN := Lib.hid (show sizeS l = some V by rw [HP.out, if_pos ⟨by omega, by omega, HX.out, hbv.symm⟩, hV])
            clear hV hbv hsd hall h0 h8
            go_wp2_with (first
              | (go_at_call 79; (with_reducible show Calls _ _ #[.string ByteArray.empty] _ _); go_must (refine (HV1.out).mono ?_); rintro e w' ⟨rfl, hw'⟩; rw [← hw']; clear hw' w')
              | (go_at_call 79; go_must (refine (HV2.out).mono ?_); rintro e w' ⟨rfl, hw'⟩; rw [← hw']; clear hw' w'))
            go_ret
            exact ⟨cp_some HN.out rfl, rfl⟩
end Go.Proofs.YtojemdggbcklkaaDoor.WireR
