/- trim, ref.trim, ref.find. -/
import Derived.Test.YtojemdggbcklkaaDoorWAll
import Derived.Lib.SlTrimSet
namespace Go.Proofs.YtojemdggbcklkaaDoor.WireR
open Go.RowKit Go.Proofs.YtojemdggbcklkaaDoor.Mem Go.Proofs.YtojemdggbcklkaaDoor.Wire Go.Proofs.YtojemdggbcklkaaDoor.Strs
set_option linter.unusedVariables false
set_option linter.unusedSimpArgs false
set_option maxRecDepth 4000

theorem trim_comm {α : Type} (p : α → Bool) : ∀ l : List α, ((l.reverse.dropWhile p).reverse).dropWhile p = ((l.dropWhile p).reverse.dropWhile p).reverse
  | [] => rfl
  | x :: r => by
    have ih := trim_comm p r
    by_cases hx : p x = true
    · have e1 : (x :: r).dropWhile p = r.dropWhile p := List.dropWhile_cons_of_pos hx
      rw [e1, ← ih, List.reverse_cons, List.dropWhile_append]
      by_cases he : (r.reverse.dropWhile p).isEmpty = true
      · rw [if_pos he, List.isEmpty_iff.1 he]
        simp [List.dropWhile, hx]
      · rw [if_neg he, List.reverse_append, List.reverse_singleton, List.singleton_append, List.dropWhile_cons_of_pos hx]
    · rw [List.dropWhile_cons_of_neg hx, List.reverse_cons, List.dropWhile_append]
      by_cases he : (r.reverse.dropWhile p).isEmpty = true
      · rw [if_pos he, List.dropWhile_cons_of_neg hx]
        simp [List.dropWhile, hx]
      · rw [if_neg he, List.reverse_append, List.reverse_singleton, List.singleton_append, List.dropWhile_cons_of_neg hx]
theorem ws_set (c : UInt8) : ([32, 9] : List UInt8).contains c = wsB c := by
  unfold wsB
  rw [Bool.eq_iff_iff]
  simp
theorem trimS_eq (l : List UInt8) : Lib.trimS l [32, 9] = trimL l := by
  unfold Lib.trimS Lib.trimLeftS Lib.trimRightS trimL
  rw [show (fun x => ([32, 9] : List UInt8).contains x) = wsB from funext ws_set]
  exact trim_comm wsB l

set_option maxHeartbeats 1000000 in
theorem trim_any (l : List UInt8) (w : World) (hl : l.length ≤ 1073741824) :
    Calls Tryd.prog 60 #[.string ⟨l.toArray⟩] w fun e w' => e = .returned (.string ⟨(trimL l).toArray⟩) ∧ Below w.heap.size w w' := by
  have c1 := Tryd.strings_Trim_ws ⟨l.toArray⟩ w (by simp [ByteArray.size]; omega)
  rw [show ((⟨l.toArray⟩ : ByteArray).data.toList) = l from rfl, trimS_eq] at c1
  obtain ⟨s, hs⟩ : ∃ s, s = (⟨l.toArray⟩ : ByteArray) := ⟨_, rfl⟩
  rw [← hs] at c1 ⊢
  have C1 := Lib.hid c1
  clear c1 hs hl
  go_enter Tryd.func60, Tryd.ntmps60
  go_wp2_with (first
    | (go_at_call 73; go_must (refine (C1.out).mono ?_); rintro e w' ⟨rfl, hb⟩))
  go_ret
  exact ⟨rfl, hb⟩
set_option maxHeartbeats 2000000 in
theorem find_any (l : List UInt8) (c : UInt8) (w : World) (hl : l.length ≤ 1073741824) :
    Calls Tryd.prog 62 #[.string ⟨l.toArray⟩, .int .u8 (c.toNat : Int)] w fun e w' => e = .returned (.int .i64 (Lib.indexByte l c)) ∧ w = w' := by
  obtain ⟨n, hn⟩ : ∃ n, n = l.length := ⟨_, rfl⟩
  obtain ⟨s, hs⟩ : ∃ s, s = (⟨l.toArray⟩ : ByteArray) := ⟨_, rfl⟩
  have hsz : s.size = n := by rw [hs, hn]; simp [ByteArray.size]
  have hni : (n : Int) ≤ 1073741824 := by omega
  obtain ⟨y, hy⟩ : ∃ y, y = c.toNat := ⟨_, rfl⟩
  have HA := Lib.hid (And.intro hn (And.intro hs hy))
  rw [← hs, ← hy]
  clear hn hs hl hy
  go_enter Tryd.func62, Tryd.ntmps62
  go_wp2
  go_loopw [5] (fun v wr => ∃ k : Nat, k ≤ n ∧ v = .int .i64 k ∧ c ∉ l.take k ∧ wr = w) (fun v _ => n - (intOf v).toNat)
  case atStart => exact ⟨0, by omega, rfl, by simp, rfl⟩
  case round =>
    obtain ⟨k, hk, rfl, hno, rfl⟩ := hrel
    by_cases hlt : k < n
    · have hka : k < l.length := by have := HA.out.1; omega
      obtain ⟨x, hx⟩ : ∃ x, x = l[k] := ⟨_, rfl⟩
      have hks : k < s.size := by omega
      have hsx : s[k] = x := by
        have : ∀ s' : ByteArray, s' = (⟨l.toArray⟩ : ByteArray) → ∀ h, s'[k]'h = l[k] := fun s' e h => by subst e; rfl
        rw [hx]; exact this s HA.out.2.1 hks
      have hki : (k : Int) < (n : Int) := by omega
      have hk0 : (0 : Int) ≤ (k : Int) := by omega
      by_cases hxc : x = c
      · have hcut : Lib.indexByte l c = (k : Int) := by
          have e : l = l.take k ++ c :: l.drop (k + 1) := by
            have h1 := (List.take_append_drop k l).symm
            rw [List.drop_eq_getElem_cons hka, ← hx, hxc] at h1
            exact h1
          have h2 := cutL_of (b := l.drop (k + 1)) hno
          rw [← e] at h2
          rw [indexByte_cut, h2]
          simp
          omega
        have HC := Lib.hid hcut
        have hb : ((x.toNat : Int) == (y : Int)) = true := by rw [HA.out.2.2, hxc]; simp
        clear hx hxc hno hcut hlt hka
        go_wp2
        go_ret
        exact ⟨by rw [HC.out]; rfl, rfl⟩
      · have hb : ((x.toNat : Int) == (y : Int)) = false := by
          rw [beq_eq_false_iff_ne, HA.out.2.2]
          exact fun h => hxc (UInt8.toNat_inj.1 (by omega))
        have hno2 : c ∉ l.take (k + 1) := by
          rw [List.take_succ_eq_append_getElem hka, ← hx]
          simp only [List.mem_append, List.mem_singleton, not_or]
          exact ⟨hno, fun e => hxc e.symm⟩
        have HN := Lib.hid hno2
        clear hx hxc hno hno2 hlt hka
        go_wp2
        exact ⟨⟨k + 1, by omega, by go_num, HN.out, trivial⟩, by simp [intOf]; omega⟩
    · obtain rfl : k = n := by omega
      have hcut : Lib.indexByte l c = -1 := by
        rw [indexByte_cut, cutL_not]
        rw [List.take_of_length_le (by have := HA.out.1; omega)] at hno
        exact hno
      have HC := Lib.hid hcut
      clear hno hcut hlt
      go_wp2
      go_ret
      exact ⟨by rw [HC.out]; rfl, rfl⟩

def strLen : Value → Nat
  | .string s => s.size
  | _ => 0
theorem drop_ws {l : List UInt8} {k : Nat} (hk : k ≤ l.length) (h1 : (l.take k).all wsB = true) (h2 : ∀ h : k < l.length, wsB l[k] = false) : l.dropWhile wsB = l.drop k :=
  Lib.dropWhile_drop wsB l k (fun j b hj hb => List.all_eq_true.1 h1 b (by
    have := List.getElem?_take_of_lt (l := l) hj
    rw [hb] at this
    exact List.mem_of_getElem? this)) (fun b hb => by
    obtain ⟨hlt, rfl⟩ := List.getElem?_eq_some_iff.1 hb
    exact h2 hlt) hk
theorem take_ws {l : List UInt8} {m : Nat} (hm : m ≤ l.length) (h1 : (l.drop m).all wsB = true) (h2 : ∀ h : 0 < m, wsB (l[m - 1]'(by omega)) = false) : (l.reverse.dropWhile wsB).reverse = l.take m := by
  have h := drop_ws (l := l.reverse) (k := l.length - m) (by rw [List.length_reverse]; omega) (by
    rw [List.take_reverse, show l.length - (l.length - m) = m by omega, List.all_reverse]
    exact h1) (fun h => by
    rw [List.length_reverse] at h
    have h3 := h2 (by omega)
    rw [List.getElem_reverse]
    have e : l.length - 1 - (l.length - m) = m - 1 := by omega
    simp only [e]
    exact h3)
  rw [h, List.drop_reverse, show l.length - (l.length - m) = m by omega, List.reverse_reverse]
theorem str_less {x y : ByteArray} {l : List UInt8} {m : Nat} (hx : x = ⟨l.toArray⟩) (hy : y.size = m) (h : l.length < m) : strLen (.string x) < strLen (.string y) := by
  show x.size < y.size
  rw [hx, hy]
  exact h
set_option maxHeartbeats 4000000 in
theorem rtrim_any (l : List UInt8) (w : World) (hl : l.length ≤ 1073741824) :
    Calls Tryd.prog 67 #[.string ⟨l.toArray⟩] w fun e w' => e = .returned (.string ⟨(trimL l).toArray⟩) ∧ w = w' := by
  obtain ⟨n, hn⟩ : ∃ n, n = l.length := ⟨_, rfl⟩
  obtain ⟨s, hs⟩ : ∃ s, s = (⟨l.toArray⟩ : ByteArray) := ⟨_, rfl⟩
  have hni : (n : Int) ≤ 1073741824 := by omega
  have HA := Lib.hid (And.intro hn hs)
  rw [← hs]
  clear hn hs hl
  go_enter Tryd.func67, Tryd.ntmps67
  go_wp2
  go_loopw [0] (fun v wr => ∃ k : Nat, k ≤ n ∧ v = .string ⟨(l.drop k).toArray⟩ ∧ (l.take k).all wsB = true ∧ wr = w) (fun v _ => strLen v)
  case atStart => exact ⟨0, by omega, by rw [List.drop_zero, ← HA.out.2], rfl, rfl⟩
  case round =>
    obtain ⟨k, hk, rfl, hall, rfl⟩ := hrel
    obtain ⟨d, hd⟩ : ∃ d, d = l.drop k := ⟨_, rfl⟩
    obtain ⟨m, hm⟩ : ∃ m, m = d.length := ⟨_, rfl⟩
    have hmn' : m = n - k := by rw [hm, hd, List.length_drop, HA.out.1]
    obtain ⟨t, ht⟩ : ∃ t, t = (⟨d.toArray⟩ : ByteArray) := ⟨_, rfl⟩
    have hmn : m + k = n := by omega
    clear hmn'
    have htz : t.size = m := by rw [ht, hm]; simp [ByteArray.size]
    rw [← hd, ← ht]
    have HD := Lib.hid (And.intro hm (And.intro ht hd))
    have hmi : (m : Int) ≤ 1073741824 := by omega
    by_cases hm0 : m = 0
    · have hdw : l.dropWhile wsB = d := by
        rw [drop_ws (k := k) (by have := HA.out.1; omega) hall (fun h => by have := HA.out.1; omega), hd]
      have d0 : decide ((0 : Int) < (m : Int)) = false := by simp; omega
      have d1 : ¬ ((0 : Int) < (m : Int)) := by omega
      clear hall hm0 hm ht hd
      have HW := Lib.hid hdw
      clear hdw
      go_wp2
      go_loopw [0] (fun v w2 => ∃ j : Nat, j ≤ m ∧ v = .string ⟨(d.take j).toArray⟩ ∧ (d.drop j).all wsB = true ∧ w2 = wr) (fun v _ => strLen v)
      case atStart => exact ⟨m, Nat.le_refl _, by rw [List.take_of_length_le (by have := HD.out.1; omega)]; rw [← HD.out.2.1], by rw [List.drop_of_length_le (by have := HD.out.1; omega)]; rfl, rfl⟩
      case round =>
        obtain ⟨j, hj, rfl, hall2, rfl⟩ := hrel
        obtain ⟨f, hf⟩ : ∃ f, f = (⟨(d.take j).toArray⟩ : ByteArray) := ⟨_, rfl⟩
        have hfz : f.size = j := by rw [hf]; simp [ByteArray.size]; have := HD.out.1; omega
        rw [← hf]
        by_cases hj0 : j = 0
        · have hfin : trimL l = d.take j := by
            unfold trimL
            rw [HW.out]
            exact take_ws (by have := HD.out.1; omega) hall2 (fun h => absurd h (by omega))
          have HF := Lib.hid hfin
          have d0 : decide ((0 : Int) < (j : Int)) = false := by simp; omega
          have d1 : ¬ ((0 : Int) < (j : Int)) := by omega
          clear hall2 hfin hj0
          go_wp2
          go_ret
          exact ⟨by rw [HF.out, ← hf]; rfl, rfl⟩
        · exfalso; omega
    · have hkl : k < l.length := by have := HA.out.1; omega
      obtain ⟨x, hx⟩ : ∃ x, x = l[k] := ⟨_, rfl⟩
      have d0 : decide ((0 : Int) < (m : Int)) = true := by simp; omega
      have d1 : ((0 : Int) < (m : Int)) := by omega
      have hts : 0 < t.size := by omega
      have htx : t[0] = x := by
        have : ∀ s' : ByteArray, s' = (⟨(l.drop k).toArray⟩ : ByteArray) → ∀ h, s'[0]'h = l[k] := fun s' e h => by
          subst e
          show (l.drop k).toArray[0]'_ = _
          simp
        rw [hx]; exact this t (by rw [ht, hd]) hts
      have hext : t.extract 1 m = (⟨(l.drop (k + 1)).toArray⟩ : ByteArray) := by
        rw [ht, hd, Lib.extract_eq]
        simp [List.drop_drop]
        rw [List.take_of_length_le (by rw [List.length_drop]; have := HA.out.1; omega)]
      have hm1 : (1 : Int) ≤ (m : Int) := by omega
      by_cases hw : wsB x = true
      · have hall3 : (l.take (k + 1)).all wsB = true := by rw [all_step hkl, hall, ← hx, hw]; rfl
        have HN := Lib.hid (And.intro hall3 hkl)
        by_cases h32 : (x.toNat : Int) = 32
        · have b1 : ((x.toNat : Int) == 32) = true := by simp; omega
          clear hall hall3 hx hw h32 hm0 hm ht hd hkl
          go_wp2
          exact ⟨⟨k + 1, by omega, rfl, HN.out.1, trivial⟩, str_less rfl htz (by rw [List.length_drop]; have := HN.out.2; have := HA.out.1; omega)⟩
        · have b1 : ((x.toNat : Int) == 32) = false := by simp; omega
          have b2 : ((x.toNat : Int) == 9) = true := by
            unfold wsB at hw
            rw [Bool.or_eq_true, beq_iff_eq, beq_iff_eq] at hw
            rcases hw with rfl | rfl
            · exact absurd rfl h32
            · rfl
          clear hall hall3 hx hw h32 hm0 hm ht hd hkl
          go_wp2
          exact ⟨⟨k + 1, by omega, rfl, HN.out.1, trivial⟩, str_less rfl htz (by rw [List.length_drop]; have := HN.out.2; have := HA.out.1; omega)⟩
      · have hdw : l.dropWhile wsB = d := by
          rw [drop_ws (k := k) (by have := HA.out.1; omega) hall (fun h => by rw [← hx]; simpa using hw), hd]
        have b1 : ((x.toNat : Int) == 32) = false := by
          rw [beq_eq_false_iff_ne]; intro h
          exact hw (by rw [show x = 32 from UInt8.toNat_inj.1 (by simpa using (by omega : x.toNat = 32))]; rfl)
        have b2 : ((x.toNat : Int) == 9) = false := by
          rw [beq_eq_false_iff_ne]; intro h
          exact hw (by rw [show x = 9 from UInt8.toNat_inj.1 (by simpa using (by omega : x.toNat = 9))]; rfl)
        clear hall hx hw hm0 hm ht hd hkl hext
        have HW := Lib.hid hdw
        clear hdw
        go_wp2
        go_loopw [0] (fun v w2 => ∃ j : Nat, j ≤ m ∧ v = .string ⟨(d.take j).toArray⟩ ∧ (d.drop j).all wsB = true ∧ w2 = wr) (fun v _ => strLen v)
        case atStart => exact ⟨m, Nat.le_refl _, by rw [List.take_of_length_le (by have := HD.out.1; omega)]; rw [← HD.out.2.1], by rw [List.drop_of_length_le (by have := HD.out.1; omega)]; rfl, rfl⟩
        case round =>
          obtain ⟨j, hj, rfl, hall2, rfl⟩ := hrel
          obtain ⟨f, hf⟩ : ∃ f, f = (⟨(d.take j).toArray⟩ : ByteArray) := ⟨_, rfl⟩
          have hfz : f.size = j := by rw [hf]; simp [ByteArray.size]; have := HD.out.1; omega
          rw [← hf]
          by_cases hj0 : j = 0
          · have hfin : trimL l = d.take j := by
              unfold trimL
              rw [HW.out]
              exact take_ws (by have := HD.out.1; omega) hall2 (fun h => absurd h (by omega))
            have HF := Lib.hid hfin
            have d0 : decide ((0 : Int) < (j : Int)) = false := by simp; omega
            have d1 : ¬ ((0 : Int) < (j : Int)) := by omega
            clear hall2 hfin hj0
            go_wp2
            go_ret
            exact ⟨by rw [HF.out, ← hf]; rfl, rfl⟩
          · have hjd : j - 1 < d.length := by have := HD.out.1; omega
            clear b1 b2 htx
            obtain ⟨x, hx⟩ : ∃ x, x = d[j - 1] := ⟨_, rfl⟩
            have d0 : decide ((0 : Int) < (j : Int)) = true := by simp; omega
            have d1 : ((0 : Int) < (j : Int)) := by omega
            obtain ⟨q, hq⟩ : ∃ q, q = j - 1 := ⟨_, rfl⟩
            have hqj : (j : Int) - 1 = (q : Int) := by omega
            have hqw : wrap64 ((j : Int) - 1) = (q : Int) := by rw [hqj]; unfold wrap64; omega
            have hqs : q < f.size := by omega
            have hq0 : (0 : Int) ≤ (q : Int) := by omega
            have hqi : (q : Int) < (j : Int) := by omega
            have hfx : f[q] = x := by
              have : ∀ s' : ByteArray, s' = (⟨(d.take j).toArray⟩ : ByteArray) → ∀ h, s'[q]'h = d[j - 1] := fun s' e h => by
                subst e
                show (d.take j).toArray[q]'_ = _
                simp [hq]
              rw [hx]; exact this f hf hqs
            have hext : f.extract 0 q = (⟨(d.take q).toArray⟩ : ByteArray) := by
              rw [hf, Lib.extract_eq, List.drop_zero, Nat.sub_zero, List.take_take, Nat.min_eq_left (by omega)]
            by_cases hw : wsB x = true
            · have hall3 : (d.drop q).all wsB = true := by
                rw [List.drop_eq_getElem_cons (by omega), List.all_cons, show q + 1 = j by omega, hall2, Bool.and_true]
                simp only [hq]
                rw [← hx]; exact hw
              have HN := Lib.hid hall3
              by_cases h32 : (x.toNat : Int) = 32
              · have b1 : ((x.toNat : Int) == 32) = true := by simp; omega
                clear hall2 hall3 hx hw h32 hf hj0 hq
                go_wp2
                exact ⟨⟨q, by omega, rfl, HN.out, trivial⟩, str_less rfl hfz (by rw [List.length_take]; omega)⟩
              · have b1 : ((x.toNat : Int) == 32) = false := by simp; omega
                have b2 : ((x.toNat : Int) == 9) = true := by
                  unfold wsB at hw
                  rw [Bool.or_eq_true, beq_iff_eq, beq_iff_eq] at hw
                  rcases hw with rfl | rfl
                  · exact absurd rfl h32
                  · rfl
                clear hall2 hall3 hx hw h32 hf hj0 hq
                go_wp2
                exact ⟨⟨q, by omega, rfl, HN.out, trivial⟩, str_less rfl hfz (by rw [List.length_take]; omega)⟩
            · have hfin : trimL l = d.take j := by
                unfold trimL
                rw [HW.out]
                exact take_ws (by have := HD.out.1; omega) hall2 (fun h => by rw [← hx]; simpa using hw)
              have HF := Lib.hid hfin
              have b1 : ((x.toNat : Int) == 32) = false := by
                rw [beq_eq_false_iff_ne]; intro h
                exact hw (by rw [show x = 32 from UInt8.toNat_inj.1 (by simpa using (by omega : x.toNat = 32))]; rfl)
              have b2 : ((x.toNat : Int) == 9) = false := by
                rw [beq_eq_false_iff_ne]; intro h
                exact hw (by rw [show x = 9 from UInt8.toNat_inj.1 (by simpa using (by omega : x.toNat = 9))]; rfl)
              have HG := Lib.hid hf
              clear hall2 hx hw hj0 hq hfin hf hext
              go_wp2
              go_ret
              exact ⟨by rw [HF.out, ← HG.out]; rfl, rfl⟩
end Go.Proofs.YtojemdggbcklkaaDoor.WireR
