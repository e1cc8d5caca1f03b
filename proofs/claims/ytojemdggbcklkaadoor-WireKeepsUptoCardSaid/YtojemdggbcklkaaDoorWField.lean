/- field, ref.header: one header of its line. (Printed by mkwfield.py.) -/
import Derived.Test.YtojemdggbcklkaaDoorWAll
import Derived.Lib.SlTrimSet
import Derived.Test.YtojemdggbcklkaaDoorHeads
import Derived.Test.YtojemdggbcklkaaDoorArr

/- trim, ref.trim, ref.find. -/
namespace Go.Proofs.YtojemdggbcklkaaDoor.WireR
open Go.RowKit Go.Proofs.YtojemdggbcklkaaDoor.Mem Go.Proofs.YtojemdggbcklkaaDoor.Wire Go.Proofs.YtojemdggbcklkaaDoor.Strs
set_option linter.unusedVariables false
set_option linter.unusedSimpArgs false
set_option maxRecDepth 4000

theorem trim_comm {α : Type} (p : α → Bool) : ∀ l : List α, ((l.reverse.dropWhile p).reverse).dropWhile p = ((l.dropWhile p).reverse.dropWhile p).reverse
  | [] => rfl
  | x :: r => by
    have ih := trim_comm p r
    by_cases hx : p x = true
    · have e1 : (x :: r).dropWhile p = r.dropWhile p := List.dropWhile_cons_of_pos hx
      rw [e1, ← ih, List.reverse_cons, List.dropWhile_append]
      by_cases he : (r.reverse.dropWhile p).isEmpty = true
      · rw [if_pos he, List.isEmpty_iff.1 he]
        simp [List.dropWhile, hx]
      · rw [if_neg he, List.reverse_append, List.reverse_singleton, List.singleton_append, List.dropWhile_cons_of_pos hx]
    · rw [List.dropWhile_cons_of_neg hx, List.reverse_cons, List.dropWhile_append]
      by_cases he : (r.reverse.dropWhile p).isEmpty = true
      · rw [if_pos he, List.dropWhile_cons_of_neg hx]
        simp [List.dropWhile, hx]
      · rw [if_neg he, List.reverse_append, List.reverse_singleton, List.singleton_append, List.dropWhile_cons_of_neg hx]
theorem ws_set (c : UInt8) : ([32, 9] : List UInt8).contains c = wsB c := by
  unfold wsB
  rw [Bool.eq_iff_iff]
  simp
theorem trimS_eq (l : List UInt8) : Lib.trimS l [32, 9] = trimL l := by
  unfold Lib.trimS Lib.trimLeftS Lib.trimRightS trimL
  rw [show (fun x => ([32, 9] : List UInt8).contains x) = wsB from funext ws_set]
  exact trim_comm wsB l

set_option maxHeartbeats 1000000 in
theorem trim_any (l : List UInt8) (w : World) (hl : l.length ≤ 1073741824) :
    Calls Tryd.prog 60 #[.string ⟨l.toArray⟩] w fun e w' => e = .returned (.string ⟨(trimL l).toArray⟩) ∧ Below w.heap.size w w' := by
  have c1 := Tryd.strings_Trim_ws ⟨l.toArray⟩ w (by simp [ByteArray.size]; omega)
  rw [show ((⟨l.toArray⟩ : ByteArray).data.toList) = l from rfl, trimS_eq] at c1
  obtain ⟨s, hs⟩ : ∃ s, s = (⟨l.toArray⟩ : ByteArray) := ⟨_, rfl⟩
  rw [← hs] at c1 ⊢
  have C1 := Lib.hid c1
  clear c1 hs hl
  go_enter Tryd.func60, Tryd.ntmps60
  go_wp2_with (first
    | (go_at_call 73; go_must (refine (C1.out).mono ?_); rintro e w' ⟨rfl, hb⟩))
  go_ret
  exact ⟨rfl, hb⟩
set_option maxHeartbeats 2000000 in
theorem find_any (l : List UInt8) (c : UInt8) (w : World) (hl : l.length ≤ 1073741824) :
    Calls Tryd.prog 62 #[.string ⟨l.toArray⟩, .int .u8 (c.toNat : Int)] w fun e w' => e = .returned (.int .i64 (Lib.indexByte l c)) ∧ w = w' := by
  obtain ⟨n, hn⟩ : ∃ n, n = l.length := ⟨_, rfl⟩
  obtain ⟨s, hs⟩ : ∃ s, s = (⟨l.toArray⟩ : ByteArray) := ⟨_, rfl⟩
  have hsz : s.size = n := by rw [hs, hn]; simp [ByteArray.size]
  have hni : (n : Int) ≤ 1073741824 := by omega
  obtain ⟨y, hy⟩ : ∃ y, y = c.toNat := ⟨_, rfl⟩
  have HA := Lib.hid (And.intro hn (And.intro hs hy))
  rw [← hs, ← hy]
  clear hn hs hl hy
  go_enter Tryd.func62, Tryd.ntmps62
  go_wp2
  go_loopw [5] (fun v wr => ∃ k : Nat, k ≤ n ∧ v = .int .i64 k ∧ c ∉ l.take k ∧ wr = w) (fun v _ => n - (intOf v).toNat)
  case atStart => exact ⟨0, by omega, rfl, by simp, rfl⟩
  case round =>
    obtain ⟨k, hk, rfl, hno, rfl⟩ := hrel
    by_cases hlt : k < n
    · have hka : k < l.length := by have := HA.out.1; omega
      obtain ⟨x, hx⟩ : ∃ x, x = l[k] := ⟨_, rfl⟩
      have hks : k < s.size := by omega
      have hsx : s[k] = x := by
        have : ∀ s' : ByteArray, s' = (⟨l.toArray⟩ : ByteArray) → ∀ h, s'[k]'h = l[k] := fun s' e h => by subst e; rfl
        rw [hx]; exact this s HA.out.2.1 hks
      have hki : (k : Int) < (n : Int) := by omega
      have hk0 : (0 : Int) ≤ (k : Int) := by omega
      by_cases hxc : x = c
      · have hcut : Lib.indexByte l c = (k : Int) := by
          have e : l = l.take k ++ c :: l.drop (k + 1) := by
            have h1 := (List.take_append_drop k l).symm
            rw [List.drop_eq_getElem_cons hka, ← hx, hxc] at h1
            exact h1
          have h2 := cutL_of (b := l.drop (k + 1)) hno
          rw [← e] at h2
          rw [indexByte_cut, h2]
          simp
          omega
        have HC := Lib.hid hcut
        have hb : ((x.toNat : Int) == (y : Int)) = true := by rw [HA.out.2.2, hxc]; simp
        clear hx hxc hno hcut hlt hka
        go_wp2
        go_ret
        exact ⟨by rw [HC.out]; rfl, rfl⟩
      · have hb : ((x.toNat : Int) == (y : Int)) = false := by
          rw [beq_eq_false_iff_ne, HA.out.2.2]
          exact fun h => hxc (UInt8.toNat_inj.1 (by omega))
        have hno2 : c ∉ l.take (k + 1) := by
          rw [List.take_succ_eq_append_getElem hka, ← hx]
          simp only [List.mem_append, List.mem_singleton, not_or]
          exact ⟨hno, fun e => hxc e.symm⟩
        have HN := Lib.hid hno2
        clear hx hxc hno hno2 hlt hka
        go_wp2
        exact ⟨⟨k + 1, by omega, by go_num, HN.out, trivial⟩, by simp [intOf]; omega⟩
    · obtain rfl : k = n := by omega
      have hcut : Lib.indexByte l c = -1 := by
        rw [indexByte_cut, cutL_not]
        rw [List.take_of_length_le (by have := HA.out.1; omega)] at hno
        exact hno
      have HC := Lib.hid hcut
      clear hno hcut hlt
      go_wp2
      go_ret
      exact ⟨by rw [HC.out]; rfl, rfl⟩

def strLen : Value → Nat
  | .string s => s.size
  | _ => 0
theorem drop_ws {l : List UInt8} {k : Nat} (hk : k ≤ l.length) (h1 : (l.take k).all wsB = true) (h2 : ∀ h : k < l.length, wsB l[k] = false) : l.dropWhile wsB = l.drop k :=
  Lib.dropWhile_drop wsB l k (fun j b hj hb => List.all_eq_true.1 h1 b (by
    have := List.getElem?_take_of_lt (l := l) hj
    rw [hb] at this
    exact List.mem_of_getElem? this)) (fun b hb => by
    obtain ⟨hlt, rfl⟩ := List.getElem?_eq_some_iff.1 hb
    exact h2 hlt) hk
theorem take_ws {l : List UInt8} {m : Nat} (hm : m ≤ l.length) (h1 : (l.drop m).all wsB = true) (h2 : ∀ h : 0 < m, wsB (l[m - 1]'(by omega)) = false) : (l.reverse.dropWhile wsB).reverse = l.take m := by
  have h := drop_ws (l := l.reverse) (k := l.length - m) (by rw [List.length_reverse]; omega) (by
    rw [List.take_reverse, show l.length - (l.length - m) = m by omega, List.all_reverse]
    exact h1) (fun h => by
    rw [List.length_reverse] at h
    have h3 := h2 (by omega)
    rw [List.getElem_reverse]
    have e : l.length - 1 - (l.length - m) = m - 1 := by omega
    simp only [e]
    exact h3)
  rw [h, List.drop_reverse, show l.length - (l.length - m) = m by omega, List.reverse_reverse]
theorem str_less {x y : ByteArray} {l : List UInt8} {m : Nat} (hx : x = ⟨l.toArray⟩) (hy : y.size = m) (h : l.length < m) : strLen (.string x) < strLen (.string y) := by
  show x.size < y.size
  rw [hx, hy]
  exact h
set_option maxHeartbeats 4000000 in
theorem rtrim_any (l : List UInt8) (w : World) (hl : l.length ≤ 1073741824) :
    Calls Tryd.prog 67 #[.string ⟨l.toArray⟩] w fun e w' => e = .returned (.string ⟨(trimL l).toArray⟩) ∧ w = w' := by
  obtain ⟨n, hn⟩ : ∃ n, n = l.length := ⟨_, rfl⟩
  obtain ⟨s, hs⟩ : ∃ s, s = (⟨l.toArray⟩ : ByteArray) := ⟨_, rfl⟩
  have hni : (n : Int) ≤ 1073741824 := by omega
  have HA := Lib.hid (And.intro hn hs)
  rw [← hs]
  clear hn hs hl
  go_enter Tryd.func67, Tryd.ntmps67
  go_wp2
  go_loopw [0] (fun v wr => ∃ k : Nat, k ≤ n ∧ v = .string ⟨(l.drop k).toArray⟩ ∧ (l.take k).all wsB = true ∧ wr = w) (fun v _ => strLen v)
  case atStart => exact ⟨0, by omega, by rw [List.drop_zero, ← HA.out.2], rfl, rfl⟩
  case round =>
    obtain ⟨k, hk, rfl, hall, rfl⟩ := hrel
    obtain ⟨d, hd⟩ : ∃ d, d = l.drop k := ⟨_, rfl⟩
    obtain ⟨m, hm⟩ : ∃ m, m = d.length := ⟨_, rfl⟩
    have hmn' : m = n - k := by rw [hm, hd, List.length_drop, HA.out.1]
    obtain ⟨t, ht⟩ : ∃ t, t = (⟨d.toArray⟩ : ByteArray) := ⟨_, rfl⟩
    have hmn : m + k = n := by omega
    clear hmn'
    have htz : t.size = m := by rw [ht, hm]; simp [ByteArray.size]
    rw [← hd, ← ht]
    have HD := Lib.hid (And.intro hm (And.intro ht hd))
    have hmi : (m : Int) ≤ 1073741824 := by omega
    by_cases hm0 : m = 0
    · have hdw : l.dropWhile wsB = d := by
        rw [drop_ws (k := k) (by have := HA.out.1; omega) hall (fun h => by have := HA.out.1; omega), hd]
      have d0 : decide ((0 : Int) < (m : Int)) = false := by simp; omega
      have d1 : ¬ ((0 : Int) < (m : Int)) := by omega
      clear hall hm0 hm ht hd
      have HW := Lib.hid hdw
      clear hdw
      go_wp2
      go_loopw [0] (fun v w2 => ∃ j : Nat, j ≤ m ∧ v = .string ⟨(d.take j).toArray⟩ ∧ (d.drop j).all wsB = true ∧ w2 = wr) (fun v _ => strLen v)
      case atStart => exact ⟨m, Nat.le_refl _, by rw [List.take_of_length_le (by have := HD.out.1; omega)]; rw [← HD.out.2.1], by rw [List.drop_of_length_le (by have := HD.out.1; omega)]; rfl, rfl⟩
      case round =>
        obtain ⟨j, hj, rfl, hall2, rfl⟩ := hrel
        obtain ⟨f, hf⟩ : ∃ f, f = (⟨(d.take j).toArray⟩ : ByteArray) := ⟨_, rfl⟩
        have hfz : f.size = j := by rw [hf]; simp [ByteArray.size]; have := HD.out.1; omega
        rw [← hf]
        by_cases hj0 : j = 0
        · have hfin : trimL l = d.take j := by
            unfold trimL
            rw [HW.out]
            exact take_ws (by have := HD.out.1; omega) hall2 (fun h => absurd h (by omega))
          have HF := Lib.hid hfin
          have d0 : decide ((0 : Int) < (j : Int)) = false := by simp; omega
          have d1 : ¬ ((0 : Int) < (j : Int)) := by omega
          clear hall2 hfin hj0
          go_wp2
          go_ret
          exact ⟨by rw [HF.out, ← hf]; rfl, rfl⟩
        · exfalso; omega
    · have hkl : k < l.length := by have := HA.out.1; omega
      obtain ⟨x, hx⟩ : ∃ x, x = l[k] := ⟨_, rfl⟩
      have d0 : decide ((0 : Int) < (m : Int)) = true := by simp; omega
      have d1 : ((0 : Int) < (m : Int)) := by omega
      have hts : 0 < t.size := by omega
      have htx : t[0] = x := by
        have : ∀ s' : ByteArray, s' = (⟨(l.drop k).toArray⟩ : ByteArray) → ∀ h, s'[0]'h = l[k] := fun s' e h => by
          subst e
          show (l.drop k).toArray[0]'_ = _
          simp
        rw [hx]; exact this t (by rw [ht, hd]) hts
      have hext : t.extract 1 m = (⟨(l.drop (k + 1)).toArray⟩ : ByteArray) := by
        rw [ht, hd, Lib.extract_eq]
        simp [List.drop_drop]
        rw [List.take_of_length_le (by rw [List.length_drop]; have := HA.out.1; omega)]
      have hm1 : (1 : Int) ≤ (m : Int) := by omega
      by_cases hw : wsB x = true
      · have hall3 : (l.take (k + 1)).all wsB = true := by rw [all_step hkl, hall, ← hx, hw]; rfl
        have HN := Lib.hid (And.intro hall3 hkl)
        by_cases h32 : (x.toNat : Int) = 32
        · have b1 : ((x.toNat : Int) == 32) = true := by simp; omega
          clear hall hall3 hx hw h32 hm0 hm ht hd hkl
          go_wp2
          exact ⟨⟨k + 1, by omega, rfl, HN.out.1, trivial⟩, str_less rfl htz (by rw [List.length_drop]; have := HN.out.2; have := HA.out.1; omega)⟩
        · have b1 : ((x.toNat : Int) == 32) = false := by simp; omega
          have b2 : ((x.toNat : Int) == 9) = true := by
            unfold wsB at hw
            rw [Bool.or_eq_true, beq_iff_eq, beq_iff_eq] at hw
            rcases hw with rfl | rfl
            · exact absurd rfl h32
            · rfl
          clear hall hall3 hx hw h32 hm0 hm ht hd hkl
          go_wp2
          exact ⟨⟨k + 1, by omega, rfl, HN.out.1, trivial⟩, str_less rfl htz (by rw [List.length_drop]; have := HN.out.2; have := HA.out.1; omega)⟩
      · have hdw : l.dropWhile wsB = d := by
          rw [drop_ws (k := k) (by have := HA.out.1; omega) hall (fun h => by rw [← hx]; simpa using hw), hd]
        have b1 : ((x.toNat : Int) == 32) = false := by
          rw [beq_eq_false_iff_ne]; intro h
          exact hw (by rw [show x = 32 from UInt8.toNat_inj.1 (by simpa using (by omega : x.toNat = 32))]; rfl)
        have b2 : ((x.toNat : Int) == 9) = false := by
          rw [beq_eq_false_iff_ne]; intro h
          exact hw (by rw [show x = 9 from UInt8.toNat_inj.1 (by simpa using (by omega : x.toNat = 9))]; rfl)
        clear hall hx hw hm0 hm ht hd hkl hext
        have HW := Lib.hid hdw
        clear hdw
        go_wp2
        go_loopw [0] (fun v w2 => ∃ j : Nat, j ≤ m ∧ v = .string ⟨(d.take j).toArray⟩ ∧ (d.drop j).all wsB = true ∧ w2 = wr) (fun v _ => strLen v)
        case atStart => exact ⟨m, Nat.le_refl _, by rw [List.take_of_length_le (by have := HD.out.1; omega)]; rw [← HD.out.2.1], by rw [List.drop_of_length_le (by have := HD.out.1; omega)]; rfl, rfl⟩
        case round =>
          obtain ⟨j, hj, rfl, hall2, rfl⟩ := hrel
          obtain ⟨f, hf⟩ : ∃ f, f = (⟨(d.take j).toArray⟩ : ByteArray) := ⟨_, rfl⟩
          have hfz : f.size = j := by rw [hf]; simp [ByteArray.size]; have := HD.out.1; omega
          rw [← hf]
          by_cases hj0 : j = 0
          · have hfin : trimL l = d.take j := by
              unfold trimL
              rw [HW.out]
              exact take_ws (by have := HD.out.1; omega) hall2 (fun h => absurd h (by omega))
            have HF := Lib.hid hfin
            have d0 : decide ((0 : Int) < (j : Int)) = false := by simp; omega
            have d1 : ¬ ((0 : Int) < (j : Int)) := by omega
            clear hall2 hfin hj0
            go_wp2
            go_ret
            exact ⟨by rw [HF.out, ← hf]; rfl, rfl⟩
          · have hjd : j - 1 < d.length := by have := HD.out.1; omega
            clear b1 b2 htx
            obtain ⟨x, hx⟩ : ∃ x, x = d[j - 1] := ⟨_, rfl⟩
            have d0 : decide ((0 : Int) < (j : Int)) = true := by simp; omega
            have d1 : ((0 : Int) < (j : Int)) := by omega
            obtain ⟨q, hq⟩ : ∃ q, q = j - 1 := ⟨_, rfl⟩
            have hqj : (j : Int) - 1 = (q : Int) := by omega
            have hqw : wrap64 ((j : Int) - 1) = (q : Int) := by rw [hqj]; unfold wrap64; omega
            have hqs : q < f.size := by omega
            have hq0 : (0 : Int) ≤ (q : Int) := by omega
            have hqi : (q : Int) < (j : Int) := by omega
            have hfx : f[q] = x := by
              have : ∀ s' : ByteArray, s' = (⟨(d.take j).toArray⟩ : ByteArray) → ∀ h, s'[q]'h = d[j - 1] := fun s' e h => by
                subst e
                show (d.take j).toArray[q]'_ = _
                simp [hq]
              rw [hx]; exact this f hf hqs
            have hext : f.extract 0 q = (⟨(d.take q).toArray⟩ : ByteArray) := by
              rw [hf, Lib.extract_eq, List.drop_zero, Nat.sub_zero, List.take_take, Nat.min_eq_left (by omega)]
            by_cases hw : wsB x = true
            · have hall3 : (d.drop q).all wsB = true := by
                rw [List.drop_eq_getElem_cons (by omega), List.all_cons, show q + 1 = j by omega, hall2, Bool.and_true]
                simp only [hq]
                rw [← hx]; exact hw
              have HN := Lib.hid hall3
              by_cases h32 : (x.toNat : Int) = 32
              · have b1 : ((x.toNat : Int) == 32) = true := by simp; omega
                clear hall2 hall3 hx hw h32 hf hj0 hq
                go_wp2
                exact ⟨⟨q, by omega, rfl, HN.out, trivial⟩, str_less rfl hfz (by rw [List.length_take]; omega)⟩
              · have b1 : ((x.toNat : Int) == 32) = false := by simp; omega
                have b2 : ((x.toNat : Int) == 9) = true := by
                  unfold wsB at hw
                  rw [Bool.or_eq_true, beq_iff_eq, beq_iff_eq] at hw
                  rcases hw with rfl | rfl
                  · exact absurd rfl h32
                  · rfl
                clear hall2 hall3 hx hw h32 hf hj0 hq
                go_wp2
                exact ⟨⟨q, by omega, rfl, HN.out, trivial⟩, str_less rfl hfz (by rw [List.length_take]; omega)⟩
            · have hfin : trimL l = d.take j := by
                unfold trimL
                rw [HW.out]
                exact take_ws (by have := HD.out.1; omega) hall2 (fun h => by rw [← hx]; simpa using hw)
              have HF := Lib.hid hfin
              have b1 : ((x.toNat : Int) == 32) = false := by
                rw [beq_eq_false_iff_ne]; intro h
                exact hw (by rw [show x = 32 from UInt8.toNat_inj.1 (by simpa using (by omega : x.toNat = 32))]; rfl)
              have b2 : ((x.toNat : Int) == 9) = false := by
                rw [beq_eq_false_iff_ne]; intro h
                exact hw (by rw [show x = 9 from UInt8.toNat_inj.1 (by simpa using (by omega : x.toNat = 9))]; rfl)
              have HG := Lib.hid hf
              clear hall2 hx hw hj0 hq hfin hf hext
              go_wp2
              go_ret
              exact ⟨by rw [HF.out, ← HG.out]; rfl, rfl⟩
end Go.Proofs.YtojemdggbcklkaaDoor.WireR
namespace Go.Proofs.YtojemdggbcklkaaDoor.WireR
open Go.RowKit Go.Proofs.YtojemdggbcklkaaDoor.Mem Go.Proofs.YtojemdggbcklkaaDoor.Wire Go.Proofs.YtojemdggbcklkaaDoor.Strs Go.Proofs.YtojemdggbcklkaaDoor.Heads
set_option linter.unusedVariables false
set_option linter.unusedSimpArgs false
set_option maxRecDepth 4000

theorem AH : Arr Tryd.prog 58 [.string ⟨#[]⟩, .string ⟨#[]⟩] := Arr.mk' Tryd.underlying58 rfl (by kernel_rfl)
def FieldPost (w : World) (l : List UInt8) (e : Ending) (w' : World) : Prop :=
  (match hdrOf l with
  | none => e = .returned (.tuple #[.agg #[.string ⟨#[]⟩, .string ⟨#[]⟩], .bool false])
  | some h => e = .returned (.tuple #[.agg (HD.cells h).toArray, .bool true])) ∧ Below w.heap.size w w'
theorem hdr_none {l : List UInt8} (h : cutL 58 l = none) : hdrOf l = none := by unfold hdrOf; rw [h]
theorem hdr_some {l a b : List UInt8} (h : cutL 58 l = some (a, b)) : hdrOf l = if a ≠ [] ∧ a.all tokB = true ∧ b.all valB = true then some (a, trimL b) else none := by unfold hdrOf; rw [h]
theorem ext_two {l a b : List UInt8} {c : UInt8} (h : cutL c l = some (a, b)) : (⟨l.toArray⟩ : ByteArray).extract 0 a.length = ⟨a.toArray⟩ ∧ (⟨l.toArray⟩ : ByteArray).extract (a.length + 1) l.length = ⟨b.toArray⟩ := by
  have e := (cutL_some h).1
  constructor
  · rw [Lib.extract_eq, e]; simp
  · have h2 : (a ++ c :: b).drop (a.length + 1) = b := by
      rw [show a ++ c :: b = (a ++ [c]) ++ b by simp]
      exact List.drop_left' (by simp)
    rw [Lib.extract_eq, e]
    show (⟨(((a ++ c :: b).drop (a.length + 1)).take _).toArray⟩ : ByteArray) = _
    rw [h2, List.take_of_length_le (by simp; omega)]
set_option maxHeartbeats 4000000 in
theorem field_any (l : List UInt8) (w : World) (hl : l.length ≤ 1073741824) : Calls Tryd.prog 53 #[.string ⟨l.toArray⟩] w (FieldPost w l) := by
  obtain ⟨n, hn⟩ : ∃ n, n = l.length := ⟨_, rfl⟩
  obtain ⟨s, hs⟩ : ∃ s, s = (⟨l.toArray⟩ : ByteArray) := ⟨_, rfl⟩
  have hsz : s.size = n := by rw [hs, hn]; simp [ByteArray.size]
  have hni : (n : Int) ≤ 1073741824 := by omega
  obtain ⟨i, hi⟩ : ∃ i, i = Lib.indexByte l 58 := ⟨_, rfl⟩
  have c1 := fun w => Tryd.strings_IndexByte ⟨l.toArray⟩ 58 w
  rw [show (Lib.indexByte (⟨l.toArray⟩ : ByteArray).data.toList (58 : Int).toNat.toUInt8) = i from hi.symm] at c1
  rw [← hs] at c1 ⊢
  have C1 := Lib.hid c1
  clear c1
  go_enter Tryd.func53, Tryd.ntmps53
  go_upto_region 1 with fail
  obtain ⟨w1, hw1⟩ : ∃ x, x = w.alloc (.cells #[.string ⟨#[]⟩, .string ⟨#[]⟩] 58) := ⟨_, rfl⟩
  rw [← hw1]
  have hb1 : Below w.heap.size w w1 := hw1 ▸ ga (gr w) _
  have hB1 : Blk w1 w.heap.size 58 [.string ⟨#[]⟩, .string ⟨#[]⟩] := hw1 ▸ Blk.new w _ _
  obtain ⟨H, hH⟩ : ∃ H, H = w.heap.size := ⟨_, rfl⟩
  rw [← hH] at hB1 ⊢
  have HW := Lib.hid (And.intro hB1 (And.intro hb1 (And.intro hb1.size (by omega : w.heap.size ≤ H))))
  clear hb1 hB1 hw1 hH
  cases hcut : cutL 58 l with
  | none =>
    have d0 : decide (i < 1) = true := by rw [hi, indexByte_cut, hcut]; rfl
    have d1 : i < 1 := of_decide_eq_true d0
    have HP : hdrOf l = none := by exact hdr_none hcut
    have HP := Lib.hid HP
    clear hi hcut hn hs hl
    go_wp2_with (first
      | (go_at_call 48; go_must (refine (C1.out _).mono ?_); rintro e w' ⟨rfl, rfl⟩)
      | ((with_reducible show wpList _ _ _ (⟨none, _, _, _, _, _⟩ :: _) _ _); go_must (refine wpList_storeB AH rfl (.tmp 2) (.tmp 24) rfl H 0 rfl [.string ⟨#[]⟩, .string ⟨#[]⟩] rfl rfl _ _ HW.out.1 (by decide) (by simp [Value.oneCell']) ?_); intro w2 hB2 hg2 hz2
         have c0 := hB2.cell 0
         have c1 := hB2.cell 1
         simp only [splice, List.take_zero, List.nil_append, List.length_cons, List.length_nil, List.drop_succ_cons, List.drop_zero, List.append_nil, List.getElem?_cons_zero, List.getElem?_cons_succ, Nat.zero_add, List.drop_nil] at c0 c1))
    refine bodyPost_ret (v := .tuple #[.agg #[.string ⟨#[]⟩, .string ⟨#[]⟩], .bool false]) (by simp [results, Tryd.results53, go_sem, c0, c1]) rfl ?_
    unfold FieldPost
    rw [HP.out]
    exact ⟨rfl, (HW.out.2.1).grown hg2 (by have := HW.out.2.2.1; omega) (fun k hk => by injection hk with hk; have := HW.out.2.2.2; omega)⟩

  | some p =>
    obtain ⟨a, b⟩ := p
    have him : i = (a.length : Int) := by rw [hi, indexByte_cut, hcut]
    have hlen := cutL_len hcut
    obtain ⟨e1, e2⟩ := ext_two hcut
    obtain ⟨m, hm⟩ : ∃ m, m = a.length := ⟨_, rfl⟩
    obtain ⟨sa, hsa⟩ : ∃ x, x = (⟨a.toArray⟩ : ByteArray) := ⟨_, rfl⟩
    obtain ⟨sb, hsb⟩ : ∃ x, x = (⟨b.toArray⟩ : ByteArray) := ⟨_, rfl⟩
    rw [← hs, ← hm, ← hsa] at e1
    rw [← hs, ← hm, ← hsb, ← hn] at e2
    have hal : a.length ≤ 1073741824 := by omega
    have hbl : b.length ≤ 1073741824 := by omega
    have hmi : (m : Int) + 1 ≤ (n : Int) := by omega
    have hmr : IntKind.i64.wrap ((m : Int) + 1) = (m : Int) + 1 := by simp [IntKind.wrap, IntKind.bits, IntKind.signed]; omega
    have hnm : ¬ n < m := by omega
    have hnm1 : ¬ n < m + 1 := by omega
    have hmw : wrap64 ((m : Int) + 1) = (m : Int) + 1 := by unfold wrap64; omega
    obtain rfl : i = (m : Int) := by rw [him, hm]
    have hpost := hdr_some hcut
    by_cases h0 : m = 0
    · have ha0 : a = [] := List.eq_nil_of_length_eq_zero (by omega)
      have d0 : decide ((m : Int) < 1) = true := by simp; omega
      have d1 : (m : Int) < 1 := of_decide_eq_true d0
      have HP : hdrOf l = none := by rw [hpost, if_neg (fun h => h.1 ha0)]
      have HP := Lib.hid HP
      clear hi him hcut hn hs hl hlen e1 e2 hm hsa hsb hal hbl hpost ha0 h0
      go_wp2_with (first
        | (go_at_call 48; go_must (refine (C1.out _).mono ?_); rintro e w' ⟨rfl, rfl⟩)
        | ((with_reducible show wpList _ _ _ (⟨none, _, _, _, _, _⟩ :: _) _ _); go_must (refine wpList_storeB AH rfl (.tmp 2) (.tmp 24) rfl H 0 rfl [.string ⟨#[]⟩, .string ⟨#[]⟩] rfl rfl _ _ HW.out.1 (by decide) (by simp [Value.oneCell']) ?_); intro w2 hB2 hg2 hz2
           have c0 := hB2.cell 0
           have c1 := hB2.cell 1
           simp only [splice, List.take_zero, List.nil_append, List.length_cons, List.length_nil, List.drop_succ_cons, List.drop_zero, List.append_nil, List.getElem?_cons_zero, List.getElem?_cons_succ, Nat.zero_add, List.drop_nil] at c0 c1))
      refine bodyPost_ret (v := .tuple #[.agg #[.string ⟨#[]⟩, .string ⟨#[]⟩], .bool false]) (by simp [results, Tryd.results53, go_sem, c0, c1]) rfl ?_
      unfold FieldPost
      rw [HP.out]
      exact ⟨rfl, (HW.out.2.1).grown hg2 (by have := HW.out.2.2.1; omega) (fun k hk => by injection hk with hk; have := HW.out.2.2.2; omega)⟩
    · have d0 : decide ((m : Int) < 1) = false := by rw [decide_eq_false_iff_not]; omega
      have d1 : ¬ (m : Int) < 1 := of_decide_eq_false d0
      obtain ⟨ba, hba⟩ : ∃ x, x = a.all tokB := ⟨_, rfl⟩
      obtain ⟨bb, hbb⟩ : ∃ x, x = b.all valB := ⟨_, rfl⟩
      have c2 := fun W => allOf_tok a W hal
      have c3 := fun W => allOf_val b W hbl
      rw [← hba, ← hsa] at c2
      rw [← hbb, ← hsb] at c3
      have C2 := Lib.hid c2
      have C3 := Lib.hid c3
      have ht : hdrOf l = if ba = true ∧ bb = true then some (a, trimL b) else none := by
        rw [hpost, hba, hbb]
        have hne : a ≠ [] := fun e => h0 (by rw [hm, e]; rfl)
        simp [hne]
      clear c2 c3 hba hbb hpost hi him hcut hn hs hl hlen hm h0
      cases ba
      · clear e2
        have HP : hdrOf l = none := by rw [ht]; rfl
        have HP := Lib.hid HP
        clear ht hsa hsb hal hbl
        go_wp2_with (first
          | (go_at_call 48; go_must (refine (C1.out _).mono ?_); rintro e w' ⟨rfl, rfl⟩)
          | (go_at_call 50; (with_reducible show Calls _ _ #[.string sa, _] _ _); go_must (refine (C2.out _).mono ?_); rintro e w' ⟨rfl, rfl⟩)
          | ((with_reducible show wpList _ _ _ (⟨none, _, _, _, _, _⟩ :: _) _ _); go_must (refine wpList_storeB AH rfl (.tmp 2) (.tmp 24) rfl H 0 rfl [.string ⟨#[]⟩, .string ⟨#[]⟩] rfl rfl _ _ HW.out.1 (by decide) (by simp [Value.oneCell']) ?_); intro w2 hB2 hg2 hz2
             have c0 := hB2.cell 0
             have c1 := hB2.cell 1
             simp only [splice, List.take_zero, List.nil_append, List.length_cons, List.length_nil, List.drop_succ_cons, List.drop_zero, List.append_nil, List.getElem?_cons_zero, List.getElem?_cons_succ, Nat.zero_add, List.drop_nil] at c0 c1))
        refine bodyPost_ret (v := .tuple #[.agg #[.string ⟨#[]⟩, .string ⟨#[]⟩], .bool false]) (by simp [results, Tryd.results53, go_sem, c0, c1]) rfl ?_
        unfold FieldPost
        rw [HP.out]
        exact ⟨rfl, (HW.out.2.1).grown hg2 (by have := HW.out.2.2.1; omega) (fun k hk => by injection hk with hk; have := HW.out.2.2.2; omega)⟩

      · cases bb
        · skip
          have HP : hdrOf l = none := by rw [ht]; rfl
          have HP := Lib.hid HP
          clear ht hsa hsb hal hbl
          go_wp2_with (first
            | (go_at_call 48; go_must (refine (C1.out _).mono ?_); rintro e w' ⟨rfl, rfl⟩)
            | (go_at_call 50; (with_reducible show Calls _ _ #[.string sa, _] _ _); go_must (refine (C2.out _).mono ?_); rintro e w' ⟨rfl, rfl⟩)
            | (go_at_call 50; go_must (refine (C3.out _).mono ?_); rintro e w' ⟨rfl, rfl⟩)
            | ((with_reducible show wpList _ _ _ (⟨none, _, _, _, _, _⟩ :: _) _ _); go_must (refine wpList_storeB AH rfl (.tmp 2) (.tmp 24) rfl H 0 rfl [.string ⟨#[]⟩, .string ⟨#[]⟩] rfl rfl _ _ HW.out.1 (by decide) (by simp [Value.oneCell']) ?_); intro w2 hB2 hg2 hz2
               have c0 := hB2.cell 0
               have c1 := hB2.cell 1
               simp only [splice, List.take_zero, List.nil_append, List.length_cons, List.length_nil, List.drop_succ_cons, List.drop_zero, List.append_nil, List.getElem?_cons_zero, List.getElem?_cons_succ, Nat.zero_add, List.drop_nil] at c0 c1))
          refine bodyPost_ret (v := .tuple #[.agg #[.string ⟨#[]⟩, .string ⟨#[]⟩], .bool false]) (by simp [results, Tryd.results53, go_sem, c0, c1]) rfl ?_
          unfold FieldPost
          rw [HP.out]
          exact ⟨rfl, (HW.out.2.1).grown hg2 (by have := HW.out.2.2.1; omega) (fun k hk => by injection hk with hk; have := HW.out.2.2.2; omega)⟩

        · have HP : hdrOf l = some (a, trimL b) := by rw [ht]; rfl
          have HP := Lib.hid HP
          have c4 := fun W => trim_any b W hbl
          rw [← hsb] at c4
          obtain ⟨st, hst⟩ : ∃ x, x = (⟨(trimL b).toArray⟩ : ByteArray) := ⟨_, rfl⟩
          rw [← hst] at c4
          have C4 := Lib.hid c4
          have HS := Lib.hid (And.intro hsa hst)
          clear ht hsa hsb hal hbl c4 hst
          go_upto_region 4 with (first
            | (go_at_call 48; go_must (refine (C1.out _).mono ?_); rintro e w' ⟨rfl, rfl⟩)
            | (go_at_call 50; (with_reducible show Calls _ _ #[.string sa, _] _ _); go_must (refine (C2.out _).mono ?_); rintro e w' ⟨rfl, rfl⟩)
            | (go_at_call 50; go_must (refine (C3.out _).mono ?_); rintro e w' ⟨rfl, rfl⟩))
          try simp only [Act.put, List.setIfInBounds_toArray, List.set_cons_succ, List.set_cons_zero]
          refine wp_region_qbT 9 (by kernel_rfl) (by kernel_rfl) ?_
          simp only [List.take_succ_cons, List.take_zero, List.drop_succ_cons, List.drop_zero]
          go_big_quiet_step (fail)
          go_big_quiet_step (fail)
          refine wq_val (o := ⟨some 27, _, _, _, _, _⟩) (v := .string sa) rfl (fun w' hC => by first | (go_simp; done) | (go_simp; intro h; omega)) ?_
          simp only [Act.put, List.setIfInBounds_toArray, List.set_cons_succ, List.set_cons_zero]
          go_big_quiet_step (fail)
          go_big_quiet_step (fail)
          refine wq_val (o := ⟨some 30, _, _, _, _, _⟩) (v := .int .i64 ((m : Int) + 1)) rfl (fun w' hC => by go_simp) ?_
          simp only [Act.put, List.setIfInBounds_toArray, List.set_cons_succ, List.set_cons_zero]
          refine wq_val (o := ⟨some 31, _, _, _, _, _⟩) (v := .string sb) rfl (fun w' hC => by first | (go_simp; done) | (go_simp; intro h; omega)) ?_
          simp only [Act.put, List.setIfInBounds_toArray, List.set_cons_succ, List.set_cons_zero]
          refine wq_call (f := 60) (args := #[.string sb]) (v := .string st) rfl (fun w' _ => by go_simp) (fun w' hC => C4.out w') ?_
          simp only [Act.put, List.setIfInBounds_toArray, List.set_cons_succ, List.set_cons_zero]
          refine wq_val (o := ⟨some 33, _, _, _, _, _⟩) (v := .agg #[.string sa, .string st]) rfl (fun w' hC => by go_simp) ?_
          simp only [Act.put, List.setIfInBounds_toArray, List.set_cons_succ, List.set_cons_zero]
          refine wpQuiet_nil ?_
          intro w5 h5
          have HX := Lib.hid (And.intro (HW.out.1.grow h5) (And.intro (HW.out.2.1.trans (h5.mono HW.out.2.2.1)) h5.size))
          clear h5
          refine wpList_storeB AH rfl (.tmp 2) (.tmp 33) rfl H 0 rfl [.string sa, .string st] rfl rfl _ _ HX.out.1 (by simp) (by simp [Value.oneCell']) ?_
          intro w2 hB2 hg2 hz2
          have c0 := hB2.cell 0
          have c1 := hB2.cell 1
          simp only [splice, List.take_zero, List.nil_append, List.length_cons, List.length_nil, List.drop_succ_cons, List.drop_zero, List.append_nil, List.getElem?_cons_zero, List.getElem?_cons_succ, Nat.zero_add, List.drop_nil] at c0 c1
          try simp only [Act.put, List.setIfInBounds_toArray, List.set_cons_succ, List.set_cons_zero]
          go_wp2
          refine bodyPost_ret (v := .tuple #[.agg #[.string sa, .string st], .bool true]) (by simp [results, Tryd.results53, go_sem, c0, c1]) rfl ?_
          unfold FieldPost
          rw [HP.out]
          exact ⟨by rw [HS.out.1, HS.out.2]; rfl, (HX.out.2.1).grown hg2 (by have := HW.out.2.2.1; have := HX.out.2.2; omega) (fun k hk => by injection hk with hk; have := HW.out.2.2.2; omega)⟩
set_option maxHeartbeats 4000000 in
theorem rheader_any (l : List UInt8) (w : World) (hl : l.length ≤ 1073741824) : Calls Tryd.prog 64 #[.string ⟨l.toArray⟩] w (FieldPost w l) := by
  obtain ⟨n, hn⟩ : ∃ n, n = l.length := ⟨_, rfl⟩
  obtain ⟨s, hs⟩ : ∃ s, s = (⟨l.toArray⟩ : ByteArray) := ⟨_, rfl⟩
  have hsz : s.size = n := by rw [hs, hn]; simp [ByteArray.size]
  have hni : (n : Int) ≤ 1073741824 := by omega
  obtain ⟨i, hi⟩ : ∃ i, i = Lib.indexByte l 58 := ⟨_, rfl⟩
  have c1 := fun w => find_any l 58 w hl
  rw [← hi] at c1
  rw [← hs] at c1 ⊢
  have C1 := Lib.hid c1
  clear c1
  go_enter Tryd.func64, Tryd.ntmps64
  go_upto_region 1 with fail
  obtain ⟨w1, hw1⟩ : ∃ x, x = w.alloc (.cells #[.string ⟨#[]⟩, .string ⟨#[]⟩] 58) := ⟨_, rfl⟩
  rw [← hw1]
  have hb1 : Below w.heap.size w w1 := hw1 ▸ ga (gr w) _
  have hB1 : Blk w1 w.heap.size 58 [.string ⟨#[]⟩, .string ⟨#[]⟩] := hw1 ▸ Blk.new w _ _
  obtain ⟨H, hH⟩ : ∃ H, H = w.heap.size := ⟨_, rfl⟩
  rw [← hH] at hB1 ⊢
  have HW := Lib.hid (And.intro hB1 (And.intro hb1 (And.intro hb1.size (by omega : w.heap.size ≤ H))))
  clear hb1 hB1 hw1 hH
  cases hcut : cutL 58 l with
  | none =>
    have d0 : decide (i < 0) = true := by rw [hi, indexByte_cut, hcut]; rfl
    have d1 : i < 0 := of_decide_eq_true d0
    have HP : hdrOf l = none := by exact hdr_none hcut
    have HP := Lib.hid HP
    clear hi hcut hn hs hl
    go_wp2_with (first
      | (go_at_call 62; go_must (refine (C1.out _).mono ?_); rintro e w' ⟨rfl, rfl⟩)
      | ((with_reducible show wpList _ _ _ (⟨none, _, _, _, _, _⟩ :: _) _ _); go_must (refine wpList_storeB AH rfl (.tmp 2) (.tmp 24) rfl H 0 rfl [.string ⟨#[]⟩, .string ⟨#[]⟩] rfl rfl _ _ HW.out.1 (by decide) (by simp [Value.oneCell']) ?_); intro w2 hB2 hg2 hz2
         have c0 := hB2.cell 0
         have c1 := hB2.cell 1
         simp only [splice, List.take_zero, List.nil_append, List.length_cons, List.length_nil, List.drop_succ_cons, List.drop_zero, List.append_nil, List.getElem?_cons_zero, List.getElem?_cons_succ, Nat.zero_add, List.drop_nil] at c0 c1))
    refine bodyPost_ret (v := .tuple #[.agg #[.string ⟨#[]⟩, .string ⟨#[]⟩], .bool false]) (by simp [results, Tryd.results64, go_sem, c0, c1]) rfl ?_
    unfold FieldPost
    rw [HP.out]
    exact ⟨rfl, (HW.out.2.1).grown hg2 (by have := HW.out.2.2.1; omega) (fun k hk => by injection hk with hk; have := HW.out.2.2.2; omega)⟩

  | some p =>
    obtain ⟨a, b⟩ := p
    have him : i = (a.length : Int) := by rw [hi, indexByte_cut, hcut]
    have hlen := cutL_len hcut
    obtain ⟨e1, e2⟩ := ext_two hcut
    obtain ⟨m, hm⟩ : ∃ m, m = a.length := ⟨_, rfl⟩
    obtain ⟨sa, hsa⟩ : ∃ x, x = (⟨a.toArray⟩ : ByteArray) := ⟨_, rfl⟩
    obtain ⟨sb, hsb⟩ : ∃ x, x = (⟨b.toArray⟩ : ByteArray) := ⟨_, rfl⟩
    rw [← hs, ← hm, ← hsa] at e1
    rw [← hs, ← hm, ← hsb, ← hn] at e2
    have hal : a.length ≤ 1073741824 := by omega
    have hbl : b.length ≤ 1073741824 := by omega
    have hmi : (m : Int) + 1 ≤ (n : Int) := by omega
    have hmr : IntKind.i64.wrap ((m : Int) + 1) = (m : Int) + 1 := by simp [IntKind.wrap, IntKind.bits, IntKind.signed]; omega
    have hnm : ¬ n < m := by omega
    have hnm1 : ¬ n < m + 1 := by omega
    have hmw : wrap64 ((m : Int) + 1) = (m : Int) + 1 := by unfold wrap64; omega
    obtain rfl : i = (m : Int) := by rw [him, hm]
    have hpost := hdr_some hcut
    by_cases h0 : m = 0 ∧ False
    · exact absurd h0.2 (fun h => h)
    · have d0 : decide ((m : Int) < 0) = false := by rw [decide_eq_false_iff_not]; omega
      have d1 : ¬ (m : Int) < 0 := of_decide_eq_false d0
      obtain ⟨ba, hba⟩ : ∃ x, x = (a.all tokB && decide (a ≠ [])) := ⟨_, rfl⟩
      obtain ⟨bb, hbb⟩ : ∃ x, x = b.all valB := ⟨_, rfl⟩
      have c2 := fun W => rtoken_any a W hal
      have c3 := fun W => rvalue_any b W hbl
      rw [← hba, ← hsa] at c2
      rw [← hbb, ← hsb] at c3
      have C2 := Lib.hid c2
      have C3 := Lib.hid c3
      have ht : hdrOf l = if ba = true ∧ bb = true then some (a, trimL b) else none := by
        rw [hpost, hba, hbb]
        congr 1; simp [and_comm, and_left_comm, and_assoc]
      clear c2 c3 hba hbb hpost hi him hcut hn hs hl hlen hm h0
      cases ba
      · clear e2
        have HP : hdrOf l = none := by rw [ht]; rfl
        have HP := Lib.hid HP
        clear ht hsa hsb hal hbl
        go_wp2_with (first
          | (go_at_call 62; go_must (refine (C1.out _).mono ?_); rintro e w' ⟨rfl, rfl⟩)
          | (go_at_call 63; go_must (refine (C2.out _).mono ?_); rintro e w' ⟨rfl, rfl⟩)
          | ((with_reducible show wpList _ _ _ (⟨none, _, _, _, _, _⟩ :: _) _ _); go_must (refine wpList_storeB AH rfl (.tmp 2) (.tmp 24) rfl H 0 rfl [.string ⟨#[]⟩, .string ⟨#[]⟩] rfl rfl _ _ HW.out.1 (by decide) (by simp [Value.oneCell']) ?_); intro w2 hB2 hg2 hz2
             have c0 := hB2.cell 0
             have c1 := hB2.cell 1
             simp only [splice, List.take_zero, List.nil_append, List.length_cons, List.length_nil, List.drop_succ_cons, List.drop_zero, List.append_nil, List.getElem?_cons_zero, List.getElem?_cons_succ, Nat.zero_add, List.drop_nil] at c0 c1))
        refine bodyPost_ret (v := .tuple #[.agg #[.string ⟨#[]⟩, .string ⟨#[]⟩], .bool false]) (by simp [results, Tryd.results64, go_sem, c0, c1]) rfl ?_
        unfold FieldPost
        rw [HP.out]
        exact ⟨rfl, (HW.out.2.1).grown hg2 (by have := HW.out.2.2.1; omega) (fun k hk => by injection hk with hk; have := HW.out.2.2.2; omega)⟩

      · cases bb
        · skip
          have HP : hdrOf l = none := by rw [ht]; rfl
          have HP := Lib.hid HP
          clear ht hsa hsb hal hbl
          go_wp2_with (first
            | (go_at_call 62; go_must (refine (C1.out _).mono ?_); rintro e w' ⟨rfl, rfl⟩)
            | (go_at_call 63; go_must (refine (C2.out _).mono ?_); rintro e w' ⟨rfl, rfl⟩)
            | (go_at_call 79; go_must (refine (C3.out _).mono ?_); rintro e w' ⟨rfl, rfl⟩)
            | ((with_reducible show wpList _ _ _ (⟨none, _, _, _, _, _⟩ :: _) _ _); go_must (refine wpList_storeB AH rfl (.tmp 2) (.tmp 24) rfl H 0 rfl [.string ⟨#[]⟩, .string ⟨#[]⟩] rfl rfl _ _ HW.out.1 (by decide) (by simp [Value.oneCell']) ?_); intro w2 hB2 hg2 hz2
               have c0 := hB2.cell 0
               have c1 := hB2.cell 1
               simp only [splice, List.take_zero, List.nil_append, List.length_cons, List.length_nil, List.drop_succ_cons, List.drop_zero, List.append_nil, List.getElem?_cons_zero, List.getElem?_cons_succ, Nat.zero_add, List.drop_nil] at c0 c1))
          refine bodyPost_ret (v := .tuple #[.agg #[.string ⟨#[]⟩, .string ⟨#[]⟩], .bool false]) (by simp [results, Tryd.results64, go_sem, c0, c1]) rfl ?_
          unfold FieldPost
          rw [HP.out]
          exact ⟨rfl, (HW.out.2.1).grown hg2 (by have := HW.out.2.2.1; omega) (fun k hk => by injection hk with hk; have := HW.out.2.2.2; omega)⟩

        · have HP : hdrOf l = some (a, trimL b) := by rw [ht]; rfl
          have HP := Lib.hid HP
          have c4 := fun W => rtrim_any b W hbl
          rw [← hsb] at c4
          obtain ⟨st, hst⟩ : ∃ x, x = (⟨(trimL b).toArray⟩ : ByteArray) := ⟨_, rfl⟩
          rw [← hst] at c4
          have C4 := Lib.hid c4
          have HS := Lib.hid (And.intro hsa hst)
          clear ht hsa hsb hal hbl c4 hst
          go_upto_region 4 with (first
            | (go_at_call 62; go_must (refine (C1.out _).mono ?_); rintro e w' ⟨rfl, rfl⟩)
            | (go_at_call 63; go_must (refine (C2.out _).mono ?_); rintro e w' ⟨rfl, rfl⟩)
            | (go_at_call 79; go_must (refine (C3.out _).mono ?_); rintro e w' ⟨rfl, rfl⟩))
          try simp only [Act.put, List.setIfInBounds_toArray, List.set_cons_succ, List.set_cons_zero]
          refine wp_region_qbT 9 (by kernel_rfl) (by kernel_rfl) ?_
          simp only [List.take_succ_cons, List.take_zero, List.drop_succ_cons, List.drop_zero]
          go_big_quiet_step (fail)
          go_big_quiet_step (fail)
          refine wq_val (o := ⟨some 27, _, _, _, _, _⟩) (v := .string sa) rfl (fun w' hC => by first | (go_simp; done) | (go_simp; intro h; omega)) ?_
          simp only [Act.put, List.setIfInBounds_toArray, List.set_cons_succ, List.set_cons_zero]
          go_big_quiet_step (fail)
          go_big_quiet_step (fail)
          refine wq_val (o := ⟨some 30, _, _, _, _, _⟩) (v := .int .i64 ((m : Int) + 1)) rfl (fun w' hC => by go_simp) ?_
          simp only [Act.put, List.setIfInBounds_toArray, List.set_cons_succ, List.set_cons_zero]
          refine wq_val (o := ⟨some 31, _, _, _, _, _⟩) (v := .string sb) rfl (fun w' hC => by first | (go_simp; done) | (go_simp; intro h; omega)) ?_
          simp only [Act.put, List.setIfInBounds_toArray, List.set_cons_succ, List.set_cons_zero]
          refine wq_call (f := 67) (args := #[.string sb]) (v := .string st) rfl (fun w' _ => by go_simp) (fun w' hC => (C4.out w').mono fun e w'' h => ⟨h.1, h.2 ▸ gr w'⟩) ?_
          simp only [Act.put, List.setIfInBounds_toArray, List.set_cons_succ, List.set_cons_zero]
          refine wq_val (o := ⟨some 33, _, _, _, _, _⟩) (v := .agg #[.string sa, .string st]) rfl (fun w' hC => by go_simp) ?_
          simp only [Act.put, List.setIfInBounds_toArray, List.set_cons_succ, List.set_cons_zero]
          refine wpQuiet_nil ?_
          intro w5 h5
          have HX := Lib.hid (And.intro (HW.out.1.grow h5) (And.intro (HW.out.2.1.trans (h5.mono HW.out.2.2.1)) h5.size))
          clear h5
          refine wpList_storeB AH rfl (.tmp 2) (.tmp 33) rfl H 0 rfl [.string sa, .string st] rfl rfl _ _ HX.out.1 (by simp) (by simp [Value.oneCell']) ?_
          intro w2 hB2 hg2 hz2
          have c0 := hB2.cell 0
          have c1 := hB2.cell 1
          simp only [splice, List.take_zero, List.nil_append, List.length_cons, List.length_nil, List.drop_succ_cons, List.drop_zero, List.append_nil, List.getElem?_cons_zero, List.getElem?_cons_succ, Nat.zero_add, List.drop_nil] at c0 c1
          try simp only [Act.put, List.setIfInBounds_toArray, List.set_cons_succ, List.set_cons_zero]
          go_wp2
          refine bodyPost_ret (v := .tuple #[.agg #[.string sa, .string st], .bool true]) (by simp [results, Tryd.results64, go_sem, c0, c1]) rfl ?_
          unfold FieldPost
          rw [HP.out]
          exact ⟨by rw [HS.out.1, HS.out.2]; rfl, (HX.out.2.1).grown hg2 (by have := HW.out.2.2.1; have := HX.out.2.2; omega) (fun k hk => by injection hk with hk; have := HW.out.2.2.2; omega)⟩
end Go.Proofs.YtojemdggbcklkaaDoor.WireR
