/- uri: Target, both; the reference's cut. -/
import Derived.Test.YtompcngeikjfiaaDoorUri7
namespace Go.Proofs.YtompcngeikjfiaaDoor.Uri
open Go.RowKit Go.Proofs.YtompcngeikjfiaaDoor.Mem Go.Proofs.YtompcngeikjfiaaDoor.Seal Go.Proofs.YtompcngeikjfiaaDoor.Strs Go.Proofs.YtompcngeikjfiaaDoor.Split
set_option linter.unusedVariables false

def badT (c : UInt8) : Bool := decide (c.toNat < 33) || decide (126 < c.toNat) || decide (c.toNat = 35)
def target (l : List UInt8) : Nat × List UInt8 × List UInt8 :=
  match l with
  | [] => (271, [], [])
  | x :: r => if x = 47 then if (x :: r).any badT = true then (271, [], []) else match unesc false (cutR 63 (x :: r)).1 with | none => (270, [], []) | some p => (0, p, (cutR 63 (x :: r)).2) else (271, [], [])
def TPost (w : World) (o : Nat × List UInt8 × List UInt8) (e : Ending) (w' : World) : Prop :=
  e = .returned (.tuple #[.string ⟨o.2.1.toArray⟩, .string ⟨o.2.2.toArray⟩, .int .i64 (o.1 : Int)]) ∧ Below w.heap.size w w'
theorem target_off {x : UInt8} {r : List UInt8} (h : ¬ x = 47) : target (x :: r) = (271, [], []) := by unfold target; simp only; rw [if_neg h]
theorem target_bad {l : List UInt8} {k : Nat} (hk : k < l.length) (h : badT l[k] = true) : target l = (271, [], []) := by
  rcases l with _ | ⟨x, r⟩
  · rfl
  · unfold target; simp only
    rw [if_pos (List.any_eq_true.2 ⟨_, List.getElem_mem hk, h⟩)]
    split <;> rfl
theorem target_none {x : UInt8} {r : List UInt8} (hx : x = 47) (h : ∀ c ∈ x :: r, badT c = false) (hu : unesc false (cutR 63 (x :: r)).1 = none) : target (x :: r) = (270, [], []) := by
  unfold target; simp only
  rw [if_pos hx, if_neg (by intro hh; obtain ⟨c, hc, hb⟩ := List.any_eq_true.1 hh; rw [h c hc] at hb; cases hb), hu]
theorem target_some {x : UInt8} {r p : List UInt8} (hx : x = 47) (h : ∀ c ∈ x :: r, badT c = false) (hu : unesc false (cutR 63 (x :: r)).1 = some p) : target (x :: r) = (0, p, (cutR 63 (x :: r)).2) := by
  unfold target; simp only
  rw [if_pos hx, if_neg (by intro hh; obtain ⟨c, hc, hb⟩ := List.any_eq_true.1 hh; rw [h c hc] at hb; cases hb), hu]
theorem badT_cases {c : UInt8} (h : badT c = true) : c.toNat < 33 ∨ (¬ c.toNat < 33 ∧ 126 < c.toNat) ∨ (¬ c.toNat < 33 ∧ ¬ 126 < c.toNat ∧ c.toNat = 35) := by
  unfold badT at h
  simp only [Bool.or_eq_true, decide_eq_true_eq] at h
  omega
theorem badT_not {c : UInt8} (h : badT c = false) : ¬ c.toNat < 33 ∧ ¬ 126 < c.toNat ∧ ¬ c.toNat = 35 := by
  unfold badT at h
  simp only [Bool.or_eq_false_iff, decide_eq_false_iff_not] at h
  omega
theorem take_ok {l : List UInt8} {k : Nat} (hk : k < l.length) (h : ∀ c ∈ l.take k, badT c = false) (hx : badT l[k] = false) : ∀ c ∈ l.take (k + 1), badT c = false := by
  rw [take_succ_ hk]
  intro c hc
  rcases List.mem_append.1 hc with h1 | h1
  · exact h c h1
  · rw [List.mem_singleton.1 h1]; exact hx

set_option maxRecDepth 4000 in
set_option maxHeartbeats 1600000 in
theorem rcut_any (l : List UInt8) (c : UInt8) (w : World) (hl : l.length ≤ 1152921504606846976) :
    Calls Tryd.prog 35 #[.string ⟨l.toArray⟩, .int .u8 c.toNat] w fun e w' => e = .returned (.tuple #[strOf (cutR c l).1, strOf (cutR c l).2]) ∧ Below w.heap.size w w' := by
  obtain ⟨n, hn⟩ : ∃ n, n = l.length := ⟨_, rfl⟩
  have hni : (n : Int) ≤ 1152921504606846976 := by omega
  obtain ⟨s, hs⟩ : ∃ s, s = (⟨l.toArray⟩ : ByteArray) := ⟨_, rfl⟩
  have hsz : s.size = n := by rw [hs, hn]; simp [ByteArray.size]
  rw [← hs]
  have HA := Lib.hid (And.intro hn hs)
  clear hn hs hl
  go_enter Tryd.func35, Tryd.ntmps35
  go_wp2_with fail
  go_loopw [6] (fun v wr => ∃ k : Nat, k ≤ n ∧ v = .int .i64 k ∧ c ∉ l.take k ∧ Below w.heap.size w wr) (fun v _ => n - (intOf v).toNat)
  case atStart => exact ⟨0, by omega, rfl, by simp, gr w⟩
  case round =>
    obtain ⟨k, hk, rfl, hno, hb⟩ := hrel
    by_cases hlt : k < n
    · have hkl : k < l.length := by have := HA.out.1; omega
      obtain ⟨x, hx⟩ : ∃ x, x = l[k] := ⟨_, rfl⟩
      have hks : k < s.size := by omega
      have hsx : s[k] = x := by rw [hx]; exact str_at HA.out.2 hkl hks
      have hki : (k : Int) < (n : Int) := by omega
      have hk0 : (0 : Int) ≤ (k : Int) := by omega
      have hdr : l = l.take k ++ x :: l.drop (k + 1) := by rw [hx, ← List.drop_eq_getElem_cons hkl, List.take_append_drop]
      have hln : (l.take k).length = k := by rw [List.length_take]; omega
      have HD := Lib.hid (And.intro hx (And.intro hno (And.intro hb (And.intro hdr hln))))
      clear hx hno hb hdr hln
      by_cases hc : x = c
      · have hci : (x.toNat : Int) = (c.toNat : Int) := by rw [hc]
        have hcut : cutR c l = (l.take k, l.drop (k + 1)) := by
          unfold cutR
          have := HD.out.2.2.2.1
          rw [hc] at this
          rw [show cutL c l = some (l.take k, l.drop (k + 1)) by conv => lhs; rw [this, cutL_of HD.out.2.1]]
        have e1 : s.extract 0 k = ⟨(l.take k).toArray⟩ := by
          have := ext_head (l.take k) (x :: l.drop (k + 1))
          rw [HD.out.2.2.2.2, ← HD.out.2.2.2.1] at this
          rw [HA.out.2]; exact this
        have e2 : s.extract (k + 1) n = ⟨(l.drop (k + 1)).toArray⟩ := by
          have hn' : n = (l.take k ++ [x] ++ l.drop (k + 1)).length := by rw [List.append_assoc, HA.out.1]; exact congrArg List.length HD.out.2.2.2.1
          have := ext_tail (l.take k ++ [x]) (l.drop (k + 1))
          rw [← hn', show (l.take k ++ [x]).length = k + 1 by rw [List.length_append, HD.out.2.2.2.2]; rfl] at this
          rw [HA.out.2, ← this, List.append_assoc, List.singleton_append, ← HD.out.2.2.2.1]
        obtain ⟨k1, hk1⟩ : ∃ k1, k1 = k + 1 := ⟨_, rfl⟩
        have q1 : (k : Int) + 1 = (k1 : Int) := by omega
        have q2 : IntKind.i64.wrap (k1 : Int) = (k1 : Int) := by simp [IntKind.wrap, IntKind.bits, IntKind.signed]; omega
        have q3 : (0 : Int) ≤ (k1 : Int) := by omega
        have q4 : (k1 : Int) ≤ (n : Int) := by omega
        have q5 : (k : Int) ≤ (n : Int) := by omega
        rw [← hk1] at e2 hcut
        have HE := Lib.hid (And.intro hcut hk1)
        clear hcut hc hk1 hlt
        go_upto_region 5 with fail
        go_quiet (fail)
        go_wp2_with fail
        go_ret2
        rw [HE.out.1]
        unfold strOf
        exact ⟨rfl, gn HD.out.2.2.1 _⟩
      · have hci : ¬ (x.toNat : Int) = (c.toNat : Int) := by intro e; exact hc (UInt8.toNat_inj.1 (by omega))
        have hno' : c ∉ l.take (k + 1) := by
          rw [take_succ_ hkl, List.mem_append, List.mem_singleton]
          rintro (h | h)
          · exact HD.out.2.1 h
          · exact hc (by rw [HD.out.1, h])
        have HE := Lib.hid hno'
        clear hno' hc hlt
        go_wp2_with fail
        exact ⟨⟨k + 1, by omega, by go_num, HE.out, HD.out.2.2.1⟩, by simp [intOf]; omega⟩
    · obtain rfl : k = n := by omega
      rw [List.take_of_length_le (by have := HA.out.1; omega)] at hno
      have hcut : cutR c l = (l, []) := by unfold cutR; rw [cutL_not hno]
      have HE := Lib.hid (And.intro hcut hb)
      have hkk : ¬ (k : Int) < (k : Int) := by omega
      clear hcut hno hb hlt
      go_wp2_with fail
      go_ret2
      rw [HE.out.1, HA.out.2]
      unfold strOf
      exact ⟨rfl, HE.out.2⟩

set_option maxRecDepth 4000 in
set_option maxHeartbeats 3200000 in
theorem target_any (l : List UInt8) (w : World) (hl : l.length ≤ 1073741824) :
    Calls Tryd.prog 19 #[.string ⟨l.toArray⟩] w (TPost w (target l)) := by
  rcases l with _ | ⟨x0, r⟩
  · go_enter Tryd.func19, Tryd.ntmps19
    go_wp2_with fail
    go_ret3
    exact ⟨rfl, gr w⟩
  obtain ⟨l, hll⟩ : ∃ l, l = x0 :: r := ⟨_, rfl⟩
  have hl0 : 0 < l.length := by rw [hll]; simp
  rw [← hll] at hl ⊢
  obtain ⟨n, hn⟩ : ∃ n, n = l.length := ⟨_, rfl⟩
  have hni : (n : Int) ≤ 1073741824 := by omega
  have hn0 : (0 : Int) < (n : Int) := by omega
  obtain ⟨s, hs⟩ : ∃ s, s = (⟨l.toArray⟩ : ByteArray) := ⟨_, rfl⟩
  have hsz : s.size = n := by rw [hs, hn]; simp [ByteArray.size]
  have hs0 : 0 < s.size := by omega
  have hsx0 : s[0] = x0 := by
    rw [str_at hs hl0 hs0]
    simp [hll]
  have hne : (s.toList == []) = false := by
    rw [hs]
    rw [show (⟨l.toArray⟩ : ByteArray).toList = l by rw [ByteArray.toList_eq]]
    rw [hll]; rfl
  rw [← hs]
  have HA := Lib.hid (And.intro hn (And.intro hs hll))
  have HL := Lib.hid hl
  clear hn hs hl hll hl0
  by_cases h47 : x0 = 47
  · have hx0 : (x0.toNat : Int) = 47 := by rw [h47]; rfl
    have H47 := Lib.hid h47
    clear h47
    go_enter Tryd.func19, Tryd.ntmps19
    go_wp2_with fail
    clear hne hsx0 hx0 hs0
    go_loopw [5, 18] (fun _ v wr => ∃ k : Nat, k ≤ n ∧ v = .int .i64 k ∧ (∀ c ∈ l.take k, badT c = false) ∧ Below w.heap.size w wr) (fun _ v _ => n - (intOf v).toNat)
    case atStart => exact ⟨0, by omega, rfl, by simp, gr w⟩
    case round =>
      obtain ⟨k, hk, rfl, hno, hb⟩ := hrel
      by_cases hlt : k < n
      · have hkl : k < l.length := by have := HA.out.1; omega
        obtain ⟨x, hx⟩ : ∃ x, x = l[k] := ⟨_, rfl⟩
        have hks : k < s.size := by omega
        have hsx : s[k] = x := by rw [hx]; exact str_at HA.out.2.1 hkl hks
        have hki : (k : Int) < (n : Int) := by omega
        have hk0 : (0 : Int) ≤ (k : Int) := by omega
        have HD := Lib.hid (And.intro hx (And.intro hno hb))
        have HK := Lib.hid hkl
        clear hx hno hb hlt
        cases hbx : badT x with
        | true =>
          have hbad : target l = (271, [], []) := target_bad HK.out (by rw [← HD.out.1]; exact hbx)
          have HB := Lib.hid hbad
          clear hbad
          rcases badT_cases hbx with h1 | ⟨h1, h2⟩ | ⟨h1, h2, h3⟩
          · have i1 : (x.toNat : Int) < 33 := by omega
            clear h1 hbx
            go_wp2_with fail
            go_ret3
            exact ⟨by rw [HB.out]; rfl, HD.out.2.2⟩
          · have i1 : ¬ (x.toNat : Int) < 33 := by omega
            have i2 : 126 < (x.toNat : Int) := by omega
            clear h1 h2 hbx
            go_wp2_with fail
            go_ret3
            exact ⟨by rw [HB.out]; rfl, HD.out.2.2⟩
          · have i1 : ¬ (x.toNat : Int) < 33 := by omega
            have i2 : ¬ 126 < (x.toNat : Int) := by omega
            have i3 : (x.toNat : Int) = 35 := by omega
            clear h1 h2 h3 hbx
            go_wp2_with fail
            go_ret3
            exact ⟨by rw [HB.out]; rfl, HD.out.2.2⟩
        | false =>
          obtain ⟨h1, h2, h3⟩ := badT_not hbx
          have i1 : ¬ (x.toNat : Int) < 33 := by omega
          have i2 : ¬ 126 < (x.toNat : Int) := by omega
          have i3 : ¬ (x.toNat : Int) = 35 := by omega
          have HB := Lib.hid hbx
          clear h1 h2 h3 hbx
          go_wp2_with fail
          exact ⟨⟨k + 1, by omega, by go_num, take_ok HK.out HD.out.2.1 (by rw [← HD.out.1]; exact HB.out), HD.out.2.2⟩, by simp [intOf]; omega⟩
      · obtain rfl : k = n := by omega
        rw [List.take_of_length_le (by have := HA.out.1; omega)] at hno
        have HE := Lib.hid (And.intro hno hb)
        have hkk : ¬ (k : Int) < (k : Int) := by omega
        have hc := cutR_len 63 l
        obtain ⟨n1, hn1⟩ : ∃ n, n = (cutR 63 l).1 := ⟨_, rfl⟩
        obtain ⟨n2, hn2⟩ : ∃ n, n = (cutR 63 l).2 := ⟨_, rfl⟩
        have cC := Lib.hid (fun W => cut_one l 63 W (by have := HL.out; omega))
        rw [← HA.out.2.1] at cC
        have cU := Lib.hid (fun W => unescape_any n1 false W (by have := HL.out; rw [hn1]; omega))
        have HN := Lib.hid (And.intro hn1 hn2)
        clear hno hb hlt hn1 hn2 hc
        cases hu : unesc false n1 with
        | none =>
          have HU := Lib.hid hu
          rw [hu] at cU
          clear hu
          go_wp2_with (first
            | (go_at_call 37; go_must (refine (cC.out _).mono ?_); rintro e w1 ⟨hp1, hb1⟩; obtain ⟨bb, rfl⟩ := cutPost_eq hp1; clear hp1; rw [← HN.out.1, ← HN.out.2]; unfold strOf)
            | (go_at_call 12; go_must (refine (cU.out _).mono ?_); rintro e w2 ⟨rfl, hb2⟩))
          go_ret3
          have h1 := HE.out.1
          have h2 := HU.out
          rw [HN.out.1] at h2
          rw [HA.out.2.2] at h1 h2 ⊢
          rw [target_none H47.out h1 h2]
          exact ⟨rfl, gt (gt HE.out.2 hb1) hb2⟩
        | some p =>
          have HU := Lib.hid hu
          rw [hu] at cU
          clear hu
          go_wp2_with (first
            | (go_at_call 37; go_must (refine (cC.out _).mono ?_); rintro e w1 ⟨hp1, hb1⟩; obtain ⟨bb, rfl⟩ := cutPost_eq hp1; clear hp1; rw [← HN.out.1, ← HN.out.2]; unfold strOf)
            | (go_at_call 12; go_must (refine (cU.out _).mono ?_); rintro e w2 ⟨rfl, hb2⟩))
          go_ret3
          have h1 := HE.out.1
          have h2 := HU.out
          rw [HN.out.1] at h2
          have h3 := HN.out.2
          rw [HA.out.2.2] at h1 h2 h3 ⊢
          rw [target_some H47.out h1 h2, ← h3]
          exact ⟨rfl, gt (gt HE.out.2 hb1) hb2⟩
  · have hx0 : ¬ (x0.toNat : Int) = 47 := by intro e; exact h47 (UInt8.toNat_inj.1 (by have : (47 : UInt8).toNat = 47 := rfl; omega))
    have H47 := Lib.hid h47
    clear h47
    go_enter Tryd.func19, Tryd.ntmps19
    go_wp2_with fail
    go_ret3
    refine ⟨?_, gr w⟩
    rw [HA.out.2.2, target_off H47.out]
    rfl

set_option maxRecDepth 4000 in
set_option maxHeartbeats 3200000 in
theorem rtarget_any (l : List UInt8) (w : World) (hl : l.length ≤ 1073741824) :
    Calls Tryd.prog 18 #[.string ⟨l.toArray⟩] w (TPost w (target l)) := by
  rcases l with _ | ⟨x0, r⟩
  · go_enter Tryd.func18, Tryd.ntmps18
    go_wp2_with fail
    go_ret3
    exact ⟨rfl, gr w⟩
  obtain ⟨l, hll⟩ : ∃ l, l = x0 :: r := ⟨_, rfl⟩
  have hl0 : 0 < l.length := by rw [hll]; simp
  rw [← hll] at hl ⊢
  obtain ⟨n, hn⟩ : ∃ n, n = l.length := ⟨_, rfl⟩
  have hni : (n : Int) ≤ 1073741824 := by omega
  have hn0 : (0 : Int) < (n : Int) := by omega
  obtain ⟨s, hs⟩ : ∃ s, s = (⟨l.toArray⟩ : ByteArray) := ⟨_, rfl⟩
  have hsz : s.size = n := by rw [hs, hn]; simp [ByteArray.size]
  have hs0 : 0 < s.size := by omega
  have hsx0 : s[0] = x0 := by
    rw [str_at hs hl0 hs0]
    simp [hll]
  have hne : (s.toList == []) = false := by
    rw [hs]
    rw [show (⟨l.toArray⟩ : ByteArray).toList = l by rw [ByteArray.toList_eq]]
    rw [hll]; rfl
  rw [← hs]
  have HA := Lib.hid (And.intro hn (And.intro hs hll))
  have HL := Lib.hid hl
  clear hn hs hl hll hl0
  by_cases h47 : x0 = 47
  · have hx0 : (x0.toNat : Int) = 47 := by rw [h47]; rfl
    have H47 := Lib.hid h47
    clear h47
    go_enter Tryd.func18, Tryd.ntmps18
    go_wp2_with fail
    clear hne hsx0 hx0 hs0
    go_loopw [5] (fun v wr => ∃ k : Nat, k ≤ n ∧ v = .int .i64 k ∧ (∀ c ∈ l.take k, badT c = false) ∧ Below w.heap.size w wr) (fun v _ => n - (intOf v).toNat)
    case atStart => exact ⟨0, by omega, rfl, by simp, gr w⟩
    case round =>
      obtain ⟨k, hk, rfl, hno, hb⟩ := hrel
      by_cases hlt : k < n
      · have hkl : k < l.length := by have := HA.out.1; omega
        obtain ⟨x, hx⟩ : ∃ x, x = l[k] := ⟨_, rfl⟩
        have hks : k < s.size := by omega
        have hsx : s[k] = x := by rw [hx]; exact str_at HA.out.2.1 hkl hks
        have hki : (k : Int) < (n : Int) := by omega
        have hk0 : (0 : Int) ≤ (k : Int) := by omega
        have HD := Lib.hid (And.intro hx (And.intro hno hb))
        have HK := Lib.hid hkl
        clear hx hno hb hlt
        cases hbx : badT x with
        | true =>
          have hbad : target l = (271, [], []) := target_bad HK.out (by rw [← HD.out.1]; exact hbx)
          have HB := Lib.hid hbad
          clear hbad
          rcases badT_cases hbx with h1 | ⟨h1, h2⟩ | ⟨h1, h2, h3⟩
          · have i1 : (x.toNat : Int) < 33 := by omega
            clear h1 hbx
            go_wp2_with fail
            go_ret3
            exact ⟨by rw [HB.out]; rfl, HD.out.2.2⟩
          · have i1 : ¬ (x.toNat : Int) < 33 := by omega
            have i2 : 126 < (x.toNat : Int) := by omega
            clear h1 h2 hbx
            go_wp2_with fail
            go_ret3
            exact ⟨by rw [HB.out]; rfl, HD.out.2.2⟩
          · have i1 : ¬ (x.toNat : Int) < 33 := by omega
            have i2 : ¬ 126 < (x.toNat : Int) := by omega
            have i3 : (x.toNat : Int) = 35 := by omega
            clear h1 h2 h3 hbx
            go_wp2_with fail
            go_ret3
            exact ⟨by rw [HB.out]; rfl, HD.out.2.2⟩
        | false =>
          obtain ⟨h1, h2, h3⟩ := badT_not hbx
          have i1 : ¬ (x.toNat : Int) < 33 := by omega
          have i2 : ¬ 126 < (x.toNat : Int) := by omega
          have i3 : ¬ (x.toNat : Int) = 35 := by omega
          have HB := Lib.hid hbx
          clear h1 h2 h3 hbx
          go_wp2_with fail
          exact ⟨⟨k + 1, by omega, by go_num, take_ok HK.out HD.out.2.1 (by rw [← HD.out.1]; exact HB.out), HD.out.2.2⟩, by simp [intOf]; omega⟩
      · obtain rfl : k = n := by omega
        rw [List.take_of_length_le (by have := HA.out.1; omega)] at hno
        have HE := Lib.hid (And.intro hno hb)
        have hkk : ¬ (k : Int) < (k : Int) := by omega
        have hc := cutR_len 63 l
        obtain ⟨n1, hn1⟩ : ∃ n, n = (cutR 63 l).1 := ⟨_, rfl⟩
        obtain ⟨n2, hn2⟩ : ∃ n, n = (cutR 63 l).2 := ⟨_, rfl⟩
        have cC := Lib.hid (fun W => rcut_any l 63 W (by have := HL.out; omega))
        rw [← HA.out.2.1] at cC
        have cU := Lib.hid (fun W => runescape_any n1 false W (by have := HL.out; rw [hn1]; omega))
        have HN := Lib.hid (And.intro hn1 hn2)
        clear hno hb hlt hn1 hn2 hc
        cases hu : unesc false n1 with
        | none =>
          have HU := Lib.hid hu
          rw [hu] at cU
          clear hu
          go_wp2_with (first
            | (go_at_call 35; go_must (refine (cC.out _).mono ?_); rintro e w1 ⟨rfl, hb1⟩; rw [← HN.out.1, ← HN.out.2]; unfold strOf)
            | (go_at_call 11; go_must (refine (cU.out _).mono ?_); rintro e w2 ⟨rfl, hb2⟩))
          go_ret3
          have h1 := HE.out.1
          have h2 := HU.out
          rw [HN.out.1] at h2
          rw [HA.out.2.2] at h1 h2 ⊢
          rw [target_none H47.out h1 h2]
          exact ⟨rfl, gt (gt HE.out.2 hb1) hb2⟩
        | some p =>
          have HU := Lib.hid hu
          rw [hu] at cU
          clear hu
          go_wp2_with (first
            | (go_at_call 35; go_must (refine (cC.out _).mono ?_); rintro e w1 ⟨rfl, hb1⟩; rw [← HN.out.1, ← HN.out.2]; unfold strOf)
            | (go_at_call 11; go_must (refine (cU.out _).mono ?_); rintro e w2 ⟨rfl, hb2⟩))
          go_ret3
          have h1 := HE.out.1
          have h2 := HU.out
          rw [HN.out.1] at h2
          have h3 := HN.out.2
          rw [HA.out.2.2] at h1 h2 h3 ⊢
          rw [target_some H47.out h1 h2, ← h3]
          exact ⟨rfl, gt (gt HE.out.2 hb1) hb2⟩
  · have hx0 : ¬ (x0.toNat : Int) = 47 := by intro e; exact h47 (UInt8.toNat_inj.1 (by have : (47 : UInt8).toNat = 47 := rfl; omega))
    have H47 := Lib.hid h47
    clear h47
    go_enter Tryd.func18, Tryd.ntmps18
    go_wp2_with fail
    go_ret3
    refine ⟨?_, gr w⟩
    rw [HA.out.2.2, target_off H47.out]
    rfl

end Go.Proofs.YtompcngeikjfiaaDoor.Uri
