/- weirref28.first: a request's first line. -/
import Derived.Test.YtojemdggbcklkaaDoorWPure
import Derived.Test.YtojemdggbcklkaaDoorWFields
import Derived.Test.YtojemdggbcklkaaDoorWLen

/- cursor.first: a request's first line. (Printed by mkwfirst.py.) -/

/- The first line, by its first and its last space. Plain Lean. -/
namespace Go.Proofs.YtojemdggbcklkaaDoor.Wire
open Go.Proofs.YtojemdggbcklkaaDoor.Strs Go.Proofs.YtojemdggbcklkaaDoor.Heads
set_option linter.unusedVariables false
set_option linter.unusedSimpArgs false

theorem vis_no32 {l : Bytes} (h : l.all visB = true) : (32 : UInt8) ∉ l := fun hm => by
  have := List.all_eq_true.1 h 32 hm
  revert this
  decide
theorem first_last {l m r : Bytes} (h1 : cutL 32 l = some (m, r)) {i : Nat} (hi : i < l.length) (h32 : l[i] = 32) (hno : (32 : UInt8) ∉ l.drop (i + 1)) :
    firstS l = if m ≠ [] ∧ m.length + 1 < i ∧ m.all tokB = true ∧ (r.take (i - m.length - 1)).all visB = true ∧ (l.drop (i + 1) = v11 ∨ l.drop (i + 1) = v10) then some (m, r.take (i - m.length - 1), decide (l.drop (i + 1) = v10)) else none := by
  obtain ⟨hl, hm⟩ := cutL_some h1
  have hr : l.drop (m.length + 1) = r := by
    rw [hl, show m ++ 32 :: r = (m ++ [32]) ++ r by simp]
    exact List.drop_left' (by simp)
  have hge : m.length ≤ i := by
    rcases Nat.lt_or_ge i m.length with h | h
    · exfalso
      apply hm
      have h2 : l[i]? = some 32 := by rw [List.getElem?_eq_getElem hi, h32]
      rw [hl, List.getElem?_append_left h] at h2
      exact List.mem_of_getElem? h2
    · exact h
  unfold firstS
  rw [h1]
  simp only
  by_cases he : i = m.length
  · have hn : cutL 32 r = none := cutL_not (by rw [← hr, ← he]; exact hno)
    rw [hn, if_neg (fun h => by have := h.2.1; omega)]
  · obtain ⟨k, hk⟩ : ∃ k, k = i - m.length - 1 := ⟨_, rfl⟩
    have hrk : r[k]? = some 32 := by
      rw [← hr, List.getElem?_drop, show m.length + 1 + k = i by omega, List.getElem?_eq_getElem hi, h32]
    have hdr : l.drop (i + 1) = r.drop (k + 1) := by rw [← hr, List.drop_drop]; congr 1; omega
    rw [hdr] at hno ⊢
    rw [← hk]
    cases hc : cutL 32 r with
    | none => exact absurd (List.mem_of_getElem? hrk) (cutL_none hc)
    | some p =>
      obtain ⟨t, v⟩ := p
      obtain ⟨e, ht⟩ := cutL_some hc
      simp only
      have htk : t.length ≤ k := by
        rcases Nat.lt_or_ge k t.length with h | h
        · exfalso
          apply ht
          rw [e, List.getElem?_append_left h] at hrk
          exact List.mem_of_getElem? hrk
        · exact h
      by_cases hek : k = t.length
      · have ht2 : r.take k = t := by rw [e, hek]; exact List.take_left' rfl
        have hv2 : r.drop (k + 1) = v := by
          rw [e, show t ++ 32 :: v = (t ++ [32]) ++ v by simp]
          exact List.drop_left' (by simp [hek])
        rw [ht2, hv2]
        have hiff : t ≠ [] ↔ m.length + 1 < i := by
          rw [← List.length_pos_iff]
          omega
        by_cases hall : m ≠ [] ∧ m.all tokB = true ∧ t ≠ [] ∧ t.all visB = true ∧ (v = v11 ∨ v = v10)
        · rw [if_pos hall, if_pos ⟨hall.1, hiff.1 hall.2.2.1, hall.2.1, hall.2.2.2⟩]
        · rw [if_neg hall, if_neg (fun h => hall ⟨h.1, h.2.2.1, hiff.2 h.2.1, h.2.2.2⟩)]
      · have hv32 : (32 : UInt8) ∈ v := by
          have h2 := hrk
          rw [e, List.getElem?_append_right htk] at h2
          obtain ⟨j, hj⟩ : ∃ j, k - t.length = j + 1 := ⟨k - t.length - 1, by omega⟩
          rw [hj, List.getElem?_cons_succ] at h2
          exact List.mem_of_getElem? h2
        have ht32 : (32 : UInt8) ∈ r.take k := by
          have h2 : (r.take k)[t.length]? = some 32 := by
            rw [List.getElem?_take_of_lt (by omega), e, List.getElem?_append_right (Nat.le_refl _)]
            simp
          exact List.mem_of_getElem? h2
        rw [if_neg (fun h => by
          rcases h.2.2.2.2 with h | h
          · rw [h] at hv32; revert hv32; decide
          · rw [h] at hv32; revert hv32; decide), if_neg (fun h => vis_no32 h.2.2.2.1 ht32)]
end Go.Proofs.YtojemdggbcklkaaDoor.Wire
namespace Go.Proofs.YtojemdggbcklkaaDoor.WireR
open Go.RowKit Go.Proofs.YtojemdggbcklkaaDoor.Mem Go.Proofs.YtojemdggbcklkaaDoor.Wire Go.Proofs.YtojemdggbcklkaaDoor.Strs Go.Proofs.YtojemdggbcklkaaDoor.Heads
set_option linter.unusedVariables false
set_option linter.unusedSimpArgs false
set_option maxRecDepth 4000

theorem last_at {l m r : Bytes} (h : cutL 32 l = some (m, r)) : ∃ j, ∃ hj : j < l.length, Lib.lastIndexByte (⟨l.toArray⟩ : ByteArray) 32 = (j : Int) ∧ l[j] = 32 ∧ (32 : UInt8) ∉ l.drop (j + 1) ∧ m.length ≤ j := by
  have hz : (⟨l.toArray⟩ : ByteArray).size = l.length := by simp [ByteArray.size]
  have hat : ∀ j (hj : j < l.length), (((⟨l.toArray⟩ : ByteArray).data[j]!).toNat : Int) = (l[j].toNat : Int) := fun j hj => by simp [hj]
  have hlen := cutL_len h
  have hm : l[m.length]? = some 32 := by
    rw [(cutL_some h).1, List.getElem?_append_right (Nat.le_refl _)]; simp
  have hml : m.length < l.length := by omega
  have hm' : l[m.length] = 32 := by rw [List.getElem?_eq_getElem hml] at hm; injection hm
  rcases Lib.lastIndexByte_spec (⟨l.toArray⟩ : ByteArray) 32 with ⟨_, hn⟩ | ⟨j, hj, e, hc, hn⟩
  · exact absurd (by rw [hat _ hml, hm']; rfl) (hn m.length (by omega))
  · rw [hz] at hj hn
    rw [hat j hj] at hc
    have h32 : l[j] = 32 := UInt8.toNat_inj.1 (by show l[j].toNat = 32; omega)
    refine ⟨j, hj, e, h32, fun hmem => ?_, ?_⟩
    · obtain ⟨k, hk, hk2⟩ := List.getElem_of_mem hmem
      rw [List.length_drop] at hk
      rw [List.getElem_drop] at hk2
      exact hn (j + 1 + k) (by omega) (by omega) (by rw [hat _ (by omega), hk2]; rfl)
    · rcases Nat.lt_or_ge j m.length with hlt | hge
      · exact absurd (by rw [hat _ hml, hm']; rfl) (hn m.length hlt hml)
      · exact hge
theorem str_lit (a b : List UInt8) : ((⟨a.toArray⟩ : ByteArray).toList == b) = decide (a = b) := by
  rw [ByteArray.toList_eq]
  rw [Bool.eq_iff_iff]; simp
theorem w64i {x : Int} (h0 : 0 ≤ x) (h1 : x ≤ 1073741824) : IntKind.i64.wrap x = x := by simp [IntKind.wrap, IntKind.bits, IntKind.signed]; omega
theorem w64w {x : Int} (h0 : 0 ≤ x) (h1 : x ≤ 1073741824) : wrap64 x = x := by unfold wrap64; omega
theorem Cur.apart {w w' : World} {g q : Nat} {R : Option Addr} {c p : Nat} {s : List UInt8} {more : Bool} (h : Cur w g R c s p more) (hb : w.grownBy w' (some q)) (hq : q ≠ g) (hf : s ≠ [] → ∀ ad, R = some ad → ad.block ≠ q) : Cur w' g R c s p more :=
  ⟨h.blk.grown hb (fun e => hq (by injection e with e; exact e.symm)), RB.grown h.rb hf hb, h.far, h.le, h.len, h.cap⟩
/-- what the first line's reader finds and keeps of the world -/
structure FH (B : Nat) (w : World) (g q : Nat) (R : Option Addr) (c p : Nat) (s : List UInt8) (more : Bool) (v2 v3 v4 : Value) : Prop where
  cur : Cur w g R c s p more
  req : Blk w q 30 [.string ⟨#[]⟩, .string ⟨#[]⟩, v2, v3, v4]
  ne : q ≠ g
  far : s ≠ [] → ∀ ad, R = some ad → ad.block ≠ q
  bg : B ≤ g
  bq : B ≤ q
theorem low_g {B : Nat} {w w1 : World} {g q : Nat} {R : Option Addr} {c p : Nat} {s : List UInt8} {more : Bool} {v2 v3 v4 : Value} (h : FH B w g q R c p s more v2 v3 v4) (hg : w.grownBy w1 (some g)) : Below B w w1 :=
  (Below.refl B w).grown hg (by have := h.cur.blk.lt; have := h.bg; omega) (fun k hk => by injection hk with hk; have := h.bg; omega)
def FirstPost (B : Nat) (w : World) (g q : Nat) (R : Option Addr) (c : Nat) (s : List UInt8) (more : Bool) (v2 v3 v4 : Value) (r : Res Bytes) (e : Ending) (w' : World) : Prop :=
  Below B w w' ∧ match r with
  | .err er => e = .returned (.tuple #[.bool false, .int .i64 (errV more er : Nat)])
  | .ok x b => match firstS x with
    | none => e = .returned (.tuple #[.bool false, .int .i64 280])
    | some (m, t, old) => e = .returned (.tuple #[.bool old, .int .i64 0]) ∧ Cur w' g R c s (s.length - b.length) more ∧ Blk w' q 30 [.string ⟨m.toArray⟩, .string ⟨t.toArray⟩, v2, v3, v4]
theorem fp_none {B : Nat} {w w' : World} {g q : Nat} {R : Option Addr} {c : Nat} {s x b : List UInt8} {more : Bool} {v2 v3 v4 : Value} {e : Ending} (h : firstS x = none) (hb : Below B w w') (he : e = .returned (.tuple #[.bool false, .int .i64 280])) : FirstPost B w g q R c s more v2 v3 v4 (.ok x b) e w' := by
  unfold FirstPost
  simp only [h]
  exact ⟨hb, he⟩
theorem fp_some {B : Nat} {w w' : World} {g q : Nat} {R : Option Addr} {c : Nat} {s x b m t : List UInt8} {old more : Bool} {v2 v3 v4 : Value} {e : Ending} (h : firstS x = some (m, t, old)) (hb : Below B w w') (he : e = .returned (.tuple #[.bool old, .int .i64 0])) (hc : Cur w' g R c s (s.length - b.length) more) (hq : Blk w' q 30 [.string ⟨m.toArray⟩, .string ⟨t.toArray⟩, v2, v3, v4]) : FirstPost B w g q R c s more v2 v3 v4 (.ok x b) e w' := by
  unfold FirstPost
  simp only [h]
  exact ⟨hb, he, hc, hq⟩

set_option maxHeartbeats 8000000 in
theorem first_any {B : Nat} {w : World} {g q : Nat} {R : Option Addr} {c p : Nat} {s : List UInt8} {more : Bool} {v2 v3 v4 : Value} (h : FH B w g q R c p s more v2 v3 v4) :
    Calls Tryd.prog 32 #[.pointer (some ⟨g, 0, none⟩), .pointer (some ⟨q, 0, none⟩)] w (FirstPost B w g q R c s more v2 v3 v4 (lineS 280 (s.drop p))) := by
  have HH := Lib.hid h
  clear h
  have c1 := line_any HH.out.cur 280 (by omega)
  cases hl : lineS 280 (s.drop p) with
  | err er =>
    rw [hl] at c1
    have C1 := Lib.hid c1
    obtain ⟨y, hy⟩ : ∃ y, y = errV more er := ⟨_, rfl⟩
    have hy0 : (y : Int) ≠ 0 := by have := errV_pos (more := more) (lineS_err hl (by omega)); omega
    clear c1 hl
    go_enter Tryd.func32, Tryd.ntmps32
    go_wp2_with (first
      | (go_at_call 47; go_must (refine (C1.out).mono ?_); rintro e w1 hp1; obtain ⟨hg1, rfl, hc1⟩ := hp1; rw [← hy]; have H1 := Lib.hid (And.intro hg1 hc1); clear hg1 hc1))
    go_ret2
    exact ⟨low_g HH.out H1.out.1, rfl⟩

  | ok l b =>
    rw [hl] at c1
    unfold LinePost at c1
    simp only at c1
    obtain ⟨u, hu⟩ := lineS_suf hl
    have hll : l.length ≤ 65536 := by
      have h2 : l.length ≤ (s.drop p).length := lineS_le hl
      rw [List.length_drop] at h2
      have := HH.out.cur.len
      omega
    obtain ⟨n, hn⟩ : ∃ n, n = l.length := ⟨_, rfl⟩
    obtain ⟨sl, hs⟩ : ∃ x, x = (⟨l.toArray⟩ : ByteArray) := ⟨_, rfl⟩
    have hsz : sl.size = n := by rw [hs, hn]; simp [ByteArray.size]
    have hni : (n : Int) ≤ 65536 := by omega
    have c2 := fun w => Tryd.strings_IndexByte ⟨l.toArray⟩ 32 w
    obtain ⟨i, hi⟩ : ∃ i, i = Lib.indexByte l 32 := ⟨_, rfl⟩
    rw [show (Lib.indexByte (⟨l.toArray⟩ : ByteArray).data.toList (32 : Int).toNat.toUInt8) = i from hi.symm] at c2
    have c3 := fun w => Tryd.strings_LastIndexByte ⟨l.toArray⟩ 32 (by simp [ByteArray.size]; omega) w
    obtain ⟨jj, hj⟩ : ∃ x, x = Lib.lastIndexByte (⟨l.toArray⟩ : ByteArray) 32 := ⟨_, rfl⟩
    rw [← hj] at c3
    rw [← hs] at c1 c2 c3
    have C1 := Lib.hid c1
    have C2 := Lib.hid c2
    have C3 := Lib.hid c3
    clear c1 c2 c3 hu hl
    cases hcut : cutL 32 l with
    | none =>
      have d0 : decide (i < 1) = true := by rw [hi, indexByte_cut, hcut]; rfl
      have HP : firstS l = none := by unfold firstS; rw [hcut]
      replace HP := Lib.hid HP
      clear hi hj hcut hn hs hll
      go_enter Tryd.func32, Tryd.ntmps32
      go_wp2_with (first
        | (go_at_call 47; go_must (refine (C1.out).mono ?_); rintro e w1 hp1; obtain ⟨hg1, rfl, hc1⟩ := hp1; have H1 := Lib.hid (And.intro hg1 hc1); clear hg1 hc1)
        | (go_at_call 48; go_must (refine (C2.out _).mono ?_); rintro e w2 ⟨rfl, hw2⟩; rw [hw2]; clear hw2 w2)
        | (go_at_call 49; go_must (refine (C3.out _).mono ?_); rintro e w2 ⟨rfl, hw2⟩; rw [hw2]; clear hw2 w2))
      go_ret2
      exact fp_none HP.out (low_g HH.out H1.out.1) rfl

    | some mr =>
      obtain ⟨a, r⟩ := mr
      obtain ⟨j, hjl, hje, hj32, hjno, haj⟩ := last_at hcut
      have hF := first_last hcut hjl hj32 hjno
      have hlen := cutL_len hcut
      obtain ⟨e1, e2⟩ := ext_two hcut
      have him : i = (a.length : Int) := by rw [hi, indexByte_cut, hcut]
      obtain ⟨m, hm⟩ : ∃ m, m = a.length := ⟨_, rfl⟩
      obtain rfl : i = (m : Int) := by rw [him, hm]
      obtain rfl : jj = (j : Int) := by rw [hj, hje]
      by_cases h0 : m = 0
      · have d0 : decide ((m : Int) < 1) = true := by simp; omega
        have HP : firstS l = none := by rw [hF, if_neg (fun h => h.1 (List.eq_nil_of_length_eq_zero (by omega)))]
        replace HP := Lib.hid HP
        clear hi hj hcut hn hs hll hjl hje hj32 hjno hF hlen e1 e2 him hm haj h0
        go_enter Tryd.func32, Tryd.ntmps32
        go_wp2_with (first
          | (go_at_call 47; go_must (refine (C1.out).mono ?_); rintro e w1 hp1; obtain ⟨hg1, rfl, hc1⟩ := hp1; have H1 := Lib.hid (And.intro hg1 hc1); clear hg1 hc1)
          | (go_at_call 48; go_must (refine (C2.out _).mono ?_); rintro e w2 ⟨rfl, hw2⟩; rw [hw2]; clear hw2 w2)
          | (go_at_call 49; go_must (refine (C3.out _).mono ?_); rintro e w2 ⟨rfl, hw2⟩; rw [hw2]; clear hw2 w2))
        go_ret2
        exact fp_none HP.out (low_g HH.out H1.out.1) rfl

      · have d0 : decide ((m : Int) < 1) = false := by simp; omega
        have hm0 : (0 : Int) ≤ (m : Int) + 1 := by omega
        have hm1 : (m : Int) + 1 ≤ 1073741824 := by omega
        by_cases hjm : j ≤ m + 1
        · have d1 : decide ((j : Int) ≤ (m : Int) + 1) = true := by simp; omega
          have HP : firstS l = none := by rw [hF, if_neg (fun h => by have := h.2.1; omega)]
          replace HP := Lib.hid HP
          have hmr := w64i hm0 hm1
          have hmw := w64w hm0 hm1
          clear hi hj hcut hn hs hll hjl hje hj32 hjno hF hlen e1 e2 him hm haj h0 hjm hm0 hm1
          go_enter Tryd.func32, Tryd.ntmps32
          go_wp2_with (first
            | (go_at_call 47; go_must (refine (C1.out).mono ?_); rintro e w1 hp1; obtain ⟨hg1, rfl, hc1⟩ := hp1; have H1 := Lib.hid (And.intro hg1 hc1); clear hg1 hc1)
            | (go_at_call 48; go_must (refine (C2.out _).mono ?_); rintro e w2 ⟨rfl, hw2⟩; rw [hw2]; clear hw2 w2)
            | (go_at_call 49; go_must (refine (C3.out _).mono ?_); rintro e w2 ⟨rfl, hw2⟩; rw [hw2]; clear hw2 w2))
          go_ret2
          exact fp_none HP.out (low_g HH.out H1.out.1) rfl

        · have d1 : decide ((j : Int) ≤ (m : Int) + 1) = false := by simp; omega
          obtain ⟨t, ht⟩ : ∃ t, t = r.take (j - a.length - 1) := ⟨_, rfl⟩
          obtain ⟨v, hv⟩ : ∃ v, v = l.drop (j + 1) := ⟨_, rfl⟩
          have hne : a ≠ [] := fun e => h0 (by rw [hm, e]; rfl)
          rw [← ht, ← hv] at hF
          obtain ⟨ba, hba⟩ : ∃ x, x = a.all tokB := ⟨_, rfl⟩
          obtain ⟨bt, hbt⟩ : ∃ x, x = t.all visB := ⟨_, rfl⟩
          have hF2 : firstS l = if ba = true ∧ bt = true ∧ (v = v11 ∨ v = v10) then some (a, t, decide (v = v10)) else none := by
            rw [hF, hba, hbt]
            have hj2 : a.length + 1 < j := by omega
            simp only [hne, hj2, ne_eq, not_false_eq_true, true_and]
          obtain ⟨sa, hsa⟩ : ∃ x, x = (⟨a.toArray⟩ : ByteArray) := ⟨_, rfl⟩
          obtain ⟨st, hst⟩ : ∃ x, x = (⟨t.toArray⟩ : ByteArray) := ⟨_, rfl⟩
          obtain ⟨sv, hsv⟩ : ∃ x, x = (⟨v.toArray⟩ : ByteArray) := ⟨_, rfl⟩
          have e1' : sl.extract 0 m = sa := by rw [hs, hm, hsa]; exact e1
          have e2' : sl.extract (m + 1) j = st := by
            rw [hs, hst, ht, Lib.extract_eq]
            have hr : l.drop (m + 1) = r := by
              rw [(cutL_some hcut).1, hm, show a ++ 32 :: r = (a ++ [32]) ++ r by simp]
              exact List.drop_left' (by simp)
            show (⟨((l.drop (m + 1)).take _).toArray⟩ : ByteArray) = _
            rw [hr]
            congr 3
            omega
          have e3' : sl.extract (j + 1) n = sv := by
            rw [hs, hsv, hv, Lib.extract_eq]
            show (⟨((l.drop (j + 1)).take _).toArray⟩ : ByteArray) = _
            rw [List.take_of_length_le (by rw [List.length_drop]; omega)]
          have hal : a.length ≤ 1073741824 := by omega
          have htl : t.length ≤ 1073741824 := by rw [ht, List.length_take]; omega
          have c4 := fun W => allOf_tok a W hal
          have c5 := fun W => allOf_vis t W htl
          rw [← hba, ← hsa] at c4
          rw [← hbt, ← hst] at c5
          have C4 := Lib.hid c4
          have C5 := Lib.hid c5
          have hj0 : (0 : Int) ≤ (j : Int) + 1 := by omega
          have hj1 : (j : Int) + 1 ≤ 1073741824 := by omega
          have hmi : (m : Int) + 1 ≤ (j : Int) := by omega
          have hji : (j : Int) + 1 ≤ (n : Int) := by omega
          have hnm : ¬ n < m := by omega
          have hjm1 : ¬ j < m + 1 := by omega
          have hnj : ¬ n < j := by omega
          have hnj1 : ¬ n < j + 1 := by omega
          have hmr := w64i hm0 hm1
          have hmw := w64w hm0 hm1
          have hjr := w64i hj0 hj1
          have hjw := w64w hj0 hj1
          clear hi hj hcut hn hs hll hjl hje hj32 hjno hF hlen e1 e2 him hm haj h0 hjm hne hal htl c4 c5 hba hbt ht hv hm0 hm1 hj0 hj1
          cases ba
          · have HP : firstS l = none := by rw [hF2]; simp
            replace HP := Lib.hid HP
            clear hF2 hsa hst hsv
            go_enter Tryd.func32, Tryd.ntmps32
            go_wp2_with (first
              | (go_at_call 47; go_must (refine (C1.out).mono ?_); rintro e w1 hp1; obtain ⟨hg1, rfl, hc1⟩ := hp1; have H1 := Lib.hid (And.intro hg1 hc1); clear hg1 hc1)
              | (go_at_call 48; go_must (refine (C2.out _).mono ?_); rintro e w2 ⟨rfl, hw2⟩; rw [hw2]; clear hw2 w2)
              | (go_at_call 49; go_must (refine (C3.out _).mono ?_); rintro e w2 ⟨rfl, hw2⟩; rw [hw2]; clear hw2 w2)
              | (go_at_call 50; (with_reducible show Calls _ _ #[.string sa, .func (.func 51) #[] #[]] _ _); go_must (refine (C4.out _).mono ?_); rintro e w2 ⟨rfl, hw2⟩; rw [← hw2]; clear hw2 w2))
            go_ret2
            exact fp_none HP.out (low_g HH.out H1.out.1) rfl

          · cases bt
            · have HP : firstS l = none := by rw [hF2]; simp
              replace HP := Lib.hid HP
              clear hF2 hsa hst hsv
              go_enter Tryd.func32, Tryd.ntmps32
              go_wp2_with (first
                | (go_at_call 47; go_must (refine (C1.out).mono ?_); rintro e w1 hp1; obtain ⟨hg1, rfl, hc1⟩ := hp1; have H1 := Lib.hid (And.intro hg1 hc1); clear hg1 hc1)
                | (go_at_call 48; go_must (refine (C2.out _).mono ?_); rintro e w2 ⟨rfl, hw2⟩; rw [hw2]; clear hw2 w2)
                | (go_at_call 49; go_must (refine (C3.out _).mono ?_); rintro e w2 ⟨rfl, hw2⟩; rw [hw2]; clear hw2 w2)
                | (go_at_call 50; (with_reducible show Calls _ _ #[.string sa, .func (.func 51) #[] #[]] _ _); go_must (refine (C4.out _).mono ?_); rintro e w2 ⟨rfl, hw2⟩; rw [← hw2]; clear hw2 w2)
                | (go_at_call 50; go_must (refine (C5.out _).mono ?_); rintro e w2 ⟨rfl, hw2⟩; rw [← hw2]; clear hw2 w2))
              go_ret2
              exact fp_none HP.out (low_g HH.out H1.out.1) rfl

            · have k1 : (sv.toList == [72, 84, 84, 80, 47, 49, 46, 49]) = decide (v = v11) := by rw [hsv]; exact str_lit v v11
              have k2 : (sv.toList == [72, 84, 84, 80, 47, 49, 46, 48]) = decide (v = v10) := by rw [hsv]; exact str_lit v v10
              by_cases h1 : v = v11
              · have h2 : decide (v = v10) = false := by rw [h1]; decide
                have HP : firstS l = some (a, t, false) := by rw [hF2, if_pos ⟨rfl, rfl, .inl h1⟩, h2]
                replace HP := Lib.hid HP
                rw [decide_eq_true h1] at k1
                rw [h2] at k2
                have HS := Lib.hid (And.intro hsa hst)
                clear hF2 hsa hst hsv h1 h2
                go_enter Tryd.func32, Tryd.ntmps32
                go_wp2_with (first
                  | (go_at_call 47; go_must (refine (C1.out).mono ?_); rintro e w1 hp1; obtain ⟨hg1, rfl, hc1⟩ := hp1; have hBq := HH.out.req.grown hg1 (fun e => HH.out.ne (by injection e)); have d0q := hBq.cell 0; have d1q := hBq.cell 1; have f0q := hBq.frozen 0; have f1q := hBq.frozen 1; simp only [List.getElem?_cons_succ, List.getElem?_cons_zero] at d0q d1q; have HBQ := Lib.hid hBq; clear hBq; have H1 := Lib.hid (And.intro hg1 hc1); clear hg1 hc1)
                  | (go_at_call 48; go_must (refine (C2.out _).mono ?_); rintro e w2 ⟨rfl, hw2⟩; rw [hw2]; clear hw2 w2)
                  | (go_at_call 49; go_must (refine (C3.out _).mono ?_); rintro e w2 ⟨rfl, hw2⟩; rw [hw2]; clear hw2 w2)
                  | (go_at_call 50; (with_reducible show Calls _ _ #[.string sa, .func (.func 51) #[] #[]] _ _); go_must (refine (C4.out _).mono ?_); rintro e w2 ⟨rfl, hw2⟩; rw [← hw2]; clear hw2 w2)
                  | (go_at_call 50; go_must (refine (C5.out _).mono ?_); rintro e w2 ⟨rfl, hw2⟩; rw [← hw2]; clear hw2 w2))

                go_ret2
                have hg2 := (grownBy_set w1 q 0 (.string sa)).trans (grownBy_set _ q 1 (.string st))
                exact fp_some HP.out ((low_g HH.out H1.out.1).grown hg2 (by have := HBQ.out.lt; have := HH.out.bq; omega) (fun k hk => by injection hk with hk; have := HH.out.bq; omega)) rfl (H1.out.2.apart hg2 HH.out.ne HH.out.far) (by rw [← HS.out.1, ← HS.out.2]; exact (HBQ.out.set_ 0 _).set_ 1 _)
              · by_cases h2 : v = v10
                · have HP : firstS l = some (a, t, true) := by rw [hF2, if_pos ⟨rfl, rfl, .inr h2⟩, decide_eq_true h2]
                  replace HP := Lib.hid HP
                  rw [decide_eq_true h2] at k2
                  rw [decide_eq_false h1] at k1
                  have HS := Lib.hid (And.intro hsa hst)
                  clear hF2 hsa hst hsv h1 h2
                  go_enter Tryd.func32, Tryd.ntmps32
                  go_wp2_with (first
                    | (go_at_call 47; go_must (refine (C1.out).mono ?_); rintro e w1 hp1; obtain ⟨hg1, rfl, hc1⟩ := hp1; have hBq := HH.out.req.grown hg1 (fun e => HH.out.ne (by injection e)); have d0q := hBq.cell 0; have d1q := hBq.cell 1; have f0q := hBq.frozen 0; have f1q := hBq.frozen 1; simp only [List.getElem?_cons_succ, List.getElem?_cons_zero] at d0q d1q; have HBQ := Lib.hid hBq; clear hBq; have H1 := Lib.hid (And.intro hg1 hc1); clear hg1 hc1)
                    | (go_at_call 48; go_must (refine (C2.out _).mono ?_); rintro e w2 ⟨rfl, hw2⟩; rw [hw2]; clear hw2 w2)
                    | (go_at_call 49; go_must (refine (C3.out _).mono ?_); rintro e w2 ⟨rfl, hw2⟩; rw [hw2]; clear hw2 w2)
                    | (go_at_call 50; (with_reducible show Calls _ _ #[.string sa, .func (.func 51) #[] #[]] _ _); go_must (refine (C4.out _).mono ?_); rintro e w2 ⟨rfl, hw2⟩; rw [← hw2]; clear hw2 w2)
                    | (go_at_call 50; go_must (refine (C5.out _).mono ?_); rintro e w2 ⟨rfl, hw2⟩; rw [← hw2]; clear hw2 w2))

                  go_ret2
                  have hg2 := (grownBy_set w1 q 0 (.string sa)).trans (grownBy_set _ q 1 (.string st))
                  exact fp_some HP.out ((low_g HH.out H1.out.1).grown hg2 (by have := HBQ.out.lt; have := HH.out.bq; omega) (fun k hk => by injection hk with hk; have := HH.out.bq; omega)) rfl (H1.out.2.apart hg2 HH.out.ne HH.out.far) (by rw [← HS.out.1, ← HS.out.2]; exact (HBQ.out.set_ 0 _).set_ 1 _)
                · have HP : firstS l = none := by rw [hF2, if_neg (fun h => h.2.2.elim h1 h2)]
                  replace HP := Lib.hid HP
                  rw [decide_eq_false h2] at k2
                  rw [decide_eq_false h1] at k1
                  clear hF2 hsa hst hsv h1 h2
                  go_enter Tryd.func32, Tryd.ntmps32
                  go_wp2_with (first
                    | (go_at_call 47; go_must (refine (C1.out).mono ?_); rintro e w1 hp1; obtain ⟨hg1, rfl, hc1⟩ := hp1; have H1 := Lib.hid (And.intro hg1 hc1); clear hg1 hc1)
                    | (go_at_call 48; go_must (refine (C2.out _).mono ?_); rintro e w2 ⟨rfl, hw2⟩; rw [hw2]; clear hw2 w2)
                    | (go_at_call 49; go_must (refine (C3.out _).mono ?_); rintro e w2 ⟨rfl, hw2⟩; rw [hw2]; clear hw2 w2)
                    | (go_at_call 50; (with_reducible show Calls _ _ #[.string sa, .func (.func 51) #[] #[]] _ _); go_must (refine (C4.out _).mono ?_); rintro e w2 ⟨rfl, hw2⟩; rw [← hw2]; clear hw2 w2)
                    | (go_at_call 50; go_must (refine (C5.out _).mono ?_); rintro e w2 ⟨rfl, hw2⟩; rw [← hw2]; clear hw2 w2))
                  go_ret2
                  exact fp_none HP.out (low_g HH.out H1.out.1) rfl

end Go.Proofs.YtojemdggbcklkaaDoor.WireR

/- over: a cursor over a request's bytes. -/
namespace Go.Proofs.YtojemdggbcklkaaDoor.WireR
open Go.RowKit Go.Proofs.YtojemdggbcklkaaDoor.Mem Go.Proofs.YtojemdggbcklkaaDoor.Wire Go.Proofs.YtojemdggbcklkaaDoor.Strs
set_option linter.unusedVariables false
set_option linter.unusedSimpArgs false
set_option maxRecDepth 4000

set_option maxHeartbeats 2000000 in
theorem over_any (A : Option Addr) (n c : Nat) (s : List UInt8) (w : World) (hA : RB w A s) (hn : n = s.length) (hc : n ≤ c) (hl : n ≤ 1152921504606846976) :
    Calls Tryd.prog 31 #[.slice A n c] w fun e w' => e = .returned (.pointer (some ⟨w.heap.size, 0, none⟩)) ∧ Cur w' w.heap.size A c (s.take 65536) 0 (decide (65536 < n)) ∧ Below w.heap.size w w' := by
  have HA := Lib.hid (And.intro hA (And.intro hn hc))
  clear hA hn hl
  have hci : (n : Int) ≤ (c : Int) := by omega
  by_cases h : 65536 < n
  · have b1 : decide ((65536 : Int) < (n : Int)) = true := by rw [decide_eq_true_iff]; omega
    have hcc : (65536 : Int) ≤ (c : Int) := by omega
    have hdec : decide (65536 < n) = true := decide_eq_true h
    rw [hdec]
    have HC := Lib.hid (And.intro h hc)
    clear hdec h hc
    go_enter Tryd.func31, Tryd.ntmps31
    go_wp2_with (first
      | ((with_reducible show wpList _ _ _ (⟨some 6, _, _, _, _, _⟩ :: _) _ _); go_must (refine wpList_boxB rfl (.tmp 5) rfl [.slice A n c, .int .i64 0, .bool false] rfl w.heap.size rfl ?_); intro w1 hB1 hb1 hz1
         have k0 := hB1.cell 0
         have k2 := hB1.cell 2
         have f0 := hB1.frozen 0
         have f2 := hB1.frozen 2
         simp only [List.getElem?_cons_succ, List.getElem?_cons_zero] at k0 k2
         have H1 := Lib.hid (And.intro hB1 hb1); clear hB1 hb1 hz1))
    go_ret
    have hb : Below w.heap.size w ((w1.setCell ⟨w.heap.size, 0, none⟩ (.slice A 65536 c)).setCell ⟨w.heap.size, 2, none⟩ (.bool true)) :=
      H1.out.2.grown ((grownBy_set w1 w.heap.size 0 _).trans (grownBy_set _ w.heap.size 2 _)) H1.out.2.size (fun k hk => by injection hk with hk; omega)
    have hlen : (s.take 65536).length = 65536 := by rw [List.length_take]; have := HC.out.1; have := HA.out.2.1; omega
    refine ⟨rfl, ⟨?_, (HA.out.1.take 65536).below hb, fun hs ad e => ?_, Nat.zero_le _, by omega, by have := HC.out; omega⟩, hb⟩
    · have := (H1.out.1.set_ 0 (.slice A 65536 c)).set_ 2 (.bool true)
      rw [hlen]
      exact this
    · have := rb_lt (HA.out.1.take 65536) hs ad e
      omega
  · have b1 : decide ((65536 : Int) < (n : Int)) = false := by rw [decide_eq_false_iff_not]; omega
    have hdec : decide (65536 < n) = false := decide_eq_false h
    rw [hdec]
    have HC := Lib.hid (And.intro h hc)
    clear hdec h hc
    go_enter Tryd.func31, Tryd.ntmps31
    go_wp2_with (first
      | ((with_reducible show wpList _ _ _ (⟨some 6, _, _, _, _, _⟩ :: _) _ _); go_must (refine wpList_boxB rfl (.tmp 5) rfl [.slice A n c, .int .i64 0, .bool false] rfl w.heap.size rfl ?_); intro w1 hB1 hb1 hz1
         have k0 := hB1.cell 0
         have k2 := hB1.cell 2
         have f0 := hB1.frozen 0
         have f2 := hB1.frozen 2
         simp only [List.getElem?_cons_succ, List.getElem?_cons_zero] at k0 k2
         have H1 := Lib.hid (And.intro hB1 hb1); clear hB1 hb1 hz1))
    go_ret
    have ht : s.take 65536 = s := List.take_of_length_le (by have := HC.out.1; have := HA.out.2.1; omega)
    rw [ht]
    refine ⟨rfl, ⟨?_, HA.out.1.below H1.out.2, fun hs ad e => ?_, Nat.zero_le _, by have := HC.out.1; have := HA.out.2.1; omega, by have := HA.out.2; omega⟩, H1.out.2⟩
    · rw [← HA.out.2.1]
      exact H1.out.1
    · have := rb_lt HA.out.1 hs ad e
      omega
end Go.Proofs.YtojemdggbcklkaaDoor.WireR
namespace Go.Proofs.YtojemdggbcklkaaDoor.WireR
open Go.RowKit Go.Proofs.YtojemdggbcklkaaDoor.Mem Go.Proofs.YtojemdggbcklkaaDoor.Wire Go.Proofs.YtojemdggbcklkaaDoor.Strs Go.Proofs.YtojemdggbcklkaaDoor.Heads
set_option linter.unusedVariables false
set_option linter.unusedSimpArgs false
set_option maxRecDepth 4000

theorem w64j {x y : Int} (e : x = y) (h0 : 0 ≤ y) (h1 : y ≤ 2147483648) : IntKind.i64.wrap x = y := by
  subst e
  simp [IntKind.wrap, IntKind.bits, IntKind.signed]
  omega
def RFirstPost (r : Option (Bytes × Bytes × Bool)) (e : Ending) : Prop :=
  match r with
  | none => ∃ a b c : ByteArray, e = .returned (.tuple #[.string a, .string b, .string c, .bool false])
  | some (m, t, old) => e = .returned (.tuple #[.string ⟨m.toArray⟩, .string ⟨t.toArray⟩, .string ⟨(if old = true then v10 else v11).toArray⟩, .bool true])
theorem rf_none {r : Option (Bytes × Bytes × Bool)} {e : Ending} (h : r = none) (a b c : ByteArray) (he : e = .returned (.tuple #[.string a, .string b, .string c, .bool false])) : RFirstPost r e := by rw [h]; exact ⟨a, b, c, he⟩
theorem rf_end {l a t v : Bytes} {ok : Bool} {e : Ending} (h : firstS l = if ok = true ∧ t.all visB = true then some (a, t, decide (v = v10)) else none) (hv : ok = true → v = v11 ∨ v = v10)
    (he : e = .returned (.tuple #[.string ⟨a.toArray⟩, .string ⟨t.toArray⟩, .string ⟨v.toArray⟩, .bool (ok && t.all visB)])) : RFirstPost (firstS l) e := by
  by_cases hc : ok = true ∧ t.all visB = true
  · rw [h, if_pos hc]
    show e = _
    rw [he, hc.1, hc.2]
    rcases hv hc.1 with rfl | rfl <;> rfl
  · rw [h, if_neg hc]
    refine ⟨⟨a.toArray⟩, ⟨t.toArray⟩, ⟨v.toArray⟩, ?_⟩
    rw [he]
    have : (ok && t.all visB) = false := by
      rw [← Bool.not_eq_true, Bool.and_eq_true]; exact hc
    rw [this]
set_option maxHeartbeats 8000000 in
theorem rfirst_any (l : List UInt8) (w : World) (hl : l.length ≤ 65536) :
    Calls Tryd.prog 40 #[.string ⟨l.toArray⟩] w fun e w' => RFirstPost (firstS l) e ∧ Below w.heap.size w w' := by
  obtain ⟨n, hn⟩ : ∃ n, n = l.length := ⟨_, rfl⟩
  obtain ⟨s, hs⟩ : ∃ s, s = (⟨l.toArray⟩ : ByteArray) := ⟨_, rfl⟩
  have hsz : s.size = n := by rw [hs, hn]; simp [ByteArray.size]
  have hni : (n : Int) ≤ 65536 := by omega
  obtain ⟨i, hi⟩ : ∃ i, i = Lib.indexByte l 32 := ⟨_, rfl⟩
  have c1 := fun w => find_any l 32 w (by omega)
  rw [← hi] at c1
  rw [← hs] at c1 ⊢
  have C1 := Lib.hid c1
  clear c1
  cases hcut : cutL 32 l with
  | none =>
    have d0 : decide (i < 0) = true := by rw [hi, indexByte_cut, hcut]; rfl
    have HP : firstS l = none := by unfold firstS; rw [hcut]
    replace HP := Lib.hid HP
    clear hi hcut hn hs hl
    go_enter Tryd.func40, Tryd.ntmps40
    go_wp2_with (first
      | (go_at_call 62; go_must (refine (C1.out _).mono ?_); rintro e w2 ⟨rfl, hw2⟩; rw [← hw2]; clear hw2 w2))
    refine bodyPost_ret (v := .tuple #[.string ⟨#[]⟩, .string ⟨#[]⟩, .string ⟨#[]⟩, .bool false]) (by simp [results, Tryd.results40, go_sem]) rfl ?_
    exact ⟨rf_none HP.out _ _ _ rfl, gr w⟩
  | some ab =>
    obtain ⟨a, r⟩ := ab
    have hlen := cutL_len hcut
    obtain ⟨e1, e2⟩ := ext_two hcut
    have him : i = (a.length : Int) := by rw [hi, indexByte_cut, hcut]
    obtain ⟨m, hm⟩ : ∃ m, m = a.length := ⟨_, rfl⟩
    obtain rfl : i = (m : Int) := by rw [him, hm]
    obtain ⟨sr, hsr⟩ : ∃ x, x = (⟨r.toArray⟩ : ByteArray) := ⟨_, rfl⟩
    rw [← hs, ← hm] at e1
    rw [← hs, ← hm, ← hsr, ← hn] at e2
    obtain ⟨i2, hi2⟩ : ∃ i, i = Lib.indexByte r 32 := ⟨_, rfl⟩
    have c2 := fun w => find_any r 32 w (by omega)
    rw [← hi2, ← hsr] at c2
    have C2 := Lib.hid c2
    have d1 : decide ((m : Int) < 0) = false := by rw [decide_eq_false_iff_not]; omega
    have d1' : ¬ (m : Int) < 0 := by omega
    obtain ⟨x1, hx1⟩ : ∃ x, x = m + 1 := ⟨_, rfl⟩
    have hx1i : (m : Int) + 1 = (x1 : Int) := by omega
    have hx10 : (0 : Int) ≤ (x1 : Int) := by omega
    have hx1n : (x1 : Int) ≤ 2147483648 := by omega
    have hnx1 : ¬ n < x1 := by omega
    have hx1le : (x1 : Int) ≤ (n : Int) := by omega
    rw [← hx1] at e2
    cases hcut2 : cutL 32 r with
    | none =>
      have d2 : decide (i2 < 0) = true := by rw [hi2, indexByte_cut, hcut2]; rfl
      have HP : firstS l = none := by unfold firstS; rw [hcut]; simp only; rw [hcut2]
      replace HP := Lib.hid HP
      have q1 := w64 hx1i hx10 hx1n
      clear hi hcut hn hs hl hi2 hcut2 hsr hm him hlen c2 hx1i hx10 hx1n hx1
      go_enter Tryd.func40, Tryd.ntmps40
      go_wp2_with (first
        | (go_at_call 62; (with_reducible show Calls _ _ #[.string s, _] _ _); go_must (refine (C1.out _).mono ?_); rintro e w2 ⟨rfl, hw2⟩; rw [← hw2]; clear hw2 w2)
        | (go_at_call 62; go_must (refine (C2.out _).mono ?_); rintro e w2 ⟨rfl, hw2⟩; rw [← hw2]; clear hw2 w2))
      refine bodyPost_ret (v := .tuple #[.string ⟨#[]⟩, .string ⟨#[]⟩, .string ⟨#[]⟩, .bool false]) (by simp [results, Tryd.results40, go_sem]) rfl ?_
      exact ⟨rf_none HP.out _ _ _ rfl, gr w⟩
    | some tv =>
      obtain ⟨t, v⟩ := tv
      have hlen2 := cutL_len hcut2
      have him2 : i2 = (t.length : Int) := by rw [hi2, indexByte_cut, hcut2]
      obtain ⟨k, hk⟩ : ∃ k, k = t.length := ⟨_, rfl⟩
      obtain rfl : i2 = (k : Int) := by rw [him2, hk]
      have d2 : decide ((k : Int) < 0) = false := by rw [decide_eq_false_iff_not]; omega
      have d2' : ¬ (k : Int) < 0 := by omega
      obtain ⟨x2, hx2⟩ : ∃ x, x = x1 + k := ⟨_, rfl⟩
      obtain ⟨y, hy⟩ : ∃ x, x = m + k := ⟨_, rfl⟩
      obtain ⟨x3, hx3⟩ : ∃ x, x = y + 2 := ⟨_, rfl⟩
      obtain ⟨sa, hsa⟩ : ∃ x, x = (⟨a.toArray⟩ : ByteArray) := ⟨_, rfl⟩
      obtain ⟨st, hst⟩ : ∃ x, x = (⟨t.toArray⟩ : ByteArray) := ⟨_, rfl⟩
      obtain ⟨sv, hsv⟩ : ∃ x, x = (⟨v.toArray⟩ : ByteArray) := ⟨_, rfl⟩
      have hr : l.drop x1 = r := by
        rw [(cutL_some hcut).1, hx1, hm, show a ++ 32 :: r = (a ++ [32]) ++ r by simp]
        exact List.drop_left' (by simp)
      have e3 : s.extract x1 x2 = st := by
        rw [hs, hst, Lib.extract_eq]
        show (⟨((l.drop x1).take _).toArray⟩ : ByteArray) = _
        rw [hr, (cutL_some hcut2).1]
        congr 2
        exact List.take_left' (by omega)
      have e4 : s.extract x3 n = sv := by
        rw [hs, hsv, hn, ext_drop]
        have h5 : l.drop x3 = v := by
          rw [show x3 = x1 + (k + 1) by omega, ← List.drop_drop, hr, (cutL_some hcut2).1, show t ++ 32 :: v = (t ++ [32]) ++ v by simp]
          exact List.drop_left' (by simp; omega)
        rw [h5]
      rw [← hsa] at e1
      have hstz : st.size = k := by rw [hst, hk]; simp [ByteArray.size]
      have hx2i : (x1 : Int) + (k : Int) = (x2 : Int) := by omega
      have hx20 : (0 : Int) ≤ (x2 : Int) := by omega
      have hx2n : (x2 : Int) ≤ 2147483648 := by omega
      have hyi : (m : Int) + (k : Int) = (y : Int) := by omega
      have hy0 : (0 : Int) ≤ (y : Int) := by omega
      have hyn : (y : Int) ≤ 2147483648 := by omega
      have hx3i : (y : Int) + 2 = (x3 : Int) := by omega
      have hx30 : (0 : Int) ≤ (x3 : Int) := by omega
      have hx3n : (x3 : Int) ≤ 2147483648 := by omega
      have hb1 : (x1 : Int) ≤ (x2 : Int) := by omega
      have hb2 : (x2 : Int) ≤ (n : Int) := by omega
      have hb3 : (x3 : Int) ≤ (n : Int) := by omega
      have hb4 : (m : Int) ≤ (n : Int) := by omega
      have hn1 : ¬ x2 < x1 := by omega
      have hn2 : ¬ n < x2 := by omega
      have hn3 : ¬ n < x3 := by omega
      have hn4 : ¬ n < m := by omega
      have hki : (k : Int) ≤ 65536 := by omega
      have hF : firstS l = if a ≠ [] ∧ a.all tokB = true ∧ t ≠ [] ∧ t.all visB = true ∧ (v = v11 ∨ v = v10) then some (a, t, decide (v = v10)) else none := by unfold firstS; rw [hcut]; simp only; rw [hcut2]
      obtain ⟨bm, hbm⟩ : ∃ x, x = (a.all tokB && decide (a ≠ [])) := ⟨_, rfl⟩
      have c3 := fun W => rtoken_any a W (by omega)
      rw [← hbm, ← hsa] at c3
      have C3 := Lib.hid c3
      obtain ⟨be, hbe⟩ : ∃ x, x = decide (t = []) := ⟨_, rfl⟩
      have k0 : st.toList.isEmpty = be := by rw [hst, ByteArray.toList_eq, hbe]; cases t <;> rfl
      obtain ⟨b1, hb1'⟩ : ∃ x, x = decide (v = v11) := ⟨_, rfl⟩
      obtain ⟨b2, hb2'⟩ : ∃ x, x = decide (v = v10) := ⟨_, rfl⟩
      have k1 : (sv.toList == [72, 84, 84, 80, 47, 49, 46, 49]) = b1 := by rw [hsv, hb1']; exact str_lit v v11
      have k2 : (sv.toList == [72, 84, 84, 80, 47, 49, 46, 48]) = b2 := by rw [hsv, hb2']; exact str_lit v v10
      have HF : firstS l = if (bm && !be && (b1 || b2)) = true ∧ t.all visB = true then some (a, t, decide (v = v10)) else none := by
        rw [hF, hbm, hbe, hb1', hb2']
        congr 1
        simp only [Bool.and_eq_true, Bool.or_eq_true, decide_eq_true_eq, Bool.not_eq_true', decide_eq_false_iff_not, ne_eq]
        exact propext ⟨fun ⟨h1, h2, h3, h4, h5⟩ => ⟨⟨⟨⟨h2, h1⟩, h3⟩, h5⟩, h4⟩, fun ⟨⟨⟨⟨h2, h1⟩, h3⟩, h5⟩, h4⟩ => ⟨h1, h2, h3, h4, h5⟩⟩
      have HV : (bm && !be && (b1 || b2)) = true → v = v11 ∨ v = v10 := fun h => by
        rw [hb1', hb2'] at h
        simp only [Bool.and_eq_true, Bool.or_eq_true, decide_eq_true_eq] at h
        exact h.2
      obtain ⟨ok, hok⟩ : ∃ x, x = (bm && !be && (b1 || b2)) := ⟨_, rfl⟩
      rw [← hok] at HF HV
      replace HF := Lib.hid (And.intro HF (And.intro HV (And.intro hsa (And.intro hst (And.intro hsv (And.intro hk hok))))))
      have q1 := w64 hx1i hx10 hx1n
      have Q2 := Lib.hid (w64j hx2i hx20 hx2n)
      have Q3 := Lib.hid (w64j hyi hy0 hyn)
      have Q4 := Lib.hid (w64j hx3i hx30 hx3n)
      have Q1 := Lib.hid (w64j hx1i hx10 hx1n)
      clear hi hcut hn hs hl hi2 hcut2 hsr hm him hlen c2 hx1i hx10 hx1n hx1 hlen2 him2 hk hx2 hy hx3 hsa hst hsv hr hx2i hx20 hx2n hyi hy0 hyn hx3i hx30 hx3n hF hbm c3 hbe hb1' hb2' HV hok
      go_enter Tryd.func40, Tryd.ntmps40
      have HX := Lib.hid (And.intro hb1 (And.intro hb2 (And.intro hb3 (And.intro hb4 (And.intro hn1 (And.intro hn2 (And.intro hn3 (And.intro hn4 (And.intro e3 e4)))))))))
      have HK := Lib.hid (And.intro hki hstz)
      clear hb1 hb2 hb3 hb4 hn1 hn2 hn3 hn4 hki hstz e3 e4
      go_upto_region 7 with (first
        | (go_at_call 62; (with_reducible show Calls _ _ #[.string s, _] _ _); go_must (refine (C1.out _).mono ?_); rintro e w2 ⟨rfl, hw2⟩; rw [← hw2]; clear hw2 w2)
        | (go_at_call 62; go_must (refine (C2.out _).mono ?_); rintro e w2 ⟨rfl, hw2⟩; rw [← hw2]; clear hw2 w2))
      try simp only [Act.put, List.setIfInBounds_toArray, List.set_cons_succ, List.set_cons_zero]
      have ⟨hb1, hb2, hb3, hb4, hn1, hn2, hn3, hn4, e3, e4⟩ := HX.out
      refine wp_region_qb (by kernel_rfl) (by kernel_rfl) ?_
      refine wq_val (o := ⟨some 24, _, _, _, _, _⟩) (v := .string s) rfl (fun w' hC => by go_simp) ?_
      simp only [Act.put, List.setIfInBounds_toArray, List.set_cons_succ, List.set_cons_zero]
      refine wq_val (o := ⟨some 25, _, _, _, _, _⟩) (v := .int .i64 (m : Int)) rfl (fun w' hC => by go_simp) ?_
      simp only [Act.put, List.setIfInBounds_toArray, List.set_cons_succ, List.set_cons_zero]
      refine wq_val (o := ⟨some 26, _, _, _, _, _⟩) (v := .string sa) rfl (fun w' hC => by first | (go_simp; done) | (go_simp; intro h; omega)) ?_
      simp only [Act.put, List.setIfInBounds_toArray, List.set_cons_succ, List.set_cons_zero]
      refine wq_val (o := ⟨some 27, _, _, _, _, _⟩) (v := .string s) rfl (fun w' hC => by go_simp) ?_
      simp only [Act.put, List.setIfInBounds_toArray, List.set_cons_succ, List.set_cons_zero]
      refine wq_val (o := ⟨some 28, _, _, _, _, _⟩) (v := .int .i64 (m : Int)) rfl (fun w' hC => by go_simp) ?_
      simp only [Act.put, List.setIfInBounds_toArray, List.set_cons_succ, List.set_cons_zero]
      refine wq_val (o := ⟨some 29, _, _, _, _, _⟩) (v := .int .i64 (x1 : Int)) rfl (fun w' hC => by go_simp; exact Q1.out) ?_
      simp only [Act.put, List.setIfInBounds_toArray, List.set_cons_succ, List.set_cons_zero]
      refine wq_val (o := ⟨some 30, _, _, _, _, _⟩) (v := .int .i64 (m : Int)) rfl (fun w' hC => by go_simp) ?_
      simp only [Act.put, List.setIfInBounds_toArray, List.set_cons_succ, List.set_cons_zero]
      refine wq_val (o := ⟨some 31, _, _, _, _, _⟩) (v := .int .i64 (x1 : Int)) rfl (fun w' hC => by go_simp; exact Q1.out) ?_
      simp only [Act.put, List.setIfInBounds_toArray, List.set_cons_succ, List.set_cons_zero]
      refine wq_val (o := ⟨some 32, _, _, _, _, _⟩) (v := .int .i64 (k : Int)) rfl (fun w' hC => by go_simp) ?_
      simp only [Act.put, List.setIfInBounds_toArray, List.set_cons_succ, List.set_cons_zero]
      refine wq_val (o := ⟨some 33, _, _, _, _, _⟩) (v := .int .i64 (x2 : Int)) rfl (fun w' hC => by go_simp; exact Q2.out) ?_
      simp only [Act.put, List.setIfInBounds_toArray, List.set_cons_succ, List.set_cons_zero]
      refine wq_val (o := ⟨some 34, _, _, _, _, _⟩) (v := .string st) rfl (fun w' hC => by first | (go_simp; done) | (go_simp; intro h; omega)) ?_
      simp only [Act.put, List.setIfInBounds_toArray, List.set_cons_succ, List.set_cons_zero]
      refine wq_val (o := ⟨some 35, _, _, _, _, _⟩) (v := .string s) rfl (fun w' hC => by go_simp) ?_
      simp only [Act.put, List.setIfInBounds_toArray, List.set_cons_succ, List.set_cons_zero]
      refine wq_val (o := ⟨some 36, _, _, _, _, _⟩) (v := .int .i64 (m : Int)) rfl (fun w' hC => by go_simp) ?_
      simp only [Act.put, List.setIfInBounds_toArray, List.set_cons_succ, List.set_cons_zero]
      refine wq_val (o := ⟨some 37, _, _, _, _, _⟩) (v := .int .i64 (k : Int)) rfl (fun w' hC => by go_simp) ?_
      simp only [Act.put, List.setIfInBounds_toArray, List.set_cons_succ, List.set_cons_zero]
      refine wq_val (o := ⟨some 38, _, _, _, _, _⟩) (v := .int .i64 (y : Int)) rfl (fun w' hC => by go_simp; exact Q3.out) ?_
      simp only [Act.put, List.setIfInBounds_toArray, List.set_cons_succ, List.set_cons_zero]
      refine wq_val (o := ⟨some 39, _, _, _, _, _⟩) (v := .int .i64 (x3 : Int)) rfl (fun w' hC => by go_simp; exact Q4.out) ?_
      simp only [Act.put, List.setIfInBounds_toArray, List.set_cons_succ, List.set_cons_zero]
      refine wq_val (o := ⟨some 40, _, _, _, _, _⟩) (v := .string sv) rfl (fun w' hC => by first | (go_simp; done) | (go_simp; intro h; omega)) ?_
      simp only [Act.put, List.setIfInBounds_toArray, List.set_cons_succ, List.set_cons_zero]
      refine wq_val (o := ⟨some 8, _, _, _, _, _⟩) (v := .string sa) rfl (fun w' hC => by go_simp) ?_
      simp only [Act.put, List.setIfInBounds_toArray, List.set_cons_succ, List.set_cons_zero]
      refine wq_val (o := ⟨some 9, _, _, _, _, _⟩) (v := .string st) rfl (fun w' hC => by go_simp) ?_
      simp only [Act.put, List.setIfInBounds_toArray, List.set_cons_succ, List.set_cons_zero]
      refine wq_val (o := ⟨some 10, _, _, _, _, _⟩) (v := .string sv) rfl (fun w' hC => by go_simp) ?_
      simp only [Act.put, List.setIfInBounds_toArray, List.set_cons_succ, List.set_cons_zero]
      refine wpQuiet_nil ?_
      intro w5 h5
      have H5 := Lib.hid h5
      clear h5 hb1 hb2 hb3 hb4 hn1 hn2 hn3 hn4 e1 e2 e3 e4 q1 d1 d1' d2 d2' hx1le hnx1
      have ⟨hki, hstz⟩ := HK.out
      cases bm
      · have HO := Lib.hid (show ok = false by have := HF.out.2.2.2.2.2.2; simpa using this)
        go_wp2_with (first
          | (go_at_call 63; go_must (refine (C3.out _).mono ?_); rintro e w2 ⟨rfl, hw2⟩; rw [← hw2]; clear hw2 w2))
        go_loopw [11, 12] (fun v11 v12 wr => ∃ (j : Nat) (bb : Bool), j ≤ k ∧ v11 = .bool bb ∧ v12 = .int .i64 j ∧ bb = (false && (t.take j).all visB) ∧ wr = w5) (fun _ v _ => k - (intOf v).toNat)
        case atStart => exact ⟨0, false, by omega, rfl, rfl, rfl, rfl⟩
        case round =>
          obtain ⟨j, bb, hj, rfl, rfl, hbb, rfl⟩ := hrel
          by_cases hlt : j < k
          · have hks : j < st.size := by omega
            have hkt : j < t.length := by have := HF.out.2.2.2.2.2.1; omega
            obtain ⟨x, hx⟩ : ∃ x, x = t[j] := ⟨_, rfl⟩
            have hsx : st[j] = x := by
              have : ∀ s' : ByteArray, s' = (⟨t.toArray⟩ : ByteArray) → ∀ h, s'[j]'h = t[j] := fun s' e h => by subst e; rfl
              rw [hx]; exact this st HF.out.2.2.2.1 hks
            have hst := all_step (p := visB) hkt
            rw [← hx] at hst
            have hji : (j : Int) < (k : Int) := by omega
            have hj0 : (0 : Int) ≤ (j : Int) := by omega
            cases bb
            · have HB := Lib.hid (show false = (false && (t.take (j + 1)).all visB) by rw [hst, ← Bool.and_assoc, ← hbb]; rfl)
              clear hst hx hbb hkt hlt
              go_wp2
              exact ⟨⟨j + 1, false, by omega, rfl, by go_num, HB.out, trivial⟩, by simp [intOf]; omega⟩
            · have hv : visB x = (decide (33 ≤ x.toNat) && decide (x.toNat ≤ 126)) := rfl
              obtain ⟨b3, hb3⟩ : ∃ b, b = decide (33 ≤ x.toNat) := ⟨_, rfl⟩
              obtain ⟨b4, hb4⟩ : ∃ b, b = decide (x.toNat ≤ 126) := ⟨_, rfl⟩
              rw [← hb3, ← hb4] at hv
              have HB := Lib.hid (show (b3 && b4) = (false && (t.take (j + 1)).all visB) by rw [hst, ← Bool.and_assoc, ← hbb, hv]; rfl)
              have g3 : decide ((33 : Int) ≤ (x.toNat : Int)) = b3 := by rw [hb3]; congr 1; exact propext (by omega)
              have g4 : decide ((x.toNat : Int) ≤ (126 : Int)) = b4 := by rw [hb4]; congr 1; exact propext (by omega)
              clear hst hx hbb hkt hv hlt
              cases b3
              · clear g4 hb3 hb4
                go_wp2
                exact ⟨⟨j + 1, false, by omega, rfl, by go_num, HB.out, trivial⟩, by simp [intOf]; omega⟩
              · cases b4
                · clear hb3 hb4
                  go_wp2
                  exact ⟨⟨j + 1, false, by omega, rfl, by go_num, HB.out, trivial⟩, by simp [intOf]; omega⟩
                · clear hb3 hb4
                  go_wp2
                  exact ⟨⟨j + 1, true, by omega, rfl, by go_num, HB.out, trivial⟩, by simp [intOf]; omega⟩
          · obtain rfl : j = k := by omega
            have ht : t.take j = t := List.take_of_length_le (by have := HF.out.2.2.2.2.2.1; omega)
            rw [ht] at hbb
            have HB := Lib.hid hbb
            clear hbb ht hlt
            go_wp2
            refine bodyPost_ret (v := .tuple #[.string sa, .string st, .string sv, .bool bb]) (by simp [results, Tryd.results40, go_sem]) rfl ?_
            exact ⟨rf_end (a := a) (t := t) (v := v) (ok := ok) HF.out.1 HF.out.2.1 (by rw [HO.out, ← HB.out, ← HF.out.2.2.1, ← HF.out.2.2.2.1, ← HF.out.2.2.2.2.1]), H5.out⟩
      · cases be
        · cases b1
          · cases b2
            · have HO := Lib.hid (show ok = false by have := HF.out.2.2.2.2.2.2; simpa using this)
              go_wp2_with (first
                | (go_at_call 63; go_must (refine (C3.out _).mono ?_); rintro e w2 ⟨rfl, hw2⟩; rw [← hw2]; clear hw2 w2))
              go_loopw [11, 12] (fun v11 v12 wr => ∃ (j : Nat) (bb : Bool), j ≤ k ∧ v11 = .bool bb ∧ v12 = .int .i64 j ∧ bb = (false && (t.take j).all visB) ∧ wr = w5) (fun _ v _ => k - (intOf v).toNat)
              case atStart => exact ⟨0, false, by omega, rfl, rfl, rfl, rfl⟩
              case round =>
                obtain ⟨j, bb, hj, rfl, rfl, hbb, rfl⟩ := hrel
                by_cases hlt : j < k
                · have hks : j < st.size := by omega
                  have hkt : j < t.length := by have := HF.out.2.2.2.2.2.1; omega
                  obtain ⟨x, hx⟩ : ∃ x, x = t[j] := ⟨_, rfl⟩
                  have hsx : st[j] = x := by
                    have : ∀ s' : ByteArray, s' = (⟨t.toArray⟩ : ByteArray) → ∀ h, s'[j]'h = t[j] := fun s' e h => by subst e; rfl
                    rw [hx]; exact this st HF.out.2.2.2.1 hks
                  have hst := all_step (p := visB) hkt
                  rw [← hx] at hst
                  have hji : (j : Int) < (k : Int) := by omega
                  have hj0 : (0 : Int) ≤ (j : Int) := by omega
                  cases bb
                  · have HB := Lib.hid (show false = (false && (t.take (j + 1)).all visB) by rw [hst, ← Bool.and_assoc, ← hbb]; rfl)
                    clear hst hx hbb hkt hlt
                    go_wp2
                    exact ⟨⟨j + 1, false, by omega, rfl, by go_num, HB.out, trivial⟩, by simp [intOf]; omega⟩
                  · have hv : visB x = (decide (33 ≤ x.toNat) && decide (x.toNat ≤ 126)) := rfl
                    obtain ⟨b3, hb3⟩ : ∃ b, b = decide (33 ≤ x.toNat) := ⟨_, rfl⟩
                    obtain ⟨b4, hb4⟩ : ∃ b, b = decide (x.toNat ≤ 126) := ⟨_, rfl⟩
                    rw [← hb3, ← hb4] at hv
                    have HB := Lib.hid (show (b3 && b4) = (false && (t.take (j + 1)).all visB) by rw [hst, ← Bool.and_assoc, ← hbb, hv]; rfl)
                    have g3 : decide ((33 : Int) ≤ (x.toNat : Int)) = b3 := by rw [hb3]; congr 1; exact propext (by omega)
                    have g4 : decide ((x.toNat : Int) ≤ (126 : Int)) = b4 := by rw [hb4]; congr 1; exact propext (by omega)
                    clear hst hx hbb hkt hv hlt
                    cases b3
                    · clear g4 hb3 hb4
                      go_wp2
                      exact ⟨⟨j + 1, false, by omega, rfl, by go_num, HB.out, trivial⟩, by simp [intOf]; omega⟩
                    · cases b4
                      · clear hb3 hb4
                        go_wp2
                        exact ⟨⟨j + 1, false, by omega, rfl, by go_num, HB.out, trivial⟩, by simp [intOf]; omega⟩
                      · clear hb3 hb4
                        go_wp2
                        exact ⟨⟨j + 1, true, by omega, rfl, by go_num, HB.out, trivial⟩, by simp [intOf]; omega⟩
                · obtain rfl : j = k := by omega
                  have ht : t.take j = t := List.take_of_length_le (by have := HF.out.2.2.2.2.2.1; omega)
                  rw [ht] at hbb
                  have HB := Lib.hid hbb
                  clear hbb ht hlt
                  go_wp2
                  refine bodyPost_ret (v := .tuple #[.string sa, .string st, .string sv, .bool bb]) (by simp [results, Tryd.results40, go_sem]) rfl ?_
                  exact ⟨rf_end (a := a) (t := t) (v := v) (ok := ok) HF.out.1 HF.out.2.1 (by rw [HO.out, ← HB.out, ← HF.out.2.2.1, ← HF.out.2.2.2.1, ← HF.out.2.2.2.2.1]), H5.out⟩
            · have HO := Lib.hid (show ok = true by have := HF.out.2.2.2.2.2.2; simpa using this)
              go_wp2_with (first
                | (go_at_call 63; go_must (refine (C3.out _).mono ?_); rintro e w2 ⟨rfl, hw2⟩; rw [← hw2]; clear hw2 w2))
              go_loopw [11, 12] (fun v11 v12 wr => ∃ (j : Nat) (bb : Bool), j ≤ k ∧ v11 = .bool bb ∧ v12 = .int .i64 j ∧ bb = (true && (t.take j).all visB) ∧ wr = w5) (fun _ v _ => k - (intOf v).toNat)
              case atStart => exact ⟨0, true, by omega, rfl, rfl, rfl, rfl⟩
              case round =>
                obtain ⟨j, bb, hj, rfl, rfl, hbb, rfl⟩ := hrel
                by_cases hlt : j < k
                · have hks : j < st.size := by omega
                  have hkt : j < t.length := by have := HF.out.2.2.2.2.2.1; omega
                  obtain ⟨x, hx⟩ : ∃ x, x = t[j] := ⟨_, rfl⟩
                  have hsx : st[j] = x := by
                    have : ∀ s' : ByteArray, s' = (⟨t.toArray⟩ : ByteArray) → ∀ h, s'[j]'h = t[j] := fun s' e h => by subst e; rfl
                    rw [hx]; exact this st HF.out.2.2.2.1 hks
                  have hst := all_step (p := visB) hkt
                  rw [← hx] at hst
                  have hji : (j : Int) < (k : Int) := by omega
                  have hj0 : (0 : Int) ≤ (j : Int) := by omega
                  cases bb
                  · have HB := Lib.hid (show false = (true && (t.take (j + 1)).all visB) by rw [hst, ← Bool.and_assoc, ← hbb]; rfl)
                    clear hst hx hbb hkt hlt
                    go_wp2
                    exact ⟨⟨j + 1, false, by omega, rfl, by go_num, HB.out, trivial⟩, by simp [intOf]; omega⟩
                  · have hv : visB x = (decide (33 ≤ x.toNat) && decide (x.toNat ≤ 126)) := rfl
                    obtain ⟨b3, hb3⟩ : ∃ b, b = decide (33 ≤ x.toNat) := ⟨_, rfl⟩
                    obtain ⟨b4, hb4⟩ : ∃ b, b = decide (x.toNat ≤ 126) := ⟨_, rfl⟩
                    rw [← hb3, ← hb4] at hv
                    have HB := Lib.hid (show (b3 && b4) = (true && (t.take (j + 1)).all visB) by rw [hst, ← Bool.and_assoc, ← hbb, hv]; rfl)
                    have g3 : decide ((33 : Int) ≤ (x.toNat : Int)) = b3 := by rw [hb3]; congr 1; exact propext (by omega)
                    have g4 : decide ((x.toNat : Int) ≤ (126 : Int)) = b4 := by rw [hb4]; congr 1; exact propext (by omega)
                    clear hst hx hbb hkt hv hlt
                    cases b3
                    · clear g4 hb3 hb4
                      go_wp2
                      exact ⟨⟨j + 1, false, by omega, rfl, by go_num, HB.out, trivial⟩, by simp [intOf]; omega⟩
                    · cases b4
                      · clear hb3 hb4
                        go_wp2
                        exact ⟨⟨j + 1, false, by omega, rfl, by go_num, HB.out, trivial⟩, by simp [intOf]; omega⟩
                      · clear hb3 hb4
                        go_wp2
                        exact ⟨⟨j + 1, true, by omega, rfl, by go_num, HB.out, trivial⟩, by simp [intOf]; omega⟩
                · obtain rfl : j = k := by omega
                  have ht : t.take j = t := List.take_of_length_le (by have := HF.out.2.2.2.2.2.1; omega)
                  rw [ht] at hbb
                  have HB := Lib.hid hbb
                  clear hbb ht hlt
                  go_wp2
                  refine bodyPost_ret (v := .tuple #[.string sa, .string st, .string sv, .bool bb]) (by simp [results, Tryd.results40, go_sem]) rfl ?_
                  exact ⟨rf_end (a := a) (t := t) (v := v) (ok := ok) HF.out.1 HF.out.2.1 (by rw [HO.out, ← HB.out, ← HF.out.2.2.1, ← HF.out.2.2.2.1, ← HF.out.2.2.2.2.1]), H5.out⟩
          · have HO := Lib.hid (show ok = true by have := HF.out.2.2.2.2.2.2; simpa using this)
            go_wp2_with (first
              | (go_at_call 63; go_must (refine (C3.out _).mono ?_); rintro e w2 ⟨rfl, hw2⟩; rw [← hw2]; clear hw2 w2))
            go_loopw [11, 12] (fun v11 v12 wr => ∃ (j : Nat) (bb : Bool), j ≤ k ∧ v11 = .bool bb ∧ v12 = .int .i64 j ∧ bb = (true && (t.take j).all visB) ∧ wr = w5) (fun _ v _ => k - (intOf v).toNat)
            case atStart => exact ⟨0, true, by omega, rfl, rfl, rfl, rfl⟩
            case round =>
              obtain ⟨j, bb, hj, rfl, rfl, hbb, rfl⟩ := hrel
              by_cases hlt : j < k
              · have hks : j < st.size := by omega
                have hkt : j < t.length := by have := HF.out.2.2.2.2.2.1; omega
                obtain ⟨x, hx⟩ : ∃ x, x = t[j] := ⟨_, rfl⟩
                have hsx : st[j] = x := by
                  have : ∀ s' : ByteArray, s' = (⟨t.toArray⟩ : ByteArray) → ∀ h, s'[j]'h = t[j] := fun s' e h => by subst e; rfl
                  rw [hx]; exact this st HF.out.2.2.2.1 hks
                have hst := all_step (p := visB) hkt
                rw [← hx] at hst
                have hji : (j : Int) < (k : Int) := by omega
                have hj0 : (0 : Int) ≤ (j : Int) := by omega
                cases bb
                · have HB := Lib.hid (show false = (true && (t.take (j + 1)).all visB) by rw [hst, ← Bool.and_assoc, ← hbb]; rfl)
                  clear hst hx hbb hkt hlt
                  go_wp2
                  exact ⟨⟨j + 1, false, by omega, rfl, by go_num, HB.out, trivial⟩, by simp [intOf]; omega⟩
                · have hv : visB x = (decide (33 ≤ x.toNat) && decide (x.toNat ≤ 126)) := rfl
                  obtain ⟨b3, hb3⟩ : ∃ b, b = decide (33 ≤ x.toNat) := ⟨_, rfl⟩
                  obtain ⟨b4, hb4⟩ : ∃ b, b = decide (x.toNat ≤ 126) := ⟨_, rfl⟩
                  rw [← hb3, ← hb4] at hv
                  have HB := Lib.hid (show (b3 && b4) = (true && (t.take (j + 1)).all visB) by rw [hst, ← Bool.and_assoc, ← hbb, hv]; rfl)
                  have g3 : decide ((33 : Int) ≤ (x.toNat : Int)) = b3 := by rw [hb3]; congr 1; exact propext (by omega)
                  have g4 : decide ((x.toNat : Int) ≤ (126 : Int)) = b4 := by rw [hb4]; congr 1; exact propext (by omega)
                  clear hst hx hbb hkt hv hlt
                  cases b3
                  · clear g4 hb3 hb4
                    go_wp2
                    exact ⟨⟨j + 1, false, by omega, rfl, by go_num, HB.out, trivial⟩, by simp [intOf]; omega⟩
                  · cases b4
                    · clear hb3 hb4
                      go_wp2
                      exact ⟨⟨j + 1, false, by omega, rfl, by go_num, HB.out, trivial⟩, by simp [intOf]; omega⟩
                    · clear hb3 hb4
                      go_wp2
                      exact ⟨⟨j + 1, true, by omega, rfl, by go_num, HB.out, trivial⟩, by simp [intOf]; omega⟩
              · obtain rfl : j = k := by omega
                have ht : t.take j = t := List.take_of_length_le (by have := HF.out.2.2.2.2.2.1; omega)
                rw [ht] at hbb
                have HB := Lib.hid hbb
                clear hbb ht hlt
                go_wp2
                refine bodyPost_ret (v := .tuple #[.string sa, .string st, .string sv, .bool bb]) (by simp [results, Tryd.results40, go_sem]) rfl ?_
                exact ⟨rf_end (a := a) (t := t) (v := v) (ok := ok) HF.out.1 HF.out.2.1 (by rw [HO.out, ← HB.out, ← HF.out.2.2.1, ← HF.out.2.2.2.1, ← HF.out.2.2.2.2.1]), H5.out⟩
        · have HO := Lib.hid (show ok = false by have := HF.out.2.2.2.2.2.2; simpa using this)
          go_wp2_with (first
            | (go_at_call 63; go_must (refine (C3.out _).mono ?_); rintro e w2 ⟨rfl, hw2⟩; rw [← hw2]; clear hw2 w2))
          go_loopw [11, 12] (fun v11 v12 wr => ∃ (j : Nat) (bb : Bool), j ≤ k ∧ v11 = .bool bb ∧ v12 = .int .i64 j ∧ bb = (false && (t.take j).all visB) ∧ wr = w5) (fun _ v _ => k - (intOf v).toNat)
          case atStart => exact ⟨0, false, by omega, rfl, rfl, rfl, rfl⟩
          case round =>
            obtain ⟨j, bb, hj, rfl, rfl, hbb, rfl⟩ := hrel
            by_cases hlt : j < k
            · have hks : j < st.size := by omega
              have hkt : j < t.length := by have := HF.out.2.2.2.2.2.1; omega
              obtain ⟨x, hx⟩ : ∃ x, x = t[j] := ⟨_, rfl⟩
              have hsx : st[j] = x := by
                have : ∀ s' : ByteArray, s' = (⟨t.toArray⟩ : ByteArray) → ∀ h, s'[j]'h = t[j] := fun s' e h => by subst e; rfl
                rw [hx]; exact this st HF.out.2.2.2.1 hks
              have hst := all_step (p := visB) hkt
              rw [← hx] at hst
              have hji : (j : Int) < (k : Int) := by omega
              have hj0 : (0 : Int) ≤ (j : Int) := by omega
              cases bb
              · have HB := Lib.hid (show false = (false && (t.take (j + 1)).all visB) by rw [hst, ← Bool.and_assoc, ← hbb]; rfl)
                clear hst hx hbb hkt hlt
                go_wp2
                exact ⟨⟨j + 1, false, by omega, rfl, by go_num, HB.out, trivial⟩, by simp [intOf]; omega⟩
              · have hv : visB x = (decide (33 ≤ x.toNat) && decide (x.toNat ≤ 126)) := rfl
                obtain ⟨b3, hb3⟩ : ∃ b, b = decide (33 ≤ x.toNat) := ⟨_, rfl⟩
                obtain ⟨b4, hb4⟩ : ∃ b, b = decide (x.toNat ≤ 126) := ⟨_, rfl⟩
                rw [← hb3, ← hb4] at hv
                have HB := Lib.hid (show (b3 && b4) = (false && (t.take (j + 1)).all visB) by rw [hst, ← Bool.and_assoc, ← hbb, hv]; rfl)
                have g3 : decide ((33 : Int) ≤ (x.toNat : Int)) = b3 := by rw [hb3]; congr 1; exact propext (by omega)
                have g4 : decide ((x.toNat : Int) ≤ (126 : Int)) = b4 := by rw [hb4]; congr 1; exact propext (by omega)
                clear hst hx hbb hkt hv hlt
                cases b3
                · clear g4 hb3 hb4
                  go_wp2
                  exact ⟨⟨j + 1, false, by omega, rfl, by go_num, HB.out, trivial⟩, by simp [intOf]; omega⟩
                · cases b4
                  · clear hb3 hb4
                    go_wp2
                    exact ⟨⟨j + 1, false, by omega, rfl, by go_num, HB.out, trivial⟩, by simp [intOf]; omega⟩
                  · clear hb3 hb4
                    go_wp2
                    exact ⟨⟨j + 1, true, by omega, rfl, by go_num, HB.out, trivial⟩, by simp [intOf]; omega⟩
            · obtain rfl : j = k := by omega
              have ht : t.take j = t := List.take_of_length_le (by have := HF.out.2.2.2.2.2.1; omega)
              rw [ht] at hbb
              have HB := Lib.hid hbb
              clear hbb ht hlt
              go_wp2
              refine bodyPost_ret (v := .tuple #[.string sa, .string st, .string sv, .bool bb]) (by simp [results, Tryd.results40, go_sem]) rfl ?_
              exact ⟨rf_end (a := a) (t := t) (v := v) (ok := ok) HF.out.1 HF.out.2.1 (by rw [HO.out, ← HB.out, ← HF.out.2.2.1, ← HF.out.2.2.2.1, ← HF.out.2.2.2.2.1]), H5.out⟩
end Go.Proofs.YtojemdggbcklkaaDoor.WireR
