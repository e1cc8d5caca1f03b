/- cursor.first: a request's first line. (Printed by mkwfirst.py.) -/
import Derived.Test.YtojemdggbcklkaaDoorWPure
import Derived.Test.YtojemdggbcklkaaDoorWFields

/- The first line, by its first and its last space. Plain Lean. -/
namespace Go.Proofs.YtojemdggbcklkaaDoor.Wire
open Go.Proofs.YtojemdggbcklkaaDoor.Strs Go.Proofs.YtojemdggbcklkaaDoor.Heads
set_option linter.unusedVariables false
set_option linter.unusedSimpArgs false

theorem vis_no32 {l : Bytes} (h : l.all visB = true) : (32 : UInt8) ∉ l := fun hm => by
  have := List.all_eq_true.1 h 32 hm
  revert this
  decide
theorem first_last {l m r : Bytes} (h1 : cutL 32 l = some (m, r)) {i : Nat} (hi : i < l.length) (h32 : l[i] = 32) (hno : (32 : UInt8) ∉ l.drop (i + 1)) :
    firstS l = if m ≠ [] ∧ m.length + 1 < i ∧ m.all tokB = true ∧ (r.take (i - m.length - 1)).all visB = true ∧ (l.drop (i + 1) = v11 ∨ l.drop (i + 1) = v10) then some (m, r.take (i - m.length - 1), decide (l.drop (i + 1) = v10)) else none := by
  obtain ⟨hl, hm⟩ := cutL_some h1
  have hr : l.drop (m.length + 1) = r := by
    rw [hl, show m ++ 32 :: r = (m ++ [32]) ++ r by simp]
    exact List.drop_left' (by simp)
  have hge : m.length ≤ i := by
    rcases Nat.lt_or_ge i m.length with h | h
    · exfalso
      apply hm
      have h2 : l[i]? = some 32 := by rw [List.getElem?_eq_getElem hi, h32]
      rw [hl, List.getElem?_append_left h] at h2
      exact List.mem_of_getElem? h2
    · exact h
  unfold firstS
  rw [h1]
  simp only
  by_cases he : i = m.length
  · have hn : cutL 32 r = none := cutL_not (by rw [← hr, ← he]; exact hno)
    rw [hn, if_neg (fun h => by have := h.2.1; omega)]
  · obtain ⟨k, hk⟩ : ∃ k, k = i - m.length - 1 := ⟨_, rfl⟩
    have hrk : r[k]? = some 32 := by
      rw [← hr, List.getElem?_drop, show m.length + 1 + k = i by omega, List.getElem?_eq_getElem hi, h32]
    have hdr : l.drop (i + 1) = r.drop (k + 1) := by rw [← hr, List.drop_drop]; congr 1; omega
    rw [hdr] at hno ⊢
    rw [← hk]
    cases hc : cutL 32 r with
    | none => exact absurd (List.mem_of_getElem? hrk) (cutL_none hc)
    | some p =>
      obtain ⟨t, v⟩ := p
      obtain ⟨e, ht⟩ := cutL_some hc
      simp only
      have htk : t.length ≤ k := by
        rcases Nat.lt_or_ge k t.length with h | h
        · exfalso
          apply ht
          rw [e, List.getElem?_append_left h] at hrk
          exact List.mem_of_getElem? hrk
        · exact h
      by_cases hek : k = t.length
      · have ht2 : r.take k = t := by rw [e, hek]; exact List.take_left' rfl
        have hv2 : r.drop (k + 1) = v := by
          rw [e, show t ++ 32 :: v = (t ++ [32]) ++ v by simp]
          exact List.drop_left' (by simp [hek])
        rw [ht2, hv2]
        have hiff : t ≠ [] ↔ m.length + 1 < i := by
          rw [← List.length_pos_iff]
          omega
        by_cases hall : m ≠ [] ∧ m.all tokB = true ∧ t ≠ [] ∧ t.all visB = true ∧ (v = v11 ∨ v = v10)
        · rw [if_pos hall, if_pos ⟨hall.1, hiff.1 hall.2.2.1, hall.2.1, hall.2.2.2⟩]
        · rw [if_neg hall, if_neg (fun h => hall ⟨h.1, h.2.2.1, hiff.2 h.2.1, h.2.2.2⟩)]
      · have hv32 : (32 : UInt8) ∈ v := by
          have h2 := hrk
          rw [e, List.getElem?_append_right htk] at h2
          obtain ⟨j, hj⟩ : ∃ j, k - t.length = j + 1 := ⟨k - t.length - 1, by omega⟩
          rw [hj, List.getElem?_cons_succ] at h2
          exact List.mem_of_getElem? h2
        have ht32 : (32 : UInt8) ∈ r.take k := by
          have h2 : (r.take k)[t.length]? = some 32 := by
            rw [List.getElem?_take_of_lt (by omega), e, List.getElem?_append_right (Nat.le_refl _)]
            simp
          exact List.mem_of_getElem? h2
        rw [if_neg (fun h => by
          rcases h.2.2.2.2 with h | h
          · rw [h] at hv32; revert hv32; decide
          · rw [h] at hv32; revert hv32; decide), if_neg (fun h => vis_no32 h.2.2.2.1 ht32)]
end Go.Proofs.YtojemdggbcklkaaDoor.Wire
namespace Go.Proofs.YtojemdggbcklkaaDoor.WireR
open Go.RowKit Go.Proofs.YtojemdggbcklkaaDoor.Mem Go.Proofs.YtojemdggbcklkaaDoor.Wire Go.Proofs.YtojemdggbcklkaaDoor.Strs Go.Proofs.YtojemdggbcklkaaDoor.Heads
set_option linter.unusedVariables false
set_option linter.unusedSimpArgs false
set_option maxRecDepth 4000

theorem last_at {l m r : Bytes} (h : cutL 32 l = some (m, r)) : ∃ j, ∃ hj : j < l.length, Lib.lastIndexByte (⟨l.toArray⟩ : ByteArray) 32 = (j : Int) ∧ l[j] = 32 ∧ (32 : UInt8) ∉ l.drop (j + 1) ∧ m.length ≤ j := by
  have hz : (⟨l.toArray⟩ : ByteArray).size = l.length := by simp [ByteArray.size]
  have hat : ∀ j (hj : j < l.length), (((⟨l.toArray⟩ : ByteArray).data[j]!).toNat : Int) = (l[j].toNat : Int) := fun j hj => by simp [hj]
  have hlen := cutL_len h
  have hm : l[m.length]? = some 32 := by
    rw [(cutL_some h).1, List.getElem?_append_right (Nat.le_refl _)]; simp
  have hml : m.length < l.length := by omega
  have hm' : l[m.length] = 32 := by rw [List.getElem?_eq_getElem hml] at hm; injection hm
  rcases Lib.lastIndexByte_spec (⟨l.toArray⟩ : ByteArray) 32 with ⟨_, hn⟩ | ⟨j, hj, e, hc, hn⟩
  · exact absurd (by rw [hat _ hml, hm']; rfl) (hn m.length (by omega))
  · rw [hz] at hj hn
    rw [hat j hj] at hc
    have h32 : l[j] = 32 := UInt8.toNat_inj.1 (by show l[j].toNat = 32; omega)
    refine ⟨j, hj, e, h32, fun hmem => ?_, ?_⟩
    · obtain ⟨k, hk, hk2⟩ := List.getElem_of_mem hmem
      rw [List.length_drop] at hk
      rw [List.getElem_drop] at hk2
      exact hn (j + 1 + k) (by omega) (by omega) (by rw [hat _ (by omega), hk2]; rfl)
    · rcases Nat.lt_or_ge j m.length with hlt | hge
      · exact absurd (by rw [hat _ hml, hm']; rfl) (hn m.length hlt hml)
      · exact hge
theorem str_lit (a b : List UInt8) : ((⟨a.toArray⟩ : ByteArray).toList == b) = decide (a = b) := by
  rw [ByteArray.toList_eq]
  rw [Bool.eq_iff_iff]; simp
theorem w64i {x : Int} (h0 : 0 ≤ x) (h1 : x ≤ 1073741824) : IntKind.i64.wrap x = x := by simp [IntKind.wrap, IntKind.bits, IntKind.signed]; omega
theorem w64w {x : Int} (h0 : 0 ≤ x) (h1 : x ≤ 1073741824) : wrap64 x = x := by unfold wrap64; omega
theorem Cur.apart {w w' : World} {g q : Nat} {R : Option Addr} {c p : Nat} {s : List UInt8} {more : Bool} (h : Cur w g R c s p more) (hb : w.grownBy w' (some q)) (hq : q ≠ g) (hf : s ≠ [] → ∀ ad, R = some ad → ad.block ≠ q) : Cur w' g R c s p more :=
  ⟨h.blk.grown hb (fun e => hq (by injection e with e; exact e.symm)), RB.grown h.rb hf hb, h.far, h.le, h.len, h.cap⟩
/-- what the first line's reader finds and keeps of the world -/
structure FH (B : Nat) (w : World) (g q : Nat) (R : Option Addr) (c p : Nat) (s : List UInt8) (more : Bool) (v2 v3 v4 : Value) : Prop where
  cur : Cur w g R c s p more
  req : Blk w q 30 [.string ⟨#[]⟩, .string ⟨#[]⟩, v2, v3, v4]
  ne : q ≠ g
  far : s ≠ [] → ∀ ad, R = some ad → ad.block ≠ q
  bg : B ≤ g
  bq : B ≤ q
theorem low_g {B : Nat} {w w1 : World} {g q : Nat} {R : Option Addr} {c p : Nat} {s : List UInt8} {more : Bool} {v2 v3 v4 : Value} (h : FH B w g q R c p s more v2 v3 v4) (hg : w.grownBy w1 (some g)) : Below B w w1 :=
  (Below.refl B w).grown hg (by have := h.cur.blk.lt; have := h.bg; omega) (fun k hk => by injection hk with hk; have := h.bg; omega)
def FirstPost (B : Nat) (w : World) (g q : Nat) (R : Option Addr) (c : Nat) (s : List UInt8) (more : Bool) (v2 v3 v4 : Value) (r : Res Bytes) (e : Ending) (w' : World) : Prop :=
  Below B w w' ∧ match r with
  | .err er => e = .returned (.tuple #[.bool false, .int .i64 (errV more er : Nat)])
  | .ok x b => match firstS x with
    | none => e = .returned (.tuple #[.bool false, .int .i64 280])
    | some (m, t, old) => e = .returned (.tuple #[.bool old, .int .i64 0]) ∧ Cur w' g R c s (s.length - b.length) more ∧ Blk w' q 30 [.string ⟨m.toArray⟩, .string ⟨t.toArray⟩, v2, v3, v4]
theorem fp_none {B : Nat} {w w' : World} {g q : Nat} {R : Option Addr} {c : Nat} {s x b : List UInt8} {more : Bool} {v2 v3 v4 : Value} {e : Ending} (h : firstS x = none) (hb : Below B w w') (he : e = .returned (.tuple #[.bool false, .int .i64 280])) : FirstPost B w g q R c s more v2 v3 v4 (.ok x b) e w' := by
  unfold FirstPost
  simp only [h]
  exact ⟨hb, he⟩
theorem fp_some {B : Nat} {w w' : World} {g q : Nat} {R : Option Addr} {c : Nat} {s x b m t : List UInt8} {old more : Bool} {v2 v3 v4 : Value} {e : Ending} (h : firstS x = some (m, t, old)) (hb : Below B w w') (he : e = .returned (.tuple #[.bool old, .int .i64 0])) (hc : Cur w' g R c s (s.length - b.length) more) (hq : Blk w' q 30 [.string ⟨m.toArray⟩, .string ⟨t.toArray⟩, v2, v3, v4]) : FirstPost B w g q R c s more v2 v3 v4 (.ok x b) e w' := by
  unfold FirstPost
  simp only [h]
  exact ⟨hb, he, hc, hq⟩

set_option maxHeartbeats 8000000 in
theorem first_any {B : Nat} {w : World} {g q : Nat} {R : Option Addr} {c p : Nat} {s : List UInt8} {more : Bool} {v2 v3 v4 : Value} (h : FH B w g q R c p s more v2 v3 v4) :
    Calls Tryd.prog 32 #[.pointer (some ⟨g, 0, none⟩), .pointer (some ⟨q, 0, none⟩)] w (FirstPost B w g q R c s more v2 v3 v4 (lineS 280 (s.drop p))) := by
  have HH := Lib.hid h
  clear h
  have c1 := line_any HH.out.cur 280 (by omega)
  cases hl : lineS 280 (s.drop p) with
  | err er =>
    rw [hl] at c1
    have C1 := Lib.hid c1
    obtain ⟨y, hy⟩ : ∃ y, y = errV more er := ⟨_, rfl⟩
    have hy0 : (y : Int) ≠ 0 := by have := errV_pos (more := more) (lineS_err hl (by omega)); omega
    clear c1 hl
    go_enter Tryd.func32, Tryd.ntmps32
    go_wp2_with (first
      | (go_at_call 47; go_must (refine (C1.out).mono ?_); rintro e w1 hp1; obtain ⟨hg1, rfl, hc1⟩ := hp1; rw [← hy]; have H1 := Lib.hid (And.intro hg1 hc1); clear hg1 hc1))
    go_ret2
    exact ⟨low_g HH.out H1.out.1, rfl⟩

  | ok l b =>
    rw [hl] at c1
    unfold LinePost at c1
    simp only at c1
    obtain ⟨u, hu⟩ := lineS_suf hl
    have hll : l.length ≤ 65536 := by
      have h2 : l.length ≤ (s.drop p).length := lineS_le hl
      rw [List.length_drop] at h2
      have := HH.out.cur.len
      omega
    obtain ⟨n, hn⟩ : ∃ n, n = l.length := ⟨_, rfl⟩
    obtain ⟨sl, hs⟩ : ∃ x, x = (⟨l.toArray⟩ : ByteArray) := ⟨_, rfl⟩
    have hsz : sl.size = n := by rw [hs, hn]; simp [ByteArray.size]
    have hni : (n : Int) ≤ 65536 := by omega
    have c2 := fun w => Tryd.strings_IndexByte ⟨l.toArray⟩ 32 w
    obtain ⟨i, hi⟩ : ∃ i, i = Lib.indexByte l 32 := ⟨_, rfl⟩
    rw [show (Lib.indexByte (⟨l.toArray⟩ : ByteArray).data.toList (32 : Int).toNat.toUInt8) = i from hi.symm] at c2
    have c3 := fun w => Tryd.strings_LastIndexByte ⟨l.toArray⟩ 32 (by simp [ByteArray.size]; omega) w
    obtain ⟨jj, hj⟩ : ∃ x, x = Lib.lastIndexByte (⟨l.toArray⟩ : ByteArray) 32 := ⟨_, rfl⟩
    rw [← hj] at c3
    rw [← hs] at c1 c2 c3
    have C1 := Lib.hid c1
    have C2 := Lib.hid c2
    have C3 := Lib.hid c3
    clear c1 c2 c3 hu hl
    cases hcut : cutL 32 l with
    | none =>
      have d0 : decide (i < 1) = true := by rw [hi, indexByte_cut, hcut]; rfl
      have HP : firstS l = none := by unfold firstS; rw [hcut]
      replace HP := Lib.hid HP
      clear hi hj hcut hn hs hll
      go_enter Tryd.func32, Tryd.ntmps32
      go_wp2_with (first
        | (go_at_call 47; go_must (refine (C1.out).mono ?_); rintro e w1 hp1; obtain ⟨hg1, rfl, hc1⟩ := hp1; have H1 := Lib.hid (And.intro hg1 hc1); clear hg1 hc1)
        | (go_at_call 48; go_must (refine (C2.out _).mono ?_); rintro e w2 ⟨rfl, hw2⟩; rw [hw2]; clear hw2 w2)
        | (go_at_call 49; go_must (refine (C3.out _).mono ?_); rintro e w2 ⟨rfl, hw2⟩; rw [hw2]; clear hw2 w2))
      go_ret2
      exact fp_none HP.out (low_g HH.out H1.out.1) rfl

    | some mr =>
      obtain ⟨a, r⟩ := mr
      obtain ⟨j, hjl, hje, hj32, hjno, haj⟩ := last_at hcut
      have hF := first_last hcut hjl hj32 hjno
      have hlen := cutL_len hcut
      obtain ⟨e1, e2⟩ := ext_two hcut
      have him : i = (a.length : Int) := by rw [hi, indexByte_cut, hcut]
      obtain ⟨m, hm⟩ : ∃ m, m = a.length := ⟨_, rfl⟩
      obtain rfl : i = (m : Int) := by rw [him, hm]
      obtain rfl : jj = (j : Int) := by rw [hj, hje]
      by_cases h0 : m = 0
      · have d0 : decide ((m : Int) < 1) = true := by simp; omega
        have HP : firstS l = none := by rw [hF, if_neg (fun h => h.1 (List.eq_nil_of_length_eq_zero (by omega)))]
        replace HP := Lib.hid HP
        clear hi hj hcut hn hs hll hjl hje hj32 hjno hF hlen e1 e2 him hm haj h0
        go_enter Tryd.func32, Tryd.ntmps32
        go_wp2_with (first
          | (go_at_call 47; go_must (refine (C1.out).mono ?_); rintro e w1 hp1; obtain ⟨hg1, rfl, hc1⟩ := hp1; have H1 := Lib.hid (And.intro hg1 hc1); clear hg1 hc1)
          | (go_at_call 48; go_must (refine (C2.out _).mono ?_); rintro e w2 ⟨rfl, hw2⟩; rw [hw2]; clear hw2 w2)
          | (go_at_call 49; go_must (refine (C3.out _).mono ?_); rintro e w2 ⟨rfl, hw2⟩; rw [hw2]; clear hw2 w2))
        go_ret2
        exact fp_none HP.out (low_g HH.out H1.out.1) rfl

      · have d0 : decide ((m : Int) < 1) = false := by simp; omega
        have hm0 : (0 : Int) ≤ (m : Int) + 1 := by omega
        have hm1 : (m : Int) + 1 ≤ 1073741824 := by omega
        by_cases hjm : j ≤ m + 1
        · have d1 : decide ((j : Int) ≤ (m : Int) + 1) = true := by simp; omega
          have HP : firstS l = none := by rw [hF, if_neg (fun h => by have := h.2.1; omega)]
          replace HP := Lib.hid HP
          have hmr := w64i hm0 hm1
          have hmw := w64w hm0 hm1
          clear hi hj hcut hn hs hll hjl hje hj32 hjno hF hlen e1 e2 him hm haj h0 hjm hm0 hm1
          go_enter Tryd.func32, Tryd.ntmps32
          go_wp2_with (first
            | (go_at_call 47; go_must (refine (C1.out).mono ?_); rintro e w1 hp1; obtain ⟨hg1, rfl, hc1⟩ := hp1; have H1 := Lib.hid (And.intro hg1 hc1); clear hg1 hc1)
            | (go_at_call 48; go_must (refine (C2.out _).mono ?_); rintro e w2 ⟨rfl, hw2⟩; rw [hw2]; clear hw2 w2)
            | (go_at_call 49; go_must (refine (C3.out _).mono ?_); rintro e w2 ⟨rfl, hw2⟩; rw [hw2]; clear hw2 w2))
          go_ret2
          exact fp_none HP.out (low_g HH.out H1.out.1) rfl

        · have d1 : decide ((j : Int) ≤ (m : Int) + 1) = false := by simp; omega
          obtain ⟨t, ht⟩ : ∃ t, t = r.take (j - a.length - 1) := ⟨_, rfl⟩
          obtain ⟨v, hv⟩ : ∃ v, v = l.drop (j + 1) := ⟨_, rfl⟩
          have hne : a ≠ [] := fun e => h0 (by rw [hm, e]; rfl)
          rw [← ht, ← hv] at hF
          obtain ⟨ba, hba⟩ : ∃ x, x = a.all tokB := ⟨_, rfl⟩
          obtain ⟨bt, hbt⟩ : ∃ x, x = t.all visB := ⟨_, rfl⟩
          have hF2 : firstS l = if ba = true ∧ bt = true ∧ (v = v11 ∨ v = v10) then some (a, t, decide (v = v10)) else none := by
            rw [hF, hba, hbt]
            have hj2 : a.length + 1 < j := by omega
            simp only [hne, hj2, ne_eq, not_false_eq_true, true_and]
          obtain ⟨sa, hsa⟩ : ∃ x, x = (⟨a.toArray⟩ : ByteArray) := ⟨_, rfl⟩
          obtain ⟨st, hst⟩ : ∃ x, x = (⟨t.toArray⟩ : ByteArray) := ⟨_, rfl⟩
          obtain ⟨sv, hsv⟩ : ∃ x, x = (⟨v.toArray⟩ : ByteArray) := ⟨_, rfl⟩
          have e1' : sl.extract 0 m = sa := by rw [hs, hm, hsa]; exact e1
          have e2' : sl.extract (m + 1) j = st := by
            rw [hs, hst, ht, Lib.extract_eq]
            have hr : l.drop (m + 1) = r := by
              rw [(cutL_some hcut).1, hm, show a ++ 32 :: r = (a ++ [32]) ++ r by simp]
              exact List.drop_left' (by simp)
            show (⟨((l.drop (m + 1)).take _).toArray⟩ : ByteArray) = _
            rw [hr]
            congr 3
            omega
          have e3' : sl.extract (j + 1) n = sv := by
            rw [hs, hsv, hv, Lib.extract_eq]
            show (⟨((l.drop (j + 1)).take _).toArray⟩ : ByteArray) = _
            rw [List.take_of_length_le (by rw [List.length_drop]; omega)]
          have hal : a.length ≤ 1073741824 := by omega
          have htl : t.length ≤ 1073741824 := by rw [ht, List.length_take]; omega
          have c4 := fun W => allOf_tok a W hal
          have c5 := fun W => allOf_vis t W htl
          rw [← hba, ← hsa] at c4
          rw [← hbt, ← hst] at c5
          have C4 := Lib.hid c4
          have C5 := Lib.hid c5
          have hj0 : (0 : Int) ≤ (j : Int) + 1 := by omega
          have hj1 : (j : Int) + 1 ≤ 1073741824 := by omega
          have hmi : (m : Int) + 1 ≤ (j : Int) := by omega
          have hji : (j : Int) + 1 ≤ (n : Int) := by omega
          have hnm : ¬ n < m := by omega
          have hjm1 : ¬ j < m + 1 := by omega
          have hnj : ¬ n < j := by omega
          have hnj1 : ¬ n < j + 1 := by omega
          have hmr := w64i hm0 hm1
          have hmw := w64w hm0 hm1
          have hjr := w64i hj0 hj1
          have hjw := w64w hj0 hj1
          clear hi hj hcut hn hs hll hjl hje hj32 hjno hF hlen e1 e2 him hm haj h0 hjm hne hal htl c4 c5 hba hbt ht hv hm0 hm1 hj0 hj1
          cases ba
          · have HP : firstS l = none := by rw [hF2]; simp
            replace HP := Lib.hid HP
            clear hF2 hsa hst hsv
            go_enter Tryd.func32, Tryd.ntmps32
            go_wp2_with (first
              | (go_at_call 47; go_must (refine (C1.out).mono ?_); rintro e w1 hp1; obtain ⟨hg1, rfl, hc1⟩ := hp1; have H1 := Lib.hid (And.intro hg1 hc1); clear hg1 hc1)
              | (go_at_call 48; go_must (refine (C2.out _).mono ?_); rintro e w2 ⟨rfl, hw2⟩; rw [hw2]; clear hw2 w2)
              | (go_at_call 49; go_must (refine (C3.out _).mono ?_); rintro e w2 ⟨rfl, hw2⟩; rw [hw2]; clear hw2 w2)
              | (go_at_call 50; (with_reducible show Calls _ _ #[.string sa, .func (.func 51) #[] #[]] _ _); go_must (refine (C4.out _).mono ?_); rintro e w2 ⟨rfl, hw2⟩; rw [← hw2]; clear hw2 w2))
            go_ret2
            exact fp_none HP.out (low_g HH.out H1.out.1) rfl

          · cases bt
            · have HP : firstS l = none := by rw [hF2]; simp
              replace HP := Lib.hid HP
              clear hF2 hsa hst hsv
              go_enter Tryd.func32, Tryd.ntmps32
              go_wp2_with (first
                | (go_at_call 47; go_must (refine (C1.out).mono ?_); rintro e w1 hp1; obtain ⟨hg1, rfl, hc1⟩ := hp1; have H1 := Lib.hid (And.intro hg1 hc1); clear hg1 hc1)
                | (go_at_call 48; go_must (refine (C2.out _).mono ?_); rintro e w2 ⟨rfl, hw2⟩; rw [hw2]; clear hw2 w2)
                | (go_at_call 49; go_must (refine (C3.out _).mono ?_); rintro e w2 ⟨rfl, hw2⟩; rw [hw2]; clear hw2 w2)
                | (go_at_call 50; (with_reducible show Calls _ _ #[.string sa, .func (.func 51) #[] #[]] _ _); go_must (refine (C4.out _).mono ?_); rintro e w2 ⟨rfl, hw2⟩; rw [← hw2]; clear hw2 w2)
                | (go_at_call 50; go_must (refine (C5.out _).mono ?_); rintro e w2 ⟨rfl, hw2⟩; rw [← hw2]; clear hw2 w2))
              go_ret2
              exact fp_none HP.out (low_g HH.out H1.out.1) rfl

            · have k1 : (sv.toList == [72, 84, 84, 80, 47, 49, 46, 49]) = decide (v = v11) := by rw [hsv]; exact str_lit v v11
              have k2 : (sv.toList == [72, 84, 84, 80, 47, 49, 46, 48]) = decide (v = v10) := by rw [hsv]; exact str_lit v v10
              by_cases h1 : v = v11
              · have h2 : decide (v = v10) = false := by rw [h1]; decide
                have HP : firstS l = some (a, t, false) := by rw [hF2, if_pos ⟨rfl, rfl, .inl h1⟩, h2]
                replace HP := Lib.hid HP
                rw [decide_eq_true h1] at k1
                rw [h2] at k2
                have HS := Lib.hid (And.intro hsa hst)
                clear hF2 hsa hst hsv h1 h2
                go_enter Tryd.func32, Tryd.ntmps32
                go_wp2_with (first
                  | (go_at_call 47; go_must (refine (C1.out).mono ?_); rintro e w1 hp1; obtain ⟨hg1, rfl, hc1⟩ := hp1; have hBq := HH.out.req.grown hg1 (fun e => HH.out.ne (by injection e)); have d0q := hBq.cell 0; have d1q := hBq.cell 1; have f0q := hBq.frozen 0; have f1q := hBq.frozen 1; simp only [List.getElem?_cons_succ, List.getElem?_cons_zero] at d0q d1q; have HBQ := Lib.hid hBq; clear hBq; have H1 := Lib.hid (And.intro hg1 hc1); clear hg1 hc1)
                  | (go_at_call 48; go_must (refine (C2.out _).mono ?_); rintro e w2 ⟨rfl, hw2⟩; rw [hw2]; clear hw2 w2)
                  | (go_at_call 49; go_must (refine (C3.out _).mono ?_); rintro e w2 ⟨rfl, hw2⟩; rw [hw2]; clear hw2 w2)
                  | (go_at_call 50; (with_reducible show Calls _ _ #[.string sa, .func (.func 51) #[] #[]] _ _); go_must (refine (C4.out _).mono ?_); rintro e w2 ⟨rfl, hw2⟩; rw [← hw2]; clear hw2 w2)
                  | (go_at_call 50; go_must (refine (C5.out _).mono ?_); rintro e w2 ⟨rfl, hw2⟩; rw [← hw2]; clear hw2 w2))

                go_ret2
                have hg2 := (grownBy_set w1 q 0 (.string sa)).trans (grownBy_set _ q 1 (.string st))
                exact fp_some HP.out ((low_g HH.out H1.out.1).grown hg2 (by have := HBQ.out.lt; have := HH.out.bq; omega) (fun k hk => by injection hk with hk; have := HH.out.bq; omega)) rfl (H1.out.2.apart hg2 HH.out.ne HH.out.far) (by rw [← HS.out.1, ← HS.out.2]; exact (HBQ.out.set_ 0 _).set_ 1 _)
              · by_cases h2 : v = v10
                · have HP : firstS l = some (a, t, true) := by rw [hF2, if_pos ⟨rfl, rfl, .inr h2⟩, decide_eq_true h2]
                  replace HP := Lib.hid HP
                  rw [decide_eq_true h2] at k2
                  rw [decide_eq_false h1] at k1
                  have HS := Lib.hid (And.intro hsa hst)
                  clear hF2 hsa hst hsv h1 h2
                  go_enter Tryd.func32, Tryd.ntmps32
                  go_wp2_with (first
                    | (go_at_call 47; go_must (refine (C1.out).mono ?_); rintro e w1 hp1; obtain ⟨hg1, rfl, hc1⟩ := hp1; have hBq := HH.out.req.grown hg1 (fun e => HH.out.ne (by injection e)); have d0q := hBq.cell 0; have d1q := hBq.cell 1; have f0q := hBq.frozen 0; have f1q := hBq.frozen 1; simp only [List.getElem?_cons_succ, List.getElem?_cons_zero] at d0q d1q; have HBQ := Lib.hid hBq; clear hBq; have H1 := Lib.hid (And.intro hg1 hc1); clear hg1 hc1)
                    | (go_at_call 48; go_must (refine (C2.out _).mono ?_); rintro e w2 ⟨rfl, hw2⟩; rw [hw2]; clear hw2 w2)
                    | (go_at_call 49; go_must (refine (C3.out _).mono ?_); rintro e w2 ⟨rfl, hw2⟩; rw [hw2]; clear hw2 w2)
                    | (go_at_call 50; (with_reducible show Calls _ _ #[.string sa, .func (.func 51) #[] #[]] _ _); go_must (refine (C4.out _).mono ?_); rintro e w2 ⟨rfl, hw2⟩; rw [← hw2]; clear hw2 w2)
                    | (go_at_call 50; go_must (refine (C5.out _).mono ?_); rintro e w2 ⟨rfl, hw2⟩; rw [← hw2]; clear hw2 w2))

                  go_ret2
                  have hg2 := (grownBy_set w1 q 0 (.string sa)).trans (grownBy_set _ q 1 (.string st))
                  exact fp_some HP.out ((low_g HH.out H1.out.1).grown hg2 (by have := HBQ.out.lt; have := HH.out.bq; omega) (fun k hk => by injection hk with hk; have := HH.out.bq; omega)) rfl (H1.out.2.apart hg2 HH.out.ne HH.out.far) (by rw [← HS.out.1, ← HS.out.2]; exact (HBQ.out.set_ 0 _).set_ 1 _)
                · have HP : firstS l = none := by rw [hF2, if_neg (fun h => h.2.2.elim h1 h2)]
                  replace HP := Lib.hid HP
                  rw [decide_eq_false h2] at k2
                  rw [decide_eq_false h1] at k1
                  clear hF2 hsa hst hsv h1 h2
                  go_enter Tryd.func32, Tryd.ntmps32
                  go_wp2_with (first
                    | (go_at_call 47; go_must (refine (C1.out).mono ?_); rintro e w1 hp1; obtain ⟨hg1, rfl, hc1⟩ := hp1; have H1 := Lib.hid (And.intro hg1 hc1); clear hg1 hc1)
                    | (go_at_call 48; go_must (refine (C2.out _).mono ?_); rintro e w2 ⟨rfl, hw2⟩; rw [hw2]; clear hw2 w2)
                    | (go_at_call 49; go_must (refine (C3.out _).mono ?_); rintro e w2 ⟨rfl, hw2⟩; rw [hw2]; clear hw2 w2)
                    | (go_at_call 50; (with_reducible show Calls _ _ #[.string sa, .func (.func 51) #[] #[]] _ _); go_must (refine (C4.out _).mono ?_); rintro e w2 ⟨rfl, hw2⟩; rw [← hw2]; clear hw2 w2)
                    | (go_at_call 50; go_must (refine (C5.out _).mono ?_); rintro e w2 ⟨rfl, hw2⟩; rw [← hw2]; clear hw2 w2))
                  go_ret2
                  exact fp_none HP.out (low_g HH.out H1.out.1) rfl

end Go.Proofs.YtojemdggbcklkaaDoor.WireR
