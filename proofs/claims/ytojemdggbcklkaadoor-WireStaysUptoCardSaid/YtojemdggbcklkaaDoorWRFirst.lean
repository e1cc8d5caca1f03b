/- weirref28.first: a request's first line. -/
import Derived.Test.YtojemdggbcklkaaDoorWFirst
import Derived.Test.YtojemdggbcklkaaDoorWRLines
namespace Go.Proofs.YtojemdggbcklkaaDoor.WireR
open Go.RowKit Go.Proofs.YtojemdggbcklkaaDoor.Mem Go.Proofs.YtojemdggbcklkaaDoor.Wire Go.Proofs.YtojemdggbcklkaaDoor.Strs Go.Proofs.YtojemdggbcklkaaDoor.Heads
set_option linter.unusedVariables false
set_option linter.unusedSimpArgs false
set_option maxRecDepth 4000

theorem w64j {x y : Int} (e : x = y) (h0 : 0 ≤ y) (h1 : y ≤ 2147483648) : IntKind.i64.wrap x = y := by
  subst e
  simp [IntKind.wrap, IntKind.bits, IntKind.signed]
  omega
def RFirstPost (r : Option (Bytes × Bytes × Bool)) (e : Ending) : Prop :=
  match r with
  | none => ∃ a b c : ByteArray, e = .returned (.tuple #[.string a, .string b, .string c, .bool false])
  | some (m, t, old) => e = .returned (.tuple #[.string ⟨m.toArray⟩, .string ⟨t.toArray⟩, .string ⟨(if old = true then v10 else v11).toArray⟩, .bool true])
theorem rf_none {r : Option (Bytes × Bytes × Bool)} {e : Ending} (h : r = none) (a b c : ByteArray) (he : e = .returned (.tuple #[.string a, .string b, .string c, .bool false])) : RFirstPost r e := by rw [h]; exact ⟨a, b, c, he⟩
theorem rf_end {l a t v : Bytes} {ok : Bool} {e : Ending} (h : firstS l = if ok = true ∧ t.all visB = true then some (a, t, decide (v = v10)) else none) (hv : ok = true → v = v11 ∨ v = v10)
    (he : e = .returned (.tuple #[.string ⟨a.toArray⟩, .string ⟨t.toArray⟩, .string ⟨v.toArray⟩, .bool (ok && t.all visB)])) : RFirstPost (firstS l) e := by
  by_cases hc : ok = true ∧ t.all visB = true
  · rw [h, if_pos hc]
    show e = _
    rw [he, hc.1, hc.2]
    rcases hv hc.1 with rfl | rfl <;> rfl
  · rw [h, if_neg hc]
    refine ⟨⟨a.toArray⟩, ⟨t.toArray⟩, ⟨v.toArray⟩, ?_⟩
    rw [he]
    have : (ok && t.all visB) = false := by
      rw [← Bool.not_eq_true, Bool.and_eq_true]; exact hc
    rw [this]
set_option maxHeartbeats 8000000 in
theorem rfirst_any (l : List UInt8) (w : World) (hl : l.length ≤ 65536) :
    Calls Tryd.prog 40 #[.string ⟨l.toArray⟩] w fun e w' => RFirstPost (firstS l) e ∧ Below w.heap.size w w' := by
  obtain ⟨n, hn⟩ : ∃ n, n = l.length := ⟨_, rfl⟩
  obtain ⟨s, hs⟩ : ∃ s, s = (⟨l.toArray⟩ : ByteArray) := ⟨_, rfl⟩
  have hsz : s.size = n := by rw [hs, hn]; simp [ByteArray.size]
  have hni : (n : Int) ≤ 65536 := by omega
  obtain ⟨i, hi⟩ : ∃ i, i = Lib.indexByte l 32 := ⟨_, rfl⟩
  have c1 := fun w => find_any l 32 w (by omega)
  rw [← hi] at c1
  rw [← hs] at c1 ⊢
  have C1 := Lib.hid c1
  clear c1
  cases hcut : cutL 32 l with
  | none =>
    have d0 : decide (i < 0) = true := by rw [hi, indexByte_cut, hcut]; rfl
    have HP : firstS l = none := by unfold firstS; rw [hcut]
    replace HP := Lib.hid HP
    clear hi hcut hn hs hl
    go_enter Tryd.func40, Tryd.ntmps40
    go_wp2_with (first
      | (go_at_call 62; go_must (refine (C1.out _).mono ?_); rintro e w2 ⟨rfl, hw2⟩; rw [← hw2]; clear hw2 w2))
    refine bodyPost_ret (v := .tuple #[.string ⟨#[]⟩, .string ⟨#[]⟩, .string ⟨#[]⟩, .bool false]) (by simp [results, Tryd.results40, go_sem]) rfl ?_
    exact ⟨rf_none HP.out _ _ _ rfl, gr w⟩
  | some ab =>
    obtain ⟨a, r⟩ := ab
    have hlen := cutL_len hcut
    obtain ⟨e1, e2⟩ := ext_two hcut
    have him : i = (a.length : Int) := by rw [hi, indexByte_cut, hcut]
    obtain ⟨m, hm⟩ : ∃ m, m = a.length := ⟨_, rfl⟩
    obtain rfl : i = (m : Int) := by rw [him, hm]
    obtain ⟨sr, hsr⟩ : ∃ x, x = (⟨r.toArray⟩ : ByteArray) := ⟨_, rfl⟩
    rw [← hs, ← hm] at e1
    rw [← hs, ← hm, ← hsr, ← hn] at e2
    obtain ⟨i2, hi2⟩ : ∃ i, i = Lib.indexByte r 32 := ⟨_, rfl⟩
    have c2 := fun w => find_any r 32 w (by omega)
    rw [← hi2, ← hsr] at c2
    have C2 := Lib.hid c2
    have d1 : decide ((m : Int) < 0) = false := by rw [decide_eq_false_iff_not]; omega
    have d1' : ¬ (m : Int) < 0 := by omega
    obtain ⟨x1, hx1⟩ : ∃ x, x = m + 1 := ⟨_, rfl⟩
    have hx1i : (m : Int) + 1 = (x1 : Int) := by omega
    have hx10 : (0 : Int) ≤ (x1 : Int) := by omega
    have hx1n : (x1 : Int) ≤ 2147483648 := by omega
    have hnx1 : ¬ n < x1 := by omega
    have hx1le : (x1 : Int) ≤ (n : Int) := by omega
    rw [← hx1] at e2
    cases hcut2 : cutL 32 r with
    | none =>
      have d2 : decide (i2 < 0) = true := by rw [hi2, indexByte_cut, hcut2]; rfl
      have HP : firstS l = none := by unfold firstS; rw [hcut]; simp only; rw [hcut2]
      replace HP := Lib.hid HP
      have q1 := w64 hx1i hx10 hx1n
      clear hi hcut hn hs hl hi2 hcut2 hsr hm him hlen c2 hx1i hx10 hx1n hx1
      go_enter Tryd.func40, Tryd.ntmps40
      go_wp2_with (first
        | (go_at_call 62; (with_reducible show Calls _ _ #[.string s, _] _ _); go_must (refine (C1.out _).mono ?_); rintro e w2 ⟨rfl, hw2⟩; rw [← hw2]; clear hw2 w2)
        | (go_at_call 62; go_must (refine (C2.out _).mono ?_); rintro e w2 ⟨rfl, hw2⟩; rw [← hw2]; clear hw2 w2))
      refine bodyPost_ret (v := .tuple #[.string ⟨#[]⟩, .string ⟨#[]⟩, .string ⟨#[]⟩, .bool false]) (by simp [results, Tryd.results40, go_sem]) rfl ?_
      exact ⟨rf_none HP.out _ _ _ rfl, gr w⟩
    | some tv =>
      obtain ⟨t, v⟩ := tv
      have hlen2 := cutL_len hcut2
      have him2 : i2 = (t.length : Int) := by rw [hi2, indexByte_cut, hcut2]
      obtain ⟨k, hk⟩ : ∃ k, k = t.length := ⟨_, rfl⟩
      obtain rfl : i2 = (k : Int) := by rw [him2, hk]
      have d2 : decide ((k : Int) < 0) = false := by rw [decide_eq_false_iff_not]; omega
      have d2' : ¬ (k : Int) < 0 := by omega
      obtain ⟨x2, hx2⟩ : ∃ x, x = x1 + k := ⟨_, rfl⟩
      obtain ⟨y, hy⟩ : ∃ x, x = m + k := ⟨_, rfl⟩
      obtain ⟨x3, hx3⟩ : ∃ x, x = y + 2 := ⟨_, rfl⟩
      obtain ⟨sa, hsa⟩ : ∃ x, x = (⟨a.toArray⟩ : ByteArray) := ⟨_, rfl⟩
      obtain ⟨st, hst⟩ : ∃ x, x = (⟨t.toArray⟩ : ByteArray) := ⟨_, rfl⟩
      obtain ⟨sv, hsv⟩ : ∃ x, x = (⟨v.toArray⟩ : ByteArray) := ⟨_, rfl⟩
      have hr : l.drop x1 = r := by
        rw [(cutL_some hcut).1, hx1, hm, show a ++ 32 :: r = (a ++ [32]) ++ r by simp]
        exact List.drop_left' (by simp)
      have e3 : s.extract x1 x2 = st := by
        rw [hs, hst, Lib.extract_eq]
        show (⟨((l.drop x1).take _).toArray⟩ : ByteArray) = _
        rw [hr, (cutL_some hcut2).1]
        congr 2
        exact List.take_left' (by omega)
      have e4 : s.extract x3 n = sv := by
        rw [hs, hsv, hn, ext_drop]
        have h5 : l.drop x3 = v := by
          rw [show x3 = x1 + (k + 1) by omega, ← List.drop_drop, hr, (cutL_some hcut2).1, show t ++ 32 :: v = (t ++ [32]) ++ v by simp]
          exact List.drop_left' (by simp; omega)
        rw [h5]
      rw [← hsa] at e1
      have hstz : st.size = k := by rw [hst, hk]; simp [ByteArray.size]
      have hx2i : (x1 : Int) + (k : Int) = (x2 : Int) := by omega
      have hx20 : (0 : Int) ≤ (x2 : Int) := by omega
      have hx2n : (x2 : Int) ≤ 2147483648 := by omega
      have hyi : (m : Int) + (k : Int) = (y : Int) := by omega
      have hy0 : (0 : Int) ≤ (y : Int) := by omega
      have hyn : (y : Int) ≤ 2147483648 := by omega
      have hx3i : (y : Int) + 2 = (x3 : Int) := by omega
      have hx30 : (0 : Int) ≤ (x3 : Int) := by omega
      have hx3n : (x3 : Int) ≤ 2147483648 := by omega
      have hb1 : (x1 : Int) ≤ (x2 : Int) := by omega
      have hb2 : (x2 : Int) ≤ (n : Int) := by omega
      have hb3 : (x3 : Int) ≤ (n : Int) := by omega
      have hb4 : (m : Int) ≤ (n : Int) := by omega
      have hn1 : ¬ x2 < x1 := by omega
      have hn2 : ¬ n < x2 := by omega
      have hn3 : ¬ n < x3 := by omega
      have hn4 : ¬ n < m := by omega
      have hki : (k : Int) ≤ 65536 := by omega
      have hF : firstS l = if a ≠ [] ∧ a.all tokB = true ∧ t ≠ [] ∧ t.all visB = true ∧ (v = v11 ∨ v = v10) then some (a, t, decide (v = v10)) else none := by unfold firstS; rw [hcut]; simp only; rw [hcut2]
      obtain ⟨bm, hbm⟩ : ∃ x, x = (a.all tokB && decide (a ≠ [])) := ⟨_, rfl⟩
      have c3 := fun W => rtoken_any a W (by omega)
      rw [← hbm, ← hsa] at c3
      have C3 := Lib.hid c3
      obtain ⟨be, hbe⟩ : ∃ x, x = decide (t = []) := ⟨_, rfl⟩
      have k0 : st.toList.isEmpty = be := by rw [hst, ByteArray.toList_eq, hbe]; cases t <;> rfl
      obtain ⟨b1, hb1'⟩ : ∃ x, x = decide (v = v11) := ⟨_, rfl⟩
      obtain ⟨b2, hb2'⟩ : ∃ x, x = decide (v = v10) := ⟨_, rfl⟩
      have k1 : (sv.toList == [72, 84, 84, 80, 47, 49, 46, 49]) = b1 := by rw [hsv, hb1']; exact str_lit v v11
      have k2 : (sv.toList == [72, 84, 84, 80, 47, 49, 46, 48]) = b2 := by rw [hsv, hb2']; exact str_lit v v10
      have HF : firstS l = if (bm && !be && (b1 || b2)) = true ∧ t.all visB = true then some (a, t, decide (v = v10)) else none := by
        rw [hF, hbm, hbe, hb1', hb2']
        congr 1
        simp only [Bool.and_eq_true, Bool.or_eq_true, decide_eq_true_eq, Bool.not_eq_true', decide_eq_false_iff_not, ne_eq]
        exact propext ⟨fun ⟨h1, h2, h3, h4, h5⟩ => ⟨⟨⟨⟨h2, h1⟩, h3⟩, h5⟩, h4⟩, fun ⟨⟨⟨⟨h2, h1⟩, h3⟩, h5⟩, h4⟩ => ⟨h1, h2, h3, h4, h5⟩⟩
      have HV : (bm && !be && (b1 || b2)) = true → v = v11 ∨ v = v10 := fun h => by
        rw [hb1', hb2'] at h
        simp only [Bool.and_eq_true, Bool.or_eq_true, decide_eq_true_eq] at h
        exact h.2
      obtain ⟨ok, hok⟩ : ∃ x, x = (bm && !be && (b1 || b2)) := ⟨_, rfl⟩
      rw [← hok] at HF HV
      replace HF := Lib.hid (And.intro HF (And.intro HV (And.intro hsa (And.intro hst (And.intro hsv (And.intro hk hok))))))
      have q1 := w64 hx1i hx10 hx1n
      have Q2 := Lib.hid (w64j hx2i hx20 hx2n)
      have Q3 := Lib.hid (w64j hyi hy0 hyn)
      have Q4 := Lib.hid (w64j hx3i hx30 hx3n)
      have Q1 := Lib.hid (w64j hx1i hx10 hx1n)
      clear hi hcut hn hs hl hi2 hcut2 hsr hm him hlen c2 hx1i hx10 hx1n hx1 hlen2 him2 hk hx2 hy hx3 hsa hst hsv hr hx2i hx20 hx2n hyi hy0 hyn hx3i hx30 hx3n hF hbm c3 hbe hb1' hb2' HV hok
      go_enter Tryd.func40, Tryd.ntmps40
      have HX := Lib.hid (And.intro hb1 (And.intro hb2 (And.intro hb3 (And.intro hb4 (And.intro hn1 (And.intro hn2 (And.intro hn3 (And.intro hn4 (And.intro e3 e4)))))))))
      have HK := Lib.hid (And.intro hki hstz)
      clear hb1 hb2 hb3 hb4 hn1 hn2 hn3 hn4 hki hstz e3 e4
      go_upto_region 7 with (first
        | (go_at_call 62; (with_reducible show Calls _ _ #[.string s, _] _ _); go_must (refine (C1.out _).mono ?_); rintro e w2 ⟨rfl, hw2⟩; rw [← hw2]; clear hw2 w2)
        | (go_at_call 62; go_must (refine (C2.out _).mono ?_); rintro e w2 ⟨rfl, hw2⟩; rw [← hw2]; clear hw2 w2))
      try simp only [Act.put, List.setIfInBounds_toArray, List.set_cons_succ, List.set_cons_zero]
      have ⟨hb1, hb2, hb3, hb4, hn1, hn2, hn3, hn4, e3, e4⟩ := HX.out
      refine wp_region_qb (by kernel_rfl) (by kernel_rfl) ?_
      refine wq_val (o := ⟨some 24, _, _, _, _, _⟩) (v := .string s) rfl (fun w' hC => by go_simp) ?_
      simp only [Act.put, List.setIfInBounds_toArray, List.set_cons_succ, List.set_cons_zero]
      refine wq_val (o := ⟨some 25, _, _, _, _, _⟩) (v := .int .i64 (m : Int)) rfl (fun w' hC => by go_simp) ?_
      simp only [Act.put, List.setIfInBounds_toArray, List.set_cons_succ, List.set_cons_zero]
      refine wq_val (o := ⟨some 26, _, _, _, _, _⟩) (v := .string sa) rfl (fun w' hC => by first | (go_simp; done) | (go_simp; intro h; omega)) ?_
      simp only [Act.put, List.setIfInBounds_toArray, List.set_cons_succ, List.set_cons_zero]
      refine wq_val (o := ⟨some 27, _, _, _, _, _⟩) (v := .string s) rfl (fun w' hC => by go_simp) ?_
      simp only [Act.put, List.setIfInBounds_toArray, List.set_cons_succ, List.set_cons_zero]
      refine wq_val (o := ⟨some 28, _, _, _, _, _⟩) (v := .int .i64 (m : Int)) rfl (fun w' hC => by go_simp) ?_
      simp only [Act.put, List.setIfInBounds_toArray, List.set_cons_succ, List.set_cons_zero]
      refine wq_val (o := ⟨some 29, _, _, _, _, _⟩) (v := .int .i64 (x1 : Int)) rfl (fun w' hC => by go_simp; exact Q1.out) ?_
      simp only [Act.put, List.setIfInBounds_toArray, List.set_cons_succ, List.set_cons_zero]
      refine wq_val (o := ⟨some 30, _, _, _, _, _⟩) (v := .int .i64 (m : Int)) rfl (fun w' hC => by go_simp) ?_
      simp only [Act.put, List.setIfInBounds_toArray, List.set_cons_succ, List.set_cons_zero]
      refine wq_val (o := ⟨some 31, _, _, _, _, _⟩) (v := .int .i64 (x1 : Int)) rfl (fun w' hC => by go_simp; exact Q1.out) ?_
      simp only [Act.put, List.setIfInBounds_toArray, List.set_cons_succ, List.set_cons_zero]
      refine wq_val (o := ⟨some 32, _, _, _, _, _⟩) (v := .int .i64 (k : Int)) rfl (fun w' hC => by go_simp) ?_
      simp only [Act.put, List.setIfInBounds_toArray, List.set_cons_succ, List.set_cons_zero]
      refine wq_val (o := ⟨some 33, _, _, _, _, _⟩) (v := .int .i64 (x2 : Int)) rfl (fun w' hC => by go_simp; exact Q2.out) ?_
      simp only [Act.put, List.setIfInBounds_toArray, List.set_cons_succ, List.set_cons_zero]
      refine wq_val (o := ⟨some 34, _, _, _, _, _⟩) (v := .string st) rfl (fun w' hC => by first | (go_simp; done) | (go_simp; intro h; omega)) ?_
      simp only [Act.put, List.setIfInBounds_toArray, List.set_cons_succ, List.set_cons_zero]
      refine wq_val (o := ⟨some 35, _, _, _, _, _⟩) (v := .string s) rfl (fun w' hC => by go_simp) ?_
      simp only [Act.put, List.setIfInBounds_toArray, List.set_cons_succ, List.set_cons_zero]
      refine wq_val (o := ⟨some 36, _, _, _, _, _⟩) (v := .int .i64 (m : Int)) rfl (fun w' hC => by go_simp) ?_
      simp only [Act.put, List.setIfInBounds_toArray, List.set_cons_succ, List.set_cons_zero]
      refine wq_val (o := ⟨some 37, _, _, _, _, _⟩) (v := .int .i64 (k : Int)) rfl (fun w' hC => by go_simp) ?_
      simp only [Act.put, List.setIfInBounds_toArray, List.set_cons_succ, List.set_cons_zero]
      refine wq_val (o := ⟨some 38, _, _, _, _, _⟩) (v := .int .i64 (y : Int)) rfl (fun w' hC => by go_simp; exact Q3.out) ?_
      simp only [Act.put, List.setIfInBounds_toArray, List.set_cons_succ, List.set_cons_zero]
      refine wq_val (o := ⟨some 39, _, _, _, _, _⟩) (v := .int .i64 (x3 : Int)) rfl (fun w' hC => by go_simp; exact Q4.out) ?_
      simp only [Act.put, List.setIfInBounds_toArray, List.set_cons_succ, List.set_cons_zero]
      refine wq_val (o := ⟨some 40, _, _, _, _, _⟩) (v := .string sv) rfl (fun w' hC => by first | (go_simp; done) | (go_simp; intro h; omega)) ?_
      simp only [Act.put, List.setIfInBounds_toArray, List.set_cons_succ, List.set_cons_zero]
      refine wq_val (o := ⟨some 8, _, _, _, _, _⟩) (v := .string sa) rfl (fun w' hC => by go_simp) ?_
      simp only [Act.put, List.setIfInBounds_toArray, List.set_cons_succ, List.set_cons_zero]
      refine wq_val (o := ⟨some 9, _, _, _, _, _⟩) (v := .string st) rfl (fun w' hC => by go_simp) ?_
      simp only [Act.put, List.setIfInBounds_toArray, List.set_cons_succ, List.set_cons_zero]
      refine wq_val (o := ⟨some 10, _, _, _, _, _⟩) (v := .string sv) rfl (fun w' hC => by go_simp) ?_
      simp only [Act.put, List.setIfInBounds_toArray, List.set_cons_succ, List.set_cons_zero]
      refine wpQuiet_nil ?_
      intro w5 h5
      have H5 := Lib.hid h5
      clear h5 hb1 hb2 hb3 hb4 hn1 hn2 hn3 hn4 e1 e2 e3 e4 q1 d1 d1' d2 d2' hx1le hnx1
      have ⟨hki, hstz⟩ := HK.out
      cases bm
      · have HO := Lib.hid (show ok = false by have := HF.out.2.2.2.2.2.2; simpa using this)
        go_wp2_with (first
          | (go_at_call 63; go_must (refine (C3.out _).mono ?_); rintro e w2 ⟨rfl, hw2⟩; rw [← hw2]; clear hw2 w2))
        go_loopw [11, 12] (fun v11 v12 wr => ∃ (j : Nat) (bb : Bool), j ≤ k ∧ v11 = .bool bb ∧ v12 = .int .i64 j ∧ bb = (false && (t.take j).all visB) ∧ wr = w5) (fun _ v _ => k - (intOf v).toNat)
        case atStart => exact ⟨0, false, by omega, rfl, rfl, rfl, rfl⟩
        case round =>
          obtain ⟨j, bb, hj, rfl, rfl, hbb, rfl⟩ := hrel
          by_cases hlt : j < k
          · have hks : j < st.size := by omega
            have hkt : j < t.length := by have := HF.out.2.2.2.2.2.1; omega
            obtain ⟨x, hx⟩ : ∃ x, x = t[j] := ⟨_, rfl⟩
            have hsx : st[j] = x := by
              have : ∀ s' : ByteArray, s' = (⟨t.toArray⟩ : ByteArray) → ∀ h, s'[j]'h = t[j] := fun s' e h => by subst e; rfl
              rw [hx]; exact this st HF.out.2.2.2.1 hks
            have hst := all_step (p := visB) hkt
            rw [← hx] at hst
            have hji : (j : Int) < (k : Int) := by omega
            have hj0 : (0 : Int) ≤ (j : Int) := by omega
            cases bb
            · have HB := Lib.hid (show false = (false && (t.take (j + 1)).all visB) by rw [hst, ← Bool.and_assoc, ← hbb]; rfl)
              clear hst hx hbb hkt hlt
              go_wp2
              exact ⟨⟨j + 1, false, by omega, rfl, by go_num, HB.out, trivial⟩, by simp [intOf]; omega⟩
            · have hv : visB x = (decide (33 ≤ x.toNat) && decide (x.toNat ≤ 126)) := rfl
              obtain ⟨b3, hb3⟩ : ∃ b, b = decide (33 ≤ x.toNat) := ⟨_, rfl⟩
              obtain ⟨b4, hb4⟩ : ∃ b, b = decide (x.toNat ≤ 126) := ⟨_, rfl⟩
              rw [← hb3, ← hb4] at hv
              have HB := Lib.hid (show (b3 && b4) = (false && (t.take (j + 1)).all visB) by rw [hst, ← Bool.and_assoc, ← hbb, hv]; rfl)
              have g3 : decide ((33 : Int) ≤ (x.toNat : Int)) = b3 := by rw [hb3]; congr 1; exact propext (by omega)
              have g4 : decide ((x.toNat : Int) ≤ (126 : Int)) = b4 := by rw [hb4]; congr 1; exact propext (by omega)
              clear hst hx hbb hkt hv hlt
              cases b3
              · clear g4 hb3 hb4
                go_wp2
                exact ⟨⟨j + 1, false, by omega, rfl, by go_num, HB.out, trivial⟩, by simp [intOf]; omega⟩
              · cases b4
                · clear hb3 hb4
                  go_wp2
                  exact ⟨⟨j + 1, false, by omega, rfl, by go_num, HB.out, trivial⟩, by simp [intOf]; omega⟩
                · clear hb3 hb4
                  go_wp2
                  exact ⟨⟨j + 1, true, by omega, rfl, by go_num, HB.out, trivial⟩, by simp [intOf]; omega⟩
          · obtain rfl : j = k := by omega
            have ht : t.take j = t := List.take_of_length_le (by have := HF.out.2.2.2.2.2.1; omega)
            rw [ht] at hbb
            have HB := Lib.hid hbb
            clear hbb ht hlt
            go_wp2
            refine bodyPost_ret (v := .tuple #[.string sa, .string st, .string sv, .bool bb]) (by simp [results, Tryd.results40, go_sem]) rfl ?_
            exact ⟨rf_end (a := a) (t := t) (v := v) (ok := ok) HF.out.1 HF.out.2.1 (by rw [HO.out, ← HB.out, ← HF.out.2.2.1, ← HF.out.2.2.2.1, ← HF.out.2.2.2.2.1]), H5.out⟩
      · cases be
        · cases b1
          · cases b2
            · have HO := Lib.hid (show ok = false by have := HF.out.2.2.2.2.2.2; simpa using this)
              go_wp2_with (first
                | (go_at_call 63; go_must (refine (C3.out _).mono ?_); rintro e w2 ⟨rfl, hw2⟩; rw [← hw2]; clear hw2 w2))
              go_loopw [11, 12] (fun v11 v12 wr => ∃ (j : Nat) (bb : Bool), j ≤ k ∧ v11 = .bool bb ∧ v12 = .int .i64 j ∧ bb = (false && (t.take j).all visB) ∧ wr = w5) (fun _ v _ => k - (intOf v).toNat)
              case atStart => exact ⟨0, false, by omega, rfl, rfl, rfl, rfl⟩
              case round =>
                obtain ⟨j, bb, hj, rfl, rfl, hbb, rfl⟩ := hrel
                by_cases hlt : j < k
                · have hks : j < st.size := by omega
                  have hkt : j < t.length := by have := HF.out.2.2.2.2.2.1; omega
                  obtain ⟨x, hx⟩ : ∃ x, x = t[j] := ⟨_, rfl⟩
                  have hsx : st[j] = x := by
                    have : ∀ s' : ByteArray, s' = (⟨t.toArray⟩ : ByteArray) → ∀ h, s'[j]'h = t[j] := fun s' e h => by subst e; rfl
                    rw [hx]; exact this st HF.out.2.2.2.1 hks
                  have hst := all_step (p := visB) hkt
                  rw [← hx] at hst
                  have hji : (j : Int) < (k : Int) := by omega
                  have hj0 : (0 : Int) ≤ (j : Int) := by omega
                  cases bb
                  · have HB := Lib.hid (show false = (false && (t.take (j + 1)).all visB) by rw [hst, ← Bool.and_assoc, ← hbb]; rfl)
                    clear hst hx hbb hkt hlt
                    go_wp2
                    exact ⟨⟨j + 1, false, by omega, rfl, by go_num, HB.out, trivial⟩, by simp [intOf]; omega⟩
                  · have hv : visB x = (decide (33 ≤ x.toNat) && decide (x.toNat ≤ 126)) := rfl
                    obtain ⟨b3, hb3⟩ : ∃ b, b = decide (33 ≤ x.toNat) := ⟨_, rfl⟩
                    obtain ⟨b4, hb4⟩ : ∃ b, b = decide (x.toNat ≤ 126) := ⟨_, rfl⟩
                    rw [← hb3, ← hb4] at hv
                    have HB := Lib.hid (show (b3 && b4) = (false && (t.take (j + 1)).all visB) by rw [hst, ← Bool.and_assoc, ← hbb, hv]; rfl)
                    have g3 : decide ((33 : Int) ≤ (x.toNat : Int)) = b3 := by rw [hb3]; congr 1; exact propext (by omega)
                    have g4 : decide ((x.toNat : Int) ≤ (126 : Int)) = b4 := by rw [hb4]; congr 1; exact propext (by omega)
                    clear hst hx hbb hkt hv hlt
                    cases b3
                    · clear g4 hb3 hb4
                      go_wp2
                      exact ⟨⟨j + 1, false, by omega, rfl, by go_num, HB.out, trivial⟩, by simp [intOf]; omega⟩
                    · cases b4
                      · clear hb3 hb4
                        go_wp2
                        exact ⟨⟨j + 1, false, by omega, rfl, by go_num, HB.out, trivial⟩, by simp [intOf]; omega⟩
                      · clear hb3 hb4
                        go_wp2
                        exact ⟨⟨j + 1, true, by omega, rfl, by go_num, HB.out, trivial⟩, by simp [intOf]; omega⟩
                · obtain rfl : j = k := by omega
                  have ht : t.take j = t := List.take_of_length_le (by have := HF.out.2.2.2.2.2.1; omega)
                  rw [ht] at hbb
                  have HB := Lib.hid hbb
                  clear hbb ht hlt
                  go_wp2
                  refine bodyPost_ret (v := .tuple #[.string sa, .string st, .string sv, .bool bb]) (by simp [results, Tryd.results40, go_sem]) rfl ?_
                  exact ⟨rf_end (a := a) (t := t) (v := v) (ok := ok) HF.out.1 HF.out.2.1 (by rw [HO.out, ← HB.out, ← HF.out.2.2.1, ← HF.out.2.2.2.1, ← HF.out.2.2.2.2.1]), H5.out⟩
            · have HO := Lib.hid (show ok = true by have := HF.out.2.2.2.2.2.2; simpa using this)
              go_wp2_with (first
                | (go_at_call 63; go_must (refine (C3.out _).mono ?_); rintro e w2 ⟨rfl, hw2⟩; rw [← hw2]; clear hw2 w2))
              go_loopw [11, 12] (fun v11 v12 wr => ∃ (j : Nat) (bb : Bool), j ≤ k ∧ v11 = .bool bb ∧ v12 = .int .i64 j ∧ bb = (true && (t.take j).all visB) ∧ wr = w5) (fun _ v _ => k - (intOf v).toNat)
              case atStart => exact ⟨0, true, by omega, rfl, rfl, rfl, rfl⟩
              case round =>
                obtain ⟨j, bb, hj, rfl, rfl, hbb, rfl⟩ := hrel
                by_cases hlt : j < k
                · have hks : j < st.size := by omega
                  have hkt : j < t.length := by have := HF.out.2.2.2.2.2.1; omega
                  obtain ⟨x, hx⟩ : ∃ x, x = t[j] := ⟨_, rfl⟩
                  have hsx : st[j] = x := by
                    have : ∀ s' : ByteArray, s' = (⟨t.toArray⟩ : ByteArray) → ∀ h, s'[j]'h = t[j] := fun s' e h => by subst e; rfl
                    rw [hx]; exact this st HF.out.2.2.2.1 hks
                  have hst := all_step (p := visB) hkt
                  rw [← hx] at hst
                  have hji : (j : Int) < (k : Int) := by omega
                  have hj0 : (0 : Int) ≤ (j : Int) := by omega
                  cases bb
                  · have HB := Lib.hid (show false = (true && (t.take (j + 1)).all visB) by rw [hst, ← Bool.and_assoc, ← hbb]; rfl)
                    clear hst hx hbb hkt hlt
                    go_wp2
                    exact ⟨⟨j + 1, false, by omega, rfl, by go_num, HB.out, trivial⟩, by simp [intOf]; omega⟩
                  · have hv : visB x = (decide (33 ≤ x.toNat) && decide (x.toNat ≤ 126)) := rfl
                    obtain ⟨b3, hb3⟩ : ∃ b, b = decide (33 ≤ x.toNat) := ⟨_, rfl⟩
                    obtain ⟨b4, hb4⟩ : ∃ b, b = decide (x.toNat ≤ 126) := ⟨_, rfl⟩
                    rw [← hb3, ← hb4] at hv
                    have HB := Lib.hid (show (b3 && b4) = (true && (t.take (j + 1)).all visB) by rw [hst, ← Bool.and_assoc, ← hbb, hv]; rfl)
                    have g3 : decide ((33 : Int) ≤ (x.toNat : Int)) = b3 := by rw [hb3]; congr 1; exact propext (by omega)
                    have g4 : decide ((x.toNat : Int) ≤ (126 : Int)) = b4 := by rw [hb4]; congr 1; exact propext (by omega)
                    clear hst hx hbb hkt hv hlt
                    cases b3
                    · clear g4 hb3 hb4
                      go_wp2
                      exact ⟨⟨j + 1, false, by omega, rfl, by go_num, HB.out, trivial⟩, by simp [intOf]; omega⟩
                    · cases b4
                      · clear hb3 hb4
                        go_wp2
                        exact ⟨⟨j + 1, false, by omega, rfl, by go_num, HB.out, trivial⟩, by simp [intOf]; omega⟩
                      · clear hb3 hb4
                        go_wp2
                        exact ⟨⟨j + 1, true, by omega, rfl, by go_num, HB.out, trivial⟩, by simp [intOf]; omega⟩
                · obtain rfl : j = k := by omega
                  have ht : t.take j = t := List.take_of_length_le (by have := HF.out.2.2.2.2.2.1; omega)
                  rw [ht] at hbb
                  have HB := Lib.hid hbb
                  clear hbb ht hlt
                  go_wp2
                  refine bodyPost_ret (v := .tuple #[.string sa, .string st, .string sv, .bool bb]) (by simp [results, Tryd.results40, go_sem]) rfl ?_
                  exact ⟨rf_end (a := a) (t := t) (v := v) (ok := ok) HF.out.1 HF.out.2.1 (by rw [HO.out, ← HB.out, ← HF.out.2.2.1, ← HF.out.2.2.2.1, ← HF.out.2.2.2.2.1]), H5.out⟩
          · have HO := Lib.hid (show ok = true by have := HF.out.2.2.2.2.2.2; simpa using this)
            go_wp2_with (first
              | (go_at_call 63; go_must (refine (C3.out _).mono ?_); rintro e w2 ⟨rfl, hw2⟩; rw [← hw2]; clear hw2 w2))
            go_loopw [11, 12] (fun v11 v12 wr => ∃ (j : Nat) (bb : Bool), j ≤ k ∧ v11 = .bool bb ∧ v12 = .int .i64 j ∧ bb = (true && (t.take j).all visB) ∧ wr = w5) (fun _ v _ => k - (intOf v).toNat)
            case atStart => exact ⟨0, true, by omega, rfl, rfl, rfl, rfl⟩
            case round =>
              obtain ⟨j, bb, hj, rfl, rfl, hbb, rfl⟩ := hrel
              by_cases hlt : j < k
              · have hks : j < st.size := by omega
                have hkt : j < t.length := by have := HF.out.2.2.2.2.2.1; omega
                obtain ⟨x, hx⟩ : ∃ x, x = t[j] := ⟨_, rfl⟩
                have hsx : st[j] = x := by
                  have : ∀ s' : ByteArray, s' = (⟨t.toArray⟩ : ByteArray) → ∀ h, s'[j]'h = t[j] := fun s' e h => by subst e; rfl
                  rw [hx]; exact this st HF.out.2.2.2.1 hks
                have hst := all_step (p := visB) hkt
                rw [← hx] at hst
                have hji : (j : Int) < (k : Int) := by omega
                have hj0 : (0 : Int) ≤ (j : Int) := by omega
                cases bb
                · have HB := Lib.hid (show false = (true && (t.take (j + 1)).all visB) by rw [hst, ← Bool.and_assoc, ← hbb]; rfl)
                  clear hst hx hbb hkt hlt
                  go_wp2
                  exact ⟨⟨j + 1, false, by omega, rfl, by go_num, HB.out, trivial⟩, by simp [intOf]; omega⟩
                · have hv : visB x = (decide (33 ≤ x.toNat) && decide (x.toNat ≤ 126)) := rfl
                  obtain ⟨b3, hb3⟩ : ∃ b, b = decide (33 ≤ x.toNat) := ⟨_, rfl⟩
                  obtain ⟨b4, hb4⟩ : ∃ b, b = decide (x.toNat ≤ 126) := ⟨_, rfl⟩
                  rw [← hb3, ← hb4] at hv
                  have HB := Lib.hid (show (b3 && b4) = (true && (t.take (j + 1)).all visB) by rw [hst, ← Bool.and_assoc, ← hbb, hv]; rfl)
                  have g3 : decide ((33 : Int) ≤ (x.toNat : Int)) = b3 := by rw [hb3]; congr 1; exact propext (by omega)
                  have g4 : decide ((x.toNat : Int) ≤ (126 : Int)) = b4 := by rw [hb4]; congr 1; exact propext (by omega)
                  clear hst hx hbb hkt hv hlt
                  cases b3
                  · clear g4 hb3 hb4
                    go_wp2
                    exact ⟨⟨j + 1, false, by omega, rfl, by go_num, HB.out, trivial⟩, by simp [intOf]; omega⟩
                  · cases b4
                    · clear hb3 hb4
                      go_wp2
                      exact ⟨⟨j + 1, false, by omega, rfl, by go_num, HB.out, trivial⟩, by simp [intOf]; omega⟩
                    · clear hb3 hb4
                      go_wp2
                      exact ⟨⟨j + 1, true, by omega, rfl, by go_num, HB.out, trivial⟩, by simp [intOf]; omega⟩
              · obtain rfl : j = k := by omega
                have ht : t.take j = t := List.take_of_length_le (by have := HF.out.2.2.2.2.2.1; omega)
                rw [ht] at hbb
                have HB := Lib.hid hbb
                clear hbb ht hlt
                go_wp2
                refine bodyPost_ret (v := .tuple #[.string sa, .string st, .string sv, .bool bb]) (by simp [results, Tryd.results40, go_sem]) rfl ?_
                exact ⟨rf_end (a := a) (t := t) (v := v) (ok := ok) HF.out.1 HF.out.2.1 (by rw [HO.out, ← HB.out, ← HF.out.2.2.1, ← HF.out.2.2.2.1, ← HF.out.2.2.2.2.1]), H5.out⟩
        · have HO := Lib.hid (show ok = false by have := HF.out.2.2.2.2.2.2; simpa using this)
          go_wp2_with (first
            | (go_at_call 63; go_must (refine (C3.out _).mono ?_); rintro e w2 ⟨rfl, hw2⟩; rw [← hw2]; clear hw2 w2))
          go_loopw [11, 12] (fun v11 v12 wr => ∃ (j : Nat) (bb : Bool), j ≤ k ∧ v11 = .bool bb ∧ v12 = .int .i64 j ∧ bb = (false && (t.take j).all visB) ∧ wr = w5) (fun _ v _ => k - (intOf v).toNat)
          case atStart => exact ⟨0, false, by omega, rfl, rfl, rfl, rfl⟩
          case round =>
            obtain ⟨j, bb, hj, rfl, rfl, hbb, rfl⟩ := hrel
            by_cases hlt : j < k
            · have hks : j < st.size := by omega
              have hkt : j < t.length := by have := HF.out.2.2.2.2.2.1; omega
              obtain ⟨x, hx⟩ : ∃ x, x = t[j] := ⟨_, rfl⟩
              have hsx : st[j] = x := by
                have : ∀ s' : ByteArray, s' = (⟨t.toArray⟩ : ByteArray) → ∀ h, s'[j]'h = t[j] := fun s' e h => by subst e; rfl
                rw [hx]; exact this st HF.out.2.2.2.1 hks
              have hst := all_step (p := visB) hkt
              rw [← hx] at hst
              have hji : (j : Int) < (k : Int) := by omega
              have hj0 : (0 : Int) ≤ (j : Int) := by omega
              cases bb
              · have HB := Lib.hid (show false = (false && (t.take (j + 1)).all visB) by rw [hst, ← Bool.and_assoc, ← hbb]; rfl)
                clear hst hx hbb hkt hlt
                go_wp2
                exact ⟨⟨j + 1, false, by omega, rfl, by go_num, HB.out, trivial⟩, by simp [intOf]; omega⟩
              · have hv : visB x = (decide (33 ≤ x.toNat) && decide (x.toNat ≤ 126)) := rfl
                obtain ⟨b3, hb3⟩ : ∃ b, b = decide (33 ≤ x.toNat) := ⟨_, rfl⟩
                obtain ⟨b4, hb4⟩ : ∃ b, b = decide (x.toNat ≤ 126) := ⟨_, rfl⟩
                rw [← hb3, ← hb4] at hv
                have HB := Lib.hid (show (b3 && b4) = (false && (t.take (j + 1)).all visB) by rw [hst, ← Bool.and_assoc, ← hbb, hv]; rfl)
                have g3 : decide ((33 : Int) ≤ (x.toNat : Int)) = b3 := by rw [hb3]; congr 1; exact propext (by omega)
                have g4 : decide ((x.toNat : Int) ≤ (126 : Int)) = b4 := by rw [hb4]; congr 1; exact propext (by omega)
                clear hst hx hbb hkt hv hlt
                cases b3
                · clear g4 hb3 hb4
                  go_wp2
                  exact ⟨⟨j + 1, false, by omega, rfl, by go_num, HB.out, trivial⟩, by simp [intOf]; omega⟩
                · cases b4
                  · clear hb3 hb4
                    go_wp2
                    exact ⟨⟨j + 1, false, by omega, rfl, by go_num, HB.out, trivial⟩, by simp [intOf]; omega⟩
                  · clear hb3 hb4
                    go_wp2
                    exact ⟨⟨j + 1, true, by omega, rfl, by go_num, HB.out, trivial⟩, by simp [intOf]; omega⟩
            · obtain rfl : j = k := by omega
              have ht : t.take j = t := List.take_of_length_le (by have := HF.out.2.2.2.2.2.1; omega)
              rw [ht] at hbb
              have HB := Lib.hid hbb
              clear hbb ht hlt
              go_wp2
              refine bodyPost_ret (v := .tuple #[.string sa, .string st, .string sv, .bool bb]) (by simp [results, Tryd.results40, go_sem]) rfl ?_
              exact ⟨rf_end (a := a) (t := t) (v := v) (ok := ok) HF.out.1 HF.out.2.1 (by rw [HO.out, ← HB.out, ← HF.out.2.2.1, ← HF.out.2.2.2.1, ← HF.out.2.2.2.2.1]), H5.out⟩
end Go.Proofs.YtojemdggbcklkaaDoor.WireR
