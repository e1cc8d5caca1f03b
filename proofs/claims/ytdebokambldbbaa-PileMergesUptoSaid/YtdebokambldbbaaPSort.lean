/- weirref07.Sorted: what it answers. -/
import Derived.Test.YtdebokambldbbaaPWithout
namespace Go.Proofs.Ytdebokambldbbaa.LawP
open Go.RowKit Go.Shelf Go.Proofs.Ytdebokambldbbaa.Mem Go.Proofs.Ytdebokambldbbaa.Heap Go.Proofs.Ytdebokambldbbaa.Pile Go.Proofs.Ytdebokambldbbaa.PileI
set_option linter.unusedVariables false
set_option linter.unusedSectionVars false
set_option maxRecDepth 4000
set_option maxHeartbeats 12800000

theorem flat_take (l : List Itm) : ∀ k, (l.take k).flatMap Itm.cells = (l.flatMap Itm.cells).take (k * 2) := by
  induction l with
  | nil => simp
  | cons a r ih => intro k; cases k with
    | zero => simp
    | succ k => simp [Nat.add_mul, ih k, Itm.cells]
theorem flat_drop (l : List Itm) : ∀ k, (l.drop k).flatMap Itm.cells = (l.flatMap Itm.cells).drop (k * 2) := by
  induction l with
  | nil => simp
  | cons a r ih => intro k; cases k with
    | zero => simp
    | succ k => simp [Nat.add_mul, ih k, Itm.cells]
theorem rv_drop {W : World} {ad : Addr} {l : List Itm} (h : RV W (some ad) (l.flatMap Itm.cells)) (k : Nat) : RV W (some (ad.add (k * 2))) ((l.drop k).flatMap Itm.cells) := fun j hj => by
  have hj' : k * 2 + j < (l.flatMap Itm.cells).length := by rw [flat_drop, List.length_drop] at hj; omega
  obtain ⟨ad', e, hc⟩ := h (k * 2 + j) hj'
  injection e with e
  subst e
  refine ⟨_, rfl, ?_⟩
  rw [add_of_add]
  simpa [flat_drop] using hc
theorem own_low {w : World} {B B' n size : Nat} {T : TypeId} {v : Value} {xs : List Value} (h : w.ownsRow B T size v n xs) (hB : B' ≤ B) : w.ownsRow B' T size v n xs :=
  ⟨h.1, h.2.imp id fun ⟨g, cap, cur, hv, hg, rest⟩ => ⟨g, cap, cur, hv, Nat.le_trans hB hg, rest⟩⟩
theorem half_of {n hf : Nat} (h : hf = n / 2) : ((n : Int)).tdiv 2 = (hf : Int) ∧ ((n : Int)) / 2 = (hf : Int) := by
  have h2 : ((n : Int)) / 2 = (hf : Int) := by omega
  exact ⟨by rw [Int.tdiv_eq_ediv_of_nonneg (Int.natCast_nonneg n)]; exact h2, h2⟩
/-- what is claimed of lists of at most m things -/
def SortsTo (flat : Bool) (m : Nat) : Prop := ∀ (A : Option Addr) (n c : Nat) (l : List Itm) (W : World), n ≤ m → RV W A (l.flatMap Itm.cells) → n = l.length → n ≤ c → l.length ≤ 1073741824 →
    Calls Try.prog 29 #[.slice A n c, .bool flat] W fun e W' => ∃ v, e = .returned v ∧ W'.ownsRow W.heap.size 35 2 v l.length ((msort (ltF flat) l).flatMap Itm.cells) ∧ Below W.heap.size W W'
theorem refsort_short (flat : Bool) (A : Option Addr) (n c : Nat) (l : List Itm) (W : World) (h2 : n < 2) (hr : RV W A (l.flatMap Itm.cells)) (hn : n = l.length) :
    Calls Try.prog 29 #[.slice A n c, .bool flat] W fun e W' => ∃ v, e = .returned v ∧ W'.ownsRow W.heap.size 35 2 v l.length ((msort (ltF flat) l).flatMap Itm.cells) ∧ Below W.heap.size W W' := by
  have h2i : (n : Int) < 2 := by omega
  have H0 := Lib.hid (And.intro hr (And.intro hn h2))
  clear hr hn h2
  go_enter Try.func29, Try.ntmps29
  go_wp2_with (first
    | ((with_reducible show wpList _ _ _ (⟨some 16, _, _, _, _, _⟩ :: _) _ _)
       go_must (refine wpList_app ET (o := ⟨some 16, _, _, _, _, _⟩) rfl (.tmp 14) (.tmp 15) rfl W.heap.size (.slice none 0 0) 0 [] rfl (World.ownsRow_nil _ _ _ _) A n c (l.flatMap Itm.cells) rfl H0.out.1 (by rw [fl_len, H0.out.2.1]; rfl) fl_one (Nat.le_trans (show 0 + n ≤ 2 by have h1 := H0.out.2.2; omega) (by decide)) (by have h1 := H0.out.2.2; omega) (Nat.le_refl _) ?_)
       intro va w3 hov hg hv
       have X := Lib.hid (And.intro hov hg)
       clear hov hg hv))
  go_ret
  refine ⟨_, rfl, ?_, (gr W).grown X.out.2 (Nat.le_refl _) (fun k hk => by cases hk)⟩
  rw [msort_short _ (by rw [← H0.out.2.1]; exact H0.out.2.2), ← H0.out.2.1]
  have hov := X.out.1
  simpa using hov

theorem refsort_long (flat : Bool) (m : Nat) (ih : SortsTo flat m) (ad : Addr) (n c : Nat) (l : List Itm) (W : World) (h2 : 2 ≤ n) (hm : n ≤ m + 1) (hr : RV W (some ad) (l.flatMap Itm.cells)) (hn : n = l.length) (hc : n ≤ c) (hl : l.length ≤ 1073741824) :
    Calls Try.prog 29 #[.slice (some ad) n c, .bool flat] W fun e W' => ∃ v, e = .returned v ∧ W'.ownsRow W.heap.size 35 2 v l.length ((msort (ltF flat) l).flatMap Itm.cells) ∧ Below W.heap.size W W' := by
  obtain ⟨hf, hh⟩ : ∃ hf, hf = n / 2 := ⟨_, rfl⟩
  obtain ⟨nf, hnf⟩ : ∃ nf, nf = n - hf := ⟨_, rfl⟩
  have h2i : ¬ ((n : Int) < 2) := by omega
  have q3 : hf ≤ c := by omega
  have q4 : hf ≤ n := by omega
  have q5 : (0 : Int) ≤ (hf : Int) := by omega
  have q6 : (hf : Int) ≤ (c : Int) := by omega
  have q7 : (hf : Int) ≤ (n : Int) := by omega
  have q8 : (n : Int) ≤ (c : Int) := by omega
  have q9 : wrap64 (hf : Int) = (hf : Int) := wrap_in (by omega) (by omega)
  have q10 : ¬ (c = hf) := by omega
  obtain ⟨q1, q2⟩ := half_of hh
  have H0 := Lib.hid (And.intro hr (And.intro hn (And.intro hc (And.intro hl (And.intro h2 (And.intro hm (And.intro hh hnf)))))))
  have cA : Calls Try.prog 29 #[.slice (some ad) hf c, .bool flat] W fun e W' => ∃ v, e = .returned v ∧ W'.ownsRow W.heap.size 35 2 v hf ((msort (ltF flat) (l.take hf)).flatMap Itm.cells) ∧ Below W.heap.size W W' := by
    have hlt : (l.take hf).length = hf := by rw [List.length_take]; omega
    have h1 := ih (some ad) hf c (l.take hf) W (by omega) (by
      have := hr.take (hf * 2)
      rw [← flat_take] at this
      exact this) hlt.symm q3 (by omega)
    rw [hlt] at h1
    exact h1
  have cB : ∀ w, Below W.heap.size W w → Calls Try.prog 29 #[.slice (some (ad.add (hf * 2))) nf (c - hf), .bool flat] w fun e W' => ∃ v, e = .returned v ∧ W'.ownsRow w.heap.size 35 2 v nf ((msort (ltF flat) (l.drop hf)).flatMap Itm.cells) ∧ Below w.heap.size w W' := fun w hb => by
    have hld : (l.drop hf).length = nf := by rw [List.length_drop]; omega
    have h1 := ih (some (ad.add (hf * 2))) nf (c - hf) (l.drop hf) w (by omega) ((rv_drop hr hf).below hb) hld.symm (by omega) (by omega)
    rw [hld] at h1
    exact h1
  have CA := Lib.hid cA
  have CB := Lib.hid cB
  clear hr hn hl h2 hm hh hc hnf cA cB ih
  go_enter Try.func29, Try.ntmps29
  go_wp2_with (first
    | (go_at_call 29; (with_reducible show Calls _ _ #[.slice _ hf c, _] _ _); go_must (refine (CA.out).mono ?_); rintro e w1 ⟨va, rfl, ho1, hb1⟩)
    | (go_at_call 29; --CUT
       rw [← H0.out.2.2.2.2.2.2.2]; go_must (refine (CB.out w1 hb1).mono ?_); rintro e w2 ⟨vb, rfl, ho2, hb2⟩))
  obtain ⟨Aa, ca, rfl, _⟩ := own_slice ho1
  obtain ⟨Ab, cb, rfl, _⟩ := own_slice ho2
  obtain ⟨a, ha⟩ : ∃ a, a = msort (ltF flat) (l.take hf) := ⟨_, rfl⟩
  obtain ⟨b, hb⟩ : ∃ b, b = msort (ltF flat) (l.drop hf) := ⟨_, rfl⟩
  have hal : hf = a.length := by rw [ha, msort_len, List.length_take]; have h1 := H0.out.2; omega
  have hbl : nf = b.length := by rw [hb, msort_len, List.length_drop]; have h1 := H0.out.2; omega
  have hms : msort (ltF flat) l = mrg (ltF flat) a b := by rw [msort_step _ (by have h1 := H0.out.2; omega), ha, hb, ← H0.out.2.1, ← H0.out.2.2.2.2.2.2.1]
  have hab : hf + nf ≤ 1073741824 ∧ hf + nf = n := by have h1 := H0.out.2; omega
  rw [← ha] at ho1
  rw [← hb] at ho2
  have F := Lib.hid (And.intro ((own_rv ho1).below hb2) (And.intro (own_rv ho2) (And.intro hal (And.intro hbl (And.intro hms (And.intro hab (gt hb1 hb2)))))))
  clear ho1 ho2 ha hb hal hbl hms hab hb1 hb2 CA CB q1 q2 q9
  go_wp2
  go_loopw [9, 10, 5] (fun v9 v10 v5 wr => ∃ (i j : Nat) (o : List Itm), i ≤ hf ∧ j ≤ nf ∧ v9 = .int .i64 i ∧ v10 = .int .i64 j ∧ wr.ownsRow w2.heap.size 35 2 v5 o.length (o.flatMap Itm.cells) ∧ Below w2.heap.size w2 wr ∧ o ++ mrg (ltF flat) (a.drop i) (b.drop j) = mrg (ltF flat) a b ∧ o.length = i + j) (fun v9 v10 _ _ => (hf - (intOf v9).toNat) + (nf - (intOf v10).toNat))
  case atStart => exact ⟨0, 0, [], Nat.zero_le _, Nat.zero_le _, rfl, rfl, World.ownsRow_nil _ _ _ _, gr _, rfl, rfl⟩
  case round =>
    obtain ⟨i, j, o, hi, hj, rfl, rfl, ho, hb, heq, hlen⟩ := hrel
    have hi0 : (0 : Int) ≤ (i : Int) := by omega
    have hj0 : (0 : Int) ≤ (j : Int) := by omega
    have q7a : wrap64 ((i : Int) + 1) = (i : Int) + 1 := wrap_in (by omega) (by have h1 := F.out.2.2.2.2.2.1; omega)
    have q7b : wrap64 ((j : Int) + 1) = (j : Int) + 1 := wrap_in (by omega) (by have h1 := F.out.2.2.2.2.2.1; omega)
    have Q := Lib.hid (And.intro q7a q7b)
    clear q7a q7b
    by_cases hia : i < hf
    · have hii : (i : Int) < (hf : Int) := by omega
      have hal : i < a.length := by rw [← F.out.2.2.1]; exact hia
      obtain ⟨ad2, rfl, c1, c2⟩ := item_gen (F.out.1.below hb) hal
      have hda : a.drop i = a[i] :: a.drop (i + 1) := List.drop_eq_getElem_cons hal
      obtain ⟨x, hx⟩ : ∃ x, x = a[i] := ⟨_, rfl⟩
      rw [← hx] at c1 c2 hda
      rw [hda] at heq
      by_cases hjb : j < nf
      · have hjj : (j : Int) < (nf : Int) := by omega
        have hjn : ¬ ((j : Int) = (nf : Int)) := by omega
        have hbl : j < b.length := by rw [← F.out.2.2.2.1]; exact hjb
        obtain ⟨bd, rfl, d1, d2⟩ := item_gen (F.out.2.1.below hb) hbl
        have hdb : b.drop j = b[j] :: b.drop (j + 1) := List.drop_eq_getElem_cons hbl
        obtain ⟨y, hy⟩ : ∃ y, y = b[j] := ⟨_, rfl⟩
        rw [← hy] at d1 d2 hdb
        rw [hdb, mrg] at heq
        have Z := Lib.hid (And.intro ho (And.intro hb (And.intro (show o.length + 1 ≤ 1073741824 by have h1 := F.out.2.2.2.2.2.1; omega) (And.intro hia (And.intro hjb (And.intro hlen (And.intro hdb hda)))))))
        have HE := Lib.hid heq
        clear ho hb hia hjb hlen hi hj hal hbl hx hy heq hda hdb
        obtain ⟨x1, x2⟩ := x
        obtain ⟨y1, y2⟩ := y
        simp only at c1 c2 d1 d2
        go_wp2
        try simp only [Act.put, List.setIfInBounds_toArray, List.set_cons_succ, List.set_cons_zero]
        refine wp_region_qb (by kernel_rfl) (by kernel_rfl) ?_
        refine wq_val (o := ⟨some 41, _, _, _, _, _⟩) (v := .int .i64 j) rfl (fun w' hC => by go_simp) ?_
        simp only [Act.put, List.setIfInBounds_toArray, List.set_cons_succ, List.set_cons_zero]
        refine wq_val (o := ⟨some 42, _, _, _, _, _⟩) (v := .slice (some bd) nf cb) rfl (fun w' hC => by go_simp) ?_
        simp only [Act.put, List.setIfInBounds_toArray, List.set_cons_succ, List.set_cons_zero]
        refine wq_val (o := ⟨some 43, _, _, _, _, _⟩) (v := .int .i64 nf) rfl (fun w' hC => by go_simp) ?_
        simp only [Act.put, List.setIfInBounds_toArray, List.set_cons_succ, List.set_cons_zero]
        refine wq_val (o := ⟨some 44, _, _, _, _, _⟩) (v := .bool false) rfl (fun w' hC => by go_simp) ?_
        simp only [Act.put, List.setIfInBounds_toArray, List.set_cons_succ, List.set_cons_zero]
        refine wq_val (o := ⟨some 45, _, _, _, _, _⟩) (v := .bool false) rfl (fun w' hC => by go_simp) ?_
        simp only [Act.put, List.setIfInBounds_toArray, List.set_cons_succ, List.set_cons_zero]
        refine wq_val (o := ⟨some 46, _, _, _, _, _⟩) (v := .int .i64 i) rfl (fun w' hC => by go_simp) ?_
        simp only [Act.put, List.setIfInBounds_toArray, List.set_cons_succ, List.set_cons_zero]
        refine wq_val (o := ⟨some 47, _, _, _, _, _⟩) (v := .slice (some ad2) hf ca) rfl (fun w' hC => by go_simp) ?_
        simp only [Act.put, List.setIfInBounds_toArray, List.set_cons_succ, List.set_cons_zero]
        refine wq_val (o := ⟨some 48, _, _, _, _, _⟩) (v := .int .i64 hf) rfl (fun w' hC => by go_simp) ?_
        simp only [Act.put, List.setIfInBounds_toArray, List.set_cons_succ, List.set_cons_zero]
        refine wq_val (o := ⟨some 49, _, _, _, _, _⟩) (v := .bool true) rfl (fun w' hC => by go_simp) ?_
        simp only [Act.put, List.setIfInBounds_toArray, List.set_cons_succ, List.set_cons_zero]
        refine wq_val (o := ⟨some 50, _, _, _, _, _⟩) (v := .bool true) rfl (fun w' hC => by go_simp) ?_
        simp only [Act.put, List.setIfInBounds_toArray, List.set_cons_succ, List.set_cons_zero]
        refine wq_val (o := ⟨some 51, _, _, _, _, _⟩) (v := .slice (some bd) nf cb) rfl (fun w' hC => by go_simp) ?_
        simp only [Act.put, List.setIfInBounds_toArray, List.set_cons_succ, List.set_cons_zero]
        refine wq_val (o := ⟨some 52, _, _, _, _, _⟩) (v := .int .i64 j) rfl (fun w' hC => by go_simp) ?_
        simp only [Act.put, List.setIfInBounds_toArray, List.set_cons_succ, List.set_cons_zero]
        refine wq_val (o := ⟨some 53, _, _, _, _, _⟩) (v := .pointer (some (bd.add (j * 2)))) rfl (fun w' hC => by go_simp) ?_
        simp only [Act.put, List.setIfInBounds_toArray, List.set_cons_succ, List.set_cons_zero]
        refine wq_val (o := ⟨some 54, _, _, _, _, _⟩) (v := .agg #[.int .i64 y1, .int .i64 y2]) rfl (fun w' hC => by have q1 := cell_grow d1 hC; have q2 := cell_grow d2 hC; go_simp) ?_
        simp only [Act.put, List.setIfInBounds_toArray, List.set_cons_succ, List.set_cons_zero]
        refine wq_val (o := ⟨some 55, _, _, _, _, _⟩) (v := .slice (some ad2) hf ca) rfl (fun w' hC => by go_simp) ?_
        simp only [Act.put, List.setIfInBounds_toArray, List.set_cons_succ, List.set_cons_zero]
        refine wq_val (o := ⟨some 56, _, _, _, _, _⟩) (v := .int .i64 i) rfl (fun w' hC => by go_simp) ?_
        simp only [Act.put, List.setIfInBounds_toArray, List.set_cons_succ, List.set_cons_zero]
        refine wq_val (o := ⟨some 57, _, _, _, _, _⟩) (v := .pointer (some (ad2.add (i * 2)))) rfl (fun w' hC => by go_simp) ?_
        simp only [Act.put, List.setIfInBounds_toArray, List.set_cons_succ, List.set_cons_zero]
        refine wq_val (o := ⟨some 58, _, _, _, _, _⟩) (v := .agg #[.int .i64 x1, .int .i64 x2]) rfl (fun w' hC => by have q1 := cell_grow c1 hC; have q2 := cell_grow c2 hC; go_simp) ?_
        simp only [Act.put, List.setIfInBounds_toArray, List.set_cons_succ, List.set_cons_zero]
        refine wq_val (o := ⟨some 59, _, _, _, _, _⟩) (v := .bool flat) rfl (fun w' hC => by go_simp) ?_
        simp only [Act.put, List.setIfInBounds_toArray, List.set_cons_succ, List.set_cons_zero]
        refine wq_call (f := 43) (args := #[.agg #[.int .i64 y1, .int .i64 y2], .agg #[.int .i64 x1, .int .i64 x2], .bool flat]) (v := .bool (ltF flat (y1, y2) (x1, x2))) rfl (fun w' _ => by go_simp) (fun w' hC => ?_) ?_
        · exact less2_any (y1, y2) (x1, x2) flat w'
        simp only [Act.put, List.setIfInBounds_toArray, List.set_cons_succ, List.set_cons_zero]
        refine wq_val (o := ⟨some 61, _, _, _, _, _⟩) (v := .bool (!(ltF flat (y1, y2) (x1, x2)))) rfl (fun w' hC => by go_simp) ?_
        simp only [Act.put, List.setIfInBounds_toArray, List.set_cons_succ, List.set_cons_zero]
        refine wq_val (o := ⟨some 62, _, _, _, _, _⟩) (v := .bool (!(ltF flat (y1, y2) (x1, x2)))) rfl (fun w' hC => by go_simp) ?_
        simp only [Act.put, List.setIfInBounds_toArray, List.set_cons_succ, List.set_cons_zero]
        refine wq_val (o := ⟨some 63, _, _, _, _, _⟩) (v := .bool (!(ltF flat (y1, y2) (x1, x2)))) rfl (fun w' hC => by go_simp) ?_
        simp only [Act.put, List.setIfInBounds_toArray, List.set_cons_succ, List.set_cons_zero]
        refine wpQuiet_nil ?_
        intro w8 hC8
        cases hq : ltF flat (y1, y2) (x1, x2) with
        | true =>
          replace d1 := cell_grow d1 hC8
          replace d2 := cell_grow d2 hC8
          go_wp2_with (first
            | ((with_reducible show wpList _ _ _ (⟨some 78, _, _, _, _, _⟩ :: _) _ _)
               go_must (refine wpList_build1 ET (o := ⟨some 78, _, _, _, _, _⟩) rfl (.tmp 77) rfl (by decide) (Itm.cells (y1, y2)) rfl rfl _ rfl ?_)
               intro w7 hB7 hb7 hz7
               have hb78 := gt (gt Z.out.2.1 hC8) hb7)
            | ((with_reducible show wpList _ _ _ (⟨some 79, _, _, _, _, _⟩ :: _) _ _)
               go_must (refine wpList_app ET (o := ⟨some 79, _, _, _, _, _⟩) rfl (.tmp 73) (.tmp 78) rfl w2.heap.size u5 o.length (o.flatMap Itm.cells) rfl (own_below' (own_below' Z.out.1 hC8) hb7) _ 1 1 (Itm.cells (y1, y2)) rfl (own_rv (own_made (B := 0) (size := 2) (n := 1) hB7 (Nat.zero_le _) rfl (by decide))) rfl (fun u hu => thI.one (y1, y2) u hu) (Nat.le_trans (show o.length + 1 ≤ 1073741824 by have h1 := Z.out.2.2.1; omega) (by decide)) (by have h1 := Z.out.2.2.1; omega) hb78.size ?_)
               intro va w8' hov hg hv'))
          have hb9 : Below w2.heap.size w2 w8' := hb78.grown hg hb78.size (fun r hr => (Z.out.1.lt r hr).1)
          have ho9 : w8'.ownsRow w2.heap.size 35 2 va (o ++ [(y1, y2)]).length ((o ++ [(y1, y2)]).flatMap Itm.cells) := by
            rw [List.length_append, List.flatMap_append, List.flatMap_cons, List.flatMap_nil, List.append_nil]
            exact hov
          have Y := Lib.hid (And.intro ho9 hb9)
          clear hov hg hv' hB7 hb7 hz7 ho9 hb9 hb78
          go_roundw
          case rel => exact ⟨i, (j + 1), o ++ [(y1, y2)], by have h1 := Z.out.2.2.2; omega, by have h1 := Z.out.2.2.2; omega, by go_num, by rw [Q.out.2]; go_num, Y.out.1, Y.out.2, by rw [Z.out.2.2.2.2.2.2.2]; have h := HE.out; simpa [hq] using h, by have h1 := Z.out.2.2.2.2.2.1; rw [List.length_append, h1]; simp; omega⟩
          case measure =>
            rw [Q.out.2]
            exact Nat.add_lt_add_left (meas_in Z.out.2.2.2.2.1) _
        | false =>
          replace c1 := cell_grow c1 hC8
          replace c2 := cell_grow c2 hC8
          go_wp2_with (first
            | ((with_reducible show wpList _ _ _ (⟨some 69, _, _, _, _, _⟩ :: _) _ _)
               go_must (refine wpList_build1 ET (o := ⟨some 69, _, _, _, _, _⟩) rfl (.tmp 68) rfl (by decide) (Itm.cells (x1, x2)) rfl rfl _ rfl ?_)
               intro w7 hB7 hb7 hz7
               have hb78 := gt (gt Z.out.2.1 hC8) hb7)
            | ((with_reducible show wpList _ _ _ (⟨some 70, _, _, _, _, _⟩ :: _) _ _)
               go_must (refine wpList_app ET (o := ⟨some 70, _, _, _, _, _⟩) rfl (.tmp 64) (.tmp 69) rfl w2.heap.size u5 o.length (o.flatMap Itm.cells) rfl (own_below' (own_below' Z.out.1 hC8) hb7) _ 1 1 (Itm.cells (x1, x2)) rfl (own_rv (own_made (B := 0) (size := 2) (n := 1) hB7 (Nat.zero_le _) rfl (by decide))) rfl (fun u hu => thI.one (x1, x2) u hu) (Nat.le_trans (show o.length + 1 ≤ 1073741824 by have h1 := Z.out.2.2.1; omega) (by decide)) (by have h1 := Z.out.2.2.1; omega) hb78.size ?_)
               intro va w8' hov hg hv'))
          have hb9 : Below w2.heap.size w2 w8' := hb78.grown hg hb78.size (fun r hr => (Z.out.1.lt r hr).1)
          have ho9 : w8'.ownsRow w2.heap.size 35 2 va (o ++ [(x1, x2)]).length ((o ++ [(x1, x2)]).flatMap Itm.cells) := by
            rw [List.length_append, List.flatMap_append, List.flatMap_cons, List.flatMap_nil, List.append_nil]
            exact hov
          have Y := Lib.hid (And.intro ho9 hb9)
          clear hov hg hv' hB7 hb7 hz7 ho9 hb9 hb78
          go_roundw
          case rel => exact ⟨(i + 1), j, o ++ [(x1, x2)], by have h1 := Z.out.2.2.2; omega, by have h1 := Z.out.2.2.2; omega, by rw [Q.out.1]; go_num, by go_num, Y.out.1, Y.out.2, by rw [Z.out.2.2.2.2.2.2.1]; have h := HE.out; simpa [hq] using h, by have h1 := Z.out.2.2.2.2.2.1; rw [List.length_append, h1]; simp; omega⟩
          case measure =>
            rw [Q.out.1]
            exact Nat.add_lt_add_right (meas_in Z.out.2.2.2.1) _
      · obtain rfl : nf = j := by omega
        have hdb : b.drop nf = [] := List.drop_eq_nil_of_le (by rw [F.out.2.2.2.1]; exact Nat.le_refl _)
        rw [hdb, mrg_nil] at heq
        have Z := Lib.hid (And.intro ho (And.intro hb (And.intro (show o.length + 1 ≤ 1073741824 by have h1 := F.out.2.2.2.2.2.1; omega) (And.intro hia (And.intro hj (And.intro hlen (And.intro hdb hda)))))))
        have HE := Lib.hid heq
        clear ho hb hia hjb hlen hi hj hal hx heq hda hdb
        obtain ⟨x1, x2⟩ := x
        simp only at c1 c2
        go_wp2
        try simp only [Act.put, List.setIfInBounds_toArray, List.set_cons_succ, List.set_cons_zero]
        refine wp_region_qb (by kernel_rfl) (by kernel_rfl) ?_
        refine wq_val (o := ⟨some 41, _, _, _, _, _⟩) (v := .int .i64 nf) rfl (fun w' hC => by go_simp) ?_
        simp only [Act.put, List.setIfInBounds_toArray, List.set_cons_succ, List.set_cons_zero]
        refine wq_val (o := ⟨some 42, _, _, _, _, _⟩) (v := .slice Ab nf cb) rfl (fun w' hC => by go_simp) ?_
        simp only [Act.put, List.setIfInBounds_toArray, List.set_cons_succ, List.set_cons_zero]
        refine wq_val (o := ⟨some 43, _, _, _, _, _⟩) (v := .int .i64 nf) rfl (fun w' hC => by go_simp) ?_
        simp only [Act.put, List.setIfInBounds_toArray, List.set_cons_succ, List.set_cons_zero]
        refine wq_val (o := ⟨some 44, _, _, _, _, _⟩) (v := .bool true) rfl (fun w' hC => by go_simp) ?_
        simp only [Act.put, List.setIfInBounds_toArray, List.set_cons_succ, List.set_cons_zero]
        refine wq_val (o := ⟨some 45, _, _, _, _, _⟩) (v := .bool true) rfl (fun w' hC => by go_simp) ?_
        simp only [Act.put, List.setIfInBounds_toArray, List.set_cons_succ, List.set_cons_zero]
        go_big_quiet_step (fail)
        go_big_quiet_step (fail)
        go_big_quiet_step (fail)
        go_big_quiet_step (fail)
        go_big_quiet_step (fail)
        go_big_quiet_step (fail)
        go_big_quiet_step (fail)
        go_big_quiet_step (fail)
        go_big_quiet_step (fail)
        go_big_quiet_step (fail)
        go_big_quiet_step (fail)
        go_big_quiet_step (fail)
        go_big_quiet_step (fail)
        go_big_quiet_step (fail)
        go_big_quiet_step (fail)
        go_big_quiet_step (fail)
        go_big_quiet_step (fail)
        refine wq_val (o := ⟨some 63, _, _, _, _, _⟩) (v := .bool true) rfl (fun w' hC => by go_simp) ?_
        simp only [Act.put, List.setIfInBounds_toArray, List.set_cons_succ, List.set_cons_zero]
        refine wpQuiet_nil ?_
        intro w8 hC8
        replace c1 := cell_grow c1 hC8
        replace c2 := cell_grow c2 hC8
        go_wp2_with (first
          | ((with_reducible show wpList _ _ _ (⟨some 69, _, _, _, _, _⟩ :: _) _ _)
             go_must (refine wpList_build1 ET (o := ⟨some 69, _, _, _, _, _⟩) rfl (.tmp 68) rfl (by decide) (Itm.cells (x1, x2)) rfl rfl _ rfl ?_)
             intro w7 hB7 hb7 hz7
             have hb78 := gt (gt Z.out.2.1 hC8) hb7)
          | ((with_reducible show wpList _ _ _ (⟨some 70, _, _, _, _, _⟩ :: _) _ _)
             go_must (refine wpList_app ET (o := ⟨some 70, _, _, _, _, _⟩) rfl (.tmp 64) (.tmp 69) rfl w2.heap.size u5 o.length (o.flatMap Itm.cells) rfl (own_below' (own_below' Z.out.1 hC8) hb7) _ 1 1 (Itm.cells (x1, x2)) rfl (own_rv (own_made (B := 0) (size := 2) (n := 1) hB7 (Nat.zero_le _) rfl (by decide))) rfl (fun u hu => thI.one (x1, x2) u hu) (Nat.le_trans (show o.length + 1 ≤ 1073741824 by have h1 := Z.out.2.2.1; omega) (by decide)) (by have h1 := Z.out.2.2.1; omega) hb78.size ?_)
             intro va w8' hov hg hv'))
        have hb9 : Below w2.heap.size w2 w8' := hb78.grown hg hb78.size (fun r hr => (Z.out.1.lt r hr).1)
        have ho9 : w8'.ownsRow w2.heap.size 35 2 va (o ++ [(x1, x2)]).length ((o ++ [(x1, x2)]).flatMap Itm.cells) := by
          rw [List.length_append, List.flatMap_append, List.flatMap_cons, List.flatMap_nil, List.append_nil]
          exact hov
        have Y := Lib.hid (And.intro ho9 hb9)
        clear hov hg hv' hB7 hb7 hz7 ho9 hb9 hb78
        go_roundw
        case rel => exact ⟨(i + 1), nf, o ++ [(x1, x2)], by have h1 := Z.out.2.2.2; omega, by have h1 := Z.out.2.2.2; omega, by rw [Q.out.1]; go_num, by go_num, Y.out.1, Y.out.2, by rw [Z.out.2.2.2.2.2.2.1, mrg_nil]; have h := HE.out; simpa using h, by have h1 := Z.out.2.2.2.2.2.1; rw [List.length_append, h1]; simp; omega⟩
        case measure =>
          rw [Q.out.1]
          exact Nat.add_lt_add_right (meas_in Z.out.2.2.2.1) _
    · obtain rfl : hf = i := by omega
      have hda : a.drop hf = [] := List.drop_eq_nil_of_le (by rw [F.out.2.2.1]; exact Nat.le_refl _)
      rw [hda, mrg] at heq
      by_cases hjb : j < nf
      · have hjj : (j : Int) < (nf : Int) := by omega
        have hjn : ¬ ((j : Int) = (nf : Int)) := by omega
        have hbl : j < b.length := by rw [← F.out.2.2.2.1]; exact hjb
        obtain ⟨bd, rfl, d1, d2⟩ := item_gen (F.out.2.1.below hb) hbl
        have hdb : b.drop j = b[j] :: b.drop (j + 1) := List.drop_eq_getElem_cons hbl
        obtain ⟨y, hy⟩ : ∃ y, y = b[j] := ⟨_, rfl⟩
        rw [← hy] at d1 d2 hdb
        rw [hdb] at heq
        have Z := Lib.hid (And.intro ho (And.intro hb (And.intro (show o.length + 1 ≤ 1073741824 by have h1 := F.out.2.2.2.2.2.1; omega) (And.intro hi (And.intro hjb (And.intro hlen (And.intro hdb hda)))))))
        have HE := Lib.hid heq
        clear ho hb hia hjb hlen hi hj hbl hy heq hda hdb
        obtain ⟨y1, y2⟩ := y
        simp only at d1 d2
        go_wp2
        try simp only [Act.put, List.setIfInBounds_toArray, List.set_cons_succ, List.set_cons_zero]
        refine wp_region_qb (by kernel_rfl) (by kernel_rfl) ?_
        refine wq_val (o := ⟨some 41, _, _, _, _, _⟩) (v := .int .i64 j) rfl (fun w' hC => by go_simp) ?_
        simp only [Act.put, List.setIfInBounds_toArray, List.set_cons_succ, List.set_cons_zero]
        refine wq_val (o := ⟨some 42, _, _, _, _, _⟩) (v := .slice (some bd) nf cb) rfl (fun w' hC => by go_simp) ?_
        simp only [Act.put, List.setIfInBounds_toArray, List.set_cons_succ, List.set_cons_zero]
        refine wq_val (o := ⟨some 43, _, _, _, _, _⟩) (v := .int .i64 nf) rfl (fun w' hC => by go_simp) ?_
        simp only [Act.put, List.setIfInBounds_toArray, List.set_cons_succ, List.set_cons_zero]
        refine wq_val (o := ⟨some 44, _, _, _, _, _⟩) (v := .bool false) rfl (fun w' hC => by go_simp) ?_
        simp only [Act.put, List.setIfInBounds_toArray, List.set_cons_succ, List.set_cons_zero]
        refine wq_val (o := ⟨some 45, _, _, _, _, _⟩) (v := .bool false) rfl (fun w' hC => by go_simp) ?_
        simp only [Act.put, List.setIfInBounds_toArray, List.set_cons_succ, List.set_cons_zero]
        refine wq_val (o := ⟨some 46, _, _, _, _, _⟩) (v := .int .i64 hf) rfl (fun w' hC => by go_simp) ?_
        simp only [Act.put, List.setIfInBounds_toArray, List.set_cons_succ, List.set_cons_zero]
        refine wq_val (o := ⟨some 47, _, _, _, _, _⟩) (v := .slice Aa hf ca) rfl (fun w' hC => by go_simp) ?_
        simp only [Act.put, List.setIfInBounds_toArray, List.set_cons_succ, List.set_cons_zero]
        refine wq_val (o := ⟨some 48, _, _, _, _, _⟩) (v := .int .i64 hf) rfl (fun w' hC => by go_simp) ?_
        simp only [Act.put, List.setIfInBounds_toArray, List.set_cons_succ, List.set_cons_zero]
        refine wq_val (o := ⟨some 49, _, _, _, _, _⟩) (v := .bool false) rfl (fun w' hC => by go_simp) ?_
        simp only [Act.put, List.setIfInBounds_toArray, List.set_cons_succ, List.set_cons_zero]
        refine wq_val (o := ⟨some 50, _, _, _, _, _⟩) (v := .bool false) rfl (fun w' hC => by go_simp) ?_
        simp only [Act.put, List.setIfInBounds_toArray, List.set_cons_succ, List.set_cons_zero]
        go_big_quiet_step (fail)
        go_big_quiet_step (fail)
        go_big_quiet_step (fail)
        go_big_quiet_step (fail)
        go_big_quiet_step (fail)
        go_big_quiet_step (fail)
        go_big_quiet_step (fail)
        go_big_quiet_step (fail)
        go_big_quiet_step (fail)
        go_big_quiet_step (fail)
        go_big_quiet_step (fail)
        refine wq_val (o := ⟨some 62, _, _, _, _, _⟩) (v := .bool false) rfl (fun w' hC => by go_simp) ?_
        simp only [Act.put, List.setIfInBounds_toArray, List.set_cons_succ, List.set_cons_zero]
        refine wq_val (o := ⟨some 63, _, _, _, _, _⟩) (v := .bool false) rfl (fun w' hC => by go_simp) ?_
        simp only [Act.put, List.setIfInBounds_toArray, List.set_cons_succ, List.set_cons_zero]
        refine wpQuiet_nil ?_
        intro w8 hC8
        replace d1 := cell_grow d1 hC8
        replace d2 := cell_grow d2 hC8
        go_wp2_with (first
          | ((with_reducible show wpList _ _ _ (⟨some 78, _, _, _, _, _⟩ :: _) _ _)
             go_must (refine wpList_build1 ET (o := ⟨some 78, _, _, _, _, _⟩) rfl (.tmp 77) rfl (by decide) (Itm.cells (y1, y2)) rfl rfl _ rfl ?_)
             intro w7 hB7 hb7 hz7
             have hb78 := gt (gt Z.out.2.1 hC8) hb7)
          | ((with_reducible show wpList _ _ _ (⟨some 79, _, _, _, _, _⟩ :: _) _ _)
             go_must (refine wpList_app ET (o := ⟨some 79, _, _, _, _, _⟩) rfl (.tmp 73) (.tmp 78) rfl w2.heap.size u5 o.length (o.flatMap Itm.cells) rfl (own_below' (own_below' Z.out.1 hC8) hb7) _ 1 1 (Itm.cells (y1, y2)) rfl (own_rv (own_made (B := 0) (size := 2) (n := 1) hB7 (Nat.zero_le _) rfl (by decide))) rfl (fun u hu => thI.one (y1, y2) u hu) (Nat.le_trans (show o.length + 1 ≤ 1073741824 by have h1 := Z.out.2.2.1; omega) (by decide)) (by have h1 := Z.out.2.2.1; omega) hb78.size ?_)
             intro va w8' hov hg hv'))
        have hb9 : Below w2.heap.size w2 w8' := hb78.grown hg hb78.size (fun r hr => (Z.out.1.lt r hr).1)
        have ho9 : w8'.ownsRow w2.heap.size 35 2 va (o ++ [(y1, y2)]).length ((o ++ [(y1, y2)]).flatMap Itm.cells) := by
          rw [List.length_append, List.flatMap_append, List.flatMap_cons, List.flatMap_nil, List.append_nil]
          exact hov
        have Y := Lib.hid (And.intro ho9 hb9)
        clear hov hg hv' hB7 hb7 hz7 ho9 hb9 hb78
        go_roundw
        case rel => exact ⟨hf, (j + 1), o ++ [(y1, y2)], by have h1 := Z.out.2.2.2; omega, by have h1 := Z.out.2.2.2; omega, by go_num, by rw [Q.out.2]; go_num, Y.out.1, Y.out.2, by rw [Z.out.2.2.2.2.2.2.2, mrg]; have h := HE.out; simpa using h, by have h1 := Z.out.2.2.2.2.2.1; rw [List.length_append, h1]; simp; omega⟩
        case measure =>
          rw [Q.out.2]
          exact Nat.add_lt_add_left (meas_in Z.out.2.2.2.2.1) _
      · obtain rfl : nf = j := by omega
        have hdb : b.drop nf = [] := List.drop_eq_nil_of_le (by rw [F.out.2.2.2.1]; exact Nat.le_refl _)
        rw [hdb, List.append_nil] at heq
        have Z := Lib.hid (And.intro ho (And.intro hb (And.intro heq hlen)))
        clear ho hb hia hjb hlen hi hj heq hda hdb
        go_wp2
        go_ret
        refine ⟨_, rfl, ?_, F.out.2.2.2.2.2.2.trans (Z.out.2.1.mono F.out.2.2.2.2.2.2.size)⟩
        rw [F.out.2.2.2.2.1, ← Z.out.2.2.1]
        have ho := own_low Z.out.1 F.out.2.2.2.2.2.2.size
        have e1 : l.length = o.length := by have h1 := H0.out.2.1; have h2 := Z.out.2.2.2; have h3 := F.out.2.2.2.2.2.1; omega
        rw [e1]
        exact ho
theorem refsort_any (flat : Bool) : ∀ m, SortsTo flat m
  | 0 => fun A n c l W hm hr hn hc hl => refsort_short flat A n c l W (by omega) hr hn
  | m + 1 => fun A n c l W hm hr hn hc hl => by
    by_cases h2 : n < 2
    · exact refsort_short flat A n c l W h2 hr hn
    · obtain ⟨ad, h, _⟩ := item_gen hr (k := 0) (by omega)
      subst h
      exact refsort_long flat m (refsort_any flat m) ad n c l W (by omega) hm hr hn hc hl
end Go.Proofs.Ytdebokambldbbaa.LawP
