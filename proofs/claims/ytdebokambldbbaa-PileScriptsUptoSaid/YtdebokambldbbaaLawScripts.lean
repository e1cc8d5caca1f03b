/- weirlaw07.PileScripts: the walk. -/
import Derived.Test.YtdebokambldbbaaPEmpt
import Derived.Test.YtdebokambldbbaaRgF
import Derived.Test.YtdebokambldbbaaOpenSt
import Derived.Test.YtdebokambldbbaaPNil
namespace Go.Proofs.Ytdebokambldbbaa.LawP
open Go.RowKit Go.Shelf Go.Proofs.Ytdebokambldbbaa.Mem Go.Proofs.Ytdebokambldbbaa.Heap Go.Proofs.Ytdebokambldbbaa.Pile Go.Proofs.Ytdebokambldbbaa.PileI
set_option linter.unusedVariables false
set_option linter.unusedSectionVars false
set_option maxRecDepth 8000
set_option maxHeartbeats 12800000

theorem EIS : Elt Try.prog 26 32 [.slice none 0 0] 24 := Elt.mk1 Try.underlying26 (by kernel_rfl) rfl
def flS (i : Nat) : Bool := i % 3 == 2
/-- the rows that stay beside the piles and the books -/
def XR (N R : Nat) (p : Nat → Nat) (b : Nat) (T : TypeId) (cs : List Value) : Prop := b = R ∧ T = 30 ∧ cs = (List.range N).map fun j => .pointer (some ⟨p j, 0, none⟩)
/-- the state of a script behind k steps -/
structure SS (N R H bk : Nat) (W0 : World) (fl : Nat → Bool) (p : Nat → Nat) (k : Nat) (W : World) : Prop where
  fam : ∃ v es L nx u, Fam (XR N R p) N H bk W0 fl p v es L nx u (fun i => (L i).map (·.1)) W ∧ ∀ i, i < N → (L i).length ≤ k ∧ nx i ≤ k
theorem SS.start {N R : Nat} {p : Nat → Nat} {W0 W w : World} (s : PSt N R p N W0 W) (hb : Below W.heap.size W w) (hB : Blk w W.heap.size 32 (List.replicate N (.slice none 0 0))) : SS N R W0.heap.size W.heap.size W0 flS p 0 w := by
  refine ⟨fun _ => .slice none 0 0, fun _ => [], fun _ => [], fun _ => 0, fun _ => .slice none 0 0, ⟨fun i hi => ((s.pl i hi).2.grow hb), fun i hi => Book.nil _ _, fun i hi => World.ownsRow_nil _ _ _ _, fun i hi => (s.pl i hi).1, s.pp, fun i j _ _ _ => Far.nil _ _ _, fun i j _ _ _ => Far.nil _ _ _, ?_, s.low.size, s.low.trans (hb.mono s.low.size), Nat.le_refl _, ?_⟩, fun i hi => ⟨Nat.le_refl _, Nat.le_refl _⟩⟩
  · have e : ((List.range N).map fun _ => Value.slice none 0 0) = List.replicate N (.slice none 0 0) := by
      apply List.ext_getElem <;> simp
    rw [e]; exact hB
  · rintro b T cs ⟨rfl, rfl, rfl⟩
    refine ⟨?_, by unfold XOk; decide⟩
    have h := s.blk.grow hb
    have e : ((List.range N).map fun j => if j < N then Value.pointer (some ⟨p j, 0, none⟩) else .pointer none) = (List.range N).map fun j => .pointer (some ⟨p j, 0, none⟩) := by
      apply List.map_congr_left
      intro j hj
      rw [if_pos (List.mem_range.1 hj)]
    rw [e] at h
    exact h
theorem fupd_comp {α β : Type} (f : α → β) (g : Nat → α) (i : Nat) (x : α) : fupd (fun j => f (g j)) i (f x) = fun j => f (fupd g i x j) := by
  funext j
  unfold fupd
  split <;> rfl
/-- the book has got its new entry -/
theorem SS.booked {N R H bk k i : Nat} {W0 W w8 : World} {fl : Nat → Bool} {p : Nat → Nat} {v : Nat → Value} {es L : Nat → List (Itm × Nat)} {nx : Nat → Nat} {u : Nat → Value} {L' : List (Itm × Nat)} {va : Value}
    (F : Fam (XR N R p) N H bk W0 fl p v es (fupd L i L') nx u (fun j => (L j).map (·.1)) W) (hi : i < N) (hb : ∀ j, j < N → (fupd L i L' j).length ≤ k ∧ nx j ≤ k)
    (ho : w8.ownsRow H 35 2 va (L'.map (·.1)).length ((L'.map (·.1)).flatMap Itm.cells)) (hg : Grown2 W w8 (some bk) (u i).ownBlock) (hk : Blk w8 bk 32 ((List.range N).map u)) (hv : ∀ g, va.ownBlock = some g → (u i).ownBlock = some g ∨ W.heap.size ≤ g) :
    SS N R H bk W0 fl p k (w8.setCell ⟨bk, i, none⟩ va) := by
  have h := F.put hi ho hg hv hk
  rw [fupd_comp (fun l : List (Itm × Nat) => l.map (·.1)) L i L'] at h
  exact ⟨⟨_, _, _, _, _, h, hb⟩⟩
theorem own_rvg {w : World} {B n n' c size : Nat} {T : TypeId} {A : Option Addr} {xs : List Value} (h : w.ownsRow B T size (.slice A n' c) n xs) : RV w A xs := by
  obtain ⟨A', n2, c2, hv, rfl⟩ := own_form h
  injection hv with h1 h2 h3
  obtain rfl : n' = n2 := by omega
  exact own_rv h
theorem scripts_walk (A0 : Option Addr) (n c : Nat) (l : List Stp) (W : World) (hr : RV W A0 (l.flatMap Stp.cells)) (hn : n = l.length) (hl : l.length ≤ 1048576) (hok : ∀ r ∈ l, r.ok) :
    Calls Try.prog 3 #[.slice A0 n c] W fun e W' => e = .returned (.bool true) ∧ Below W.heap.size W W' := by
  have hnb : n ≤ 1048576 := by omega
  have H0 := Lib.hid (And.intro hr (And.intro hn hok))
  clear hr hn hl hok
  go_enter Try.func3, Try.ntmps3
  go_wp2_with (first
    | (go_at_call 10; go_must (refine (awake_any W).mono ?_); rintro e w1 ⟨rfl, hb1⟩)
    | (go_at_call 11; go_must (refine (piles_any 4 (by omega) w1).mono ?_); rintro e w2 ⟨R, p, rfl, hp2⟩)
    | ((with_reducible show wpList _ _ _ (⟨some 17, _, _, _, _, _⟩ :: _) _ _); go_must (refine wpList_make1 EIS (o := ⟨some 17, _, _, _, _, _⟩) rfl _ _ rfl .i64 .i64 _ _ 4 rfl rfl rfl rfl (by omega) (by decide) _ rfl ?_); intro w3 hB3 hb3 hz3))
  have hs := SS.start hp2 hb3 hB3
  obtain ⟨bk, hbk⟩ : ∃ bk, bk = w2.heap.size := ⟨_, rfl⟩
  obtain ⟨H, hH⟩ : ∃ H, H = w1.heap.size := ⟨_, rfl⟩
  have hW2 : Below W.heap.size W w2 := gt hb1 hp2.low
  simp only [← hbk]
  rw [← hbk, ← hH] at hs
  have H3 := Lib.hid (And.intro hs (And.intro hb1 hH))
  clear hs hp2 hB3 hb3 hz3 hbk hH hW2 hb1
  go_loopw [20] (fun v20 wr => ∃ k : Nat, k ≤ n ∧ v20 = .int .i64 k ∧ SS 4 R H bk w1 flS p k wr) (fun v _ => n - (intOf v).toNat)
  case atStart => exact ⟨0, Nat.zero_le _, rfl, H3.out.1⟩
  case round =>
    obtain ⟨k, hk, rfl, hs⟩ := hrel
    by_cases hlt : k < n
    · obtain ⟨v, es, L, nx, u, F, hbd⟩ := hs.fam
      have hle : w1.heap.size ≤ wr.heap.size := F.low.size
      have hbW : Below W.heap.size W wr := gt H3.out.2.1 (by rw [← H3.out.2.2]; exact F.low)
      have hkl : k < l.length := by rw [← H0.out.2.1]; exact hlt
      obtain ⟨ad, rfl, c1, c2, c3⟩ := step_at (H0.out.1.below hbW) hkl
      obtain ⟨x, hx⟩ : ∃ x, x = l[k] := ⟨_, rfl⟩
      have hxo : x.ok := by rw [hx]; exact H0.out.2.2 _ (List.getElem_mem hkl)
      rw [← hx] at c1 c2 c3
      obtain ⟨s1, s2, s3⟩ := x
      simp only at c1 c2 c3
      obtain ⟨i, hie⟩ : ∃ i, i = plN s2 4 := ⟨_, rfl⟩
      have hi : i < 4 := by rw [hie]; exact plN_lt _ (by omega)
      have cPl : ∀ w, Calls Try.prog 12 #[.int .i64 s2, .int .i64 4] w fun e W' => e = .returned (.int .i64 i) ∧ Below w.heap.size w W' := fun w => by
        rw [hie]; exact place_any s2 4 (by omega) hxo.2.1 w
      obtain ⟨Au, cu, hu, hcu⟩ := own_slice (F.row i hi)
      obtain ⟨nu, hnu⟩ : ∃ nu, nu = (L i).length := ⟨_, rfl⟩
      rw [List.length_map, ← hnu] at hu hcu
      have hnk : nu ≤ k := by rw [hnu]; exact (hbd i hi).1
      have rM : RV wr Au (((L i).map (·.1)).flatMap Itm.cells) := own_rvg (hu ▸ F.row i hi)
      obtain ⟨at_, hat⟩ : ∃ at_, at_ = fi (first (ltF (flS i)) ((L i).map (·.1))) := ⟨_, rfl⟩
      have cF : ∀ w, Below wr.heap.size wr w → Calls Try.prog 13 #[.slice Au nu cu, .bool (flS i)] w fun e W' => e = .returned (.int .i64 at_) ∧ Below w.heap.size w W' := fun w hb => by
        rw [hat]; exact first_any Au nu cu _ (flS i) w (rM.below hb) (by rw [List.length_map]; exact hnu) (by rw [List.length_map]; omega)
      have cR : ∀ w, Below wr.heap.size wr w → w.cell? ⟨R, i, none⟩ = some (.pointer (some ⟨p i, 0, none⟩)) := fun w hb => by
        rw [((F.ex R _ _ ⟨rfl, rfl, rfl⟩).1.grow hb).cell i]; simp [hi]
      have cB : ∀ w, Below wr.heap.size wr w → w.cell? ⟨bk, i, none⟩ = some (.slice Au nu cu) := fun w hb => by
        rw [(F.bks.grow hb).cell i]; simp [hi, hu]
      have hki : (k : Int) < (n : Int) := by omega
      have hk0 : (0 : Int) ≤ (k : Int) := by omega
      have hi0 : (0 : Int) ≤ (i : Int) := by omega
      have hi4 : (i : Int) < 4 := by omega
      have q7 : wrap64 ((k : Int) + 1) = (k : Int) + 1 := wrap_in (by omega) (by omega)
      obtain ⟨ri, hri⟩ : ∃ ri : Int, ri = (i : Int) % 3 := ⟨_, rfl⟩
      have t1 : ((i : Int)).tmod 3 = ri := (Int.tmod_eq_emod_of_nonneg hi0).trans hri.symm
      have t2 : ((i : Int)) % 3 = ri := hri.symm
      have hfl : (ri == 2) = flS i := by unfold flS; rw [Bool.eq_iff_iff, beq_iff_eq, beq_iff_eq]; omega
      have hfl2 : decide (ri = 2) = flS i := by rw [← hfl]; rfl
      have sb : Blk (wr.alloc (.cells #[.int .i64 s1, .int .i64 s2, .int .i64 s3] 28)) wr.heap.size 28 [.int .i64 s1, .int .i64 s2, .int .i64 s3] := Blk.new wr _ [_, _, _]
      have C := Lib.hid (And.intro cPl (And.intro cF (And.intro cR (And.intro cB sb))))
      have HA := Lib.hid hat
      have Q := Lib.hid (And.intro F (And.intro hbd (And.intro hlt (And.intro hi (And.intro hu (And.intro hnu (And.intro hnk (And.intro hcu (And.intro hxo rM)))))))))
      clear cPl cF cR cB sb F hbd hlt hi hu hnu hnk hcu hxo rM hs hk hle hbW hkl hx hie hri hat
      by_cases k0 : s1 = 0
      · subst k0
        have cPu : ∀ w, Below wr.heap.size wr w → Calls Try.prog 14 #[.pointer (some ⟨p i, 0, none⟩), .agg #[.int .i64 s3, .int .i64 k]] w _ := fun w hb => (Q.out.1.grow hb).push Q.out.2.2.2.1 (s3, (k : Int)) (by have := (Q.out.2.1 i Q.out.2.2.2.1).2; omega) (by rw [(Q.out.1.book i Q.out.2.2.2.1).len]; have := (Q.out.2.1 i Q.out.2.2.2.1).1; omega)
        have P := Lib.hid cPu
        clear cPu
        have HB : Hid (∀ j, j < 4 → (fupd L i (L i ++ [((s3, (k : Int)), nx i)]) j).length ≤ k + 1 ∧ fupd nx i (nx i + 1) j ≤ k + 1) := Lib.hid (fun j hj => by
          have h1 := Q.out.2.1 j hj
          by_cases e : j = i
          · subst e; rw [fupd_same, fupd_same, List.length_append]; simp only [List.length_cons, List.length_nil]; omega
          · rw [fupd_ne _ _ e, fupd_ne _ _ e]; omega)
        go_wp2_with (first
          | (go_at_call 12
             go_must (refine (C.out.1 _).mono ?_)
             rintro e w4 ⟨rfl, hb4⟩
             have hb4' := gt (ga (gr wr) (.cells #[.int .i64 0, .int .i64 s2, .int .i64 s3] 28)) hb4
             have cR := C.out.2.2.1 w4 hb4'
             have cB := C.out.2.2.2.1 w4 hb4'
             have sb4 := C.out.2.2.2.2.grow hb4)
          | (go_at_call 13
             go_must (refine (C.out.2.1 _ hb4').mono ?_)
             rintro e w5 ⟨rfl, hb5⟩
             have hb5' := gt hb4' hb5
             clear cR cB
             have cR := C.out.2.2.1 w5 hb5'
             have cB := C.out.2.2.2.1 w5 hb5'
             have sb5 := sb4.grow hb5
             have e1 : w5.cell? ⟨wr.heap.size, 0, none⟩ = some (.int .i64 0) := sb5.cell 0
             have e2 : w5.cell? ⟨wr.heap.size, 1, none⟩ = some (.int .i64 s2) := sb5.cell 1
             have e3 : w5.cell? ⟨wr.heap.size, 2, none⟩ = some (.int .i64 s3) := sb5.cell 2)
          | (go_at_call 15
             go_must (refine (it_any s3 k w5).mono ?_)
             rintro e w5' ⟨rfl, hbi⟩
             have hb5i := gt hb5' hbi
             clear cR cB e1 e2 e3)
          | (go_at_call 14
             go_must (refine (P.out _ hb5i).mono ?_)
             rintro e w6 ⟨⟨r6, rfl⟩, v6, F6, hg6⟩))
        have sb6 := (Q.out.1.grow hb5i).side Q.out.2.2.2.1 hg6 (sb5.grow hbi) (by decide) (by decide)
        have cB : ∀ w, Below w6.heap.size w6 w → w.cell? ⟨bk, i, none⟩ = some (.slice Au nu cu) := fun w hb => by rw [(F6.bks.grow hb).cell i]; simp [Q.out.2.2.2.1, Q.out.2.2.2.2.1]
        have cS : ∀ w, Below w6.heap.size w6 w → w.cell? ⟨wr.heap.size, 2, none⟩ = some (.int .i64 s3) := fun w hb => (sb6.grow hb).cell 2
        have X6 := Lib.hid (And.intro F6 (And.intro cB (And.intro cS hg6)))
        clear F6 cB cS sb6 hg6 c1 c2 c3
        try simp only [Act.put, List.setIfInBounds_toArray, List.set_cons_succ, List.set_cons_zero]
        refine wp_region_rrF2 (fun a b => Below a.heap.size a b) (fun _ _ _ h g => gt h g) (fun _ _ h => h.size) (fun a => (gr a).drew) 0 50 (.slice (some ⟨bk, 0, none⟩) 4 4) 1 51 (.int .i64 (i : Int)) 11
          [.eq 50 (.slice (some ⟨bk, 0, none⟩) 4 4), .eq 51 (.int .i64 (i : Int)), .eq 52 (.slice (some ⟨bk, 0, none⟩) 4 4), .eq 53 (.int .i64 (i : Int)), .eq 54 (.pointer (some ⟨bk, i, none⟩)), .eq 55 (.slice Au nu cu), .eq 56 (.pointer (some ⟨wr.heap.size, 2, none⟩)), .eq 57 (.int .i64 s3), .eq 58 (.int .i64 (k : Int)), .eq 59 (.agg #[.int .i64 s3, .int .i64 (k : Int)]), .new 60 (NewRow w6.heap.size 35 [.int .i64 s3, .int .i64 (k : Int)] 1)]
          (by kernel_rfl) (by kernel_rfl) (by kernel_rfl) (by kernel_rfl) (by kernel_rfl) rfl rfl rfl (Nat.le_of_ble_eq_true rfl) (fun w => by go_simp) rfl (fun c a w h => h) rfl rfl rfl (Nat.le_of_ble_eq_true rfl) (fun w => by go_simp) rfl (fun c a w h => h) (by kernel_rfl) ?hsta ?hoba ?hfina
        case hsta =>
          intro s hs
          simp only [List.mem_cons, List.not_mem_nil, or_false] at hs
          rcases hs with rfl | rfl | rfl | rfl | rfl | rfl | rfl | rfl | rfl | rfl | rfl
          · exact fun _ _ _ h _ => h
          · exact fun _ _ _ h _ => h
          · exact fun _ _ _ h _ => h
          · exact fun _ _ _ h _ => h
          · exact fun _ _ _ h _ => h
          · exact fun _ _ _ h _ => h
          · exact fun _ _ _ h _ => h
          · exact fun _ _ _ h _ => h
          · exact fun _ _ _ h _ => h
          · exact fun _ _ _ h _ => h
          · rintro vs w1 w2 ⟨v, rfl, h⟩ hb
            exact ⟨_, rfl, NewRow.stable h hb⟩
        case hoba =>
          simp only [List.take_succ_cons, List.take_zero]
          refine rrs_cons ?_ (rrs_cons ?_ (rrs_cons ?_ (rrs_cons ?_ (rrs_cons ?_ (rrs_cons ?_ (rrs_cons ?_ (rrs_cons ?_ (rrs_cons ?_ (rrs_cons ?_ (rrs_cons ?_ rrs_nil))))))))))
          · refine rr_eq gr (by decide) (by rfl) (by rfl) fun x w' A hg hp hA => ?_
            have e4 := hA 4
            simp [rgDsts] at e4
            go_simp
          · refine rr_eq gr (by decide) (by rfl) (by rfl) fun x w' A hg hp hA => ?_
            have e7 := hA 7
            simp [rgDsts] at e7
            go_simp
          · refine rr_eq gr (by decide) (by rfl) (by rfl) fun x w' A hg hp hA => ?_
            have e4 := hA 4
            simp [rgDsts] at e4
            go_simp
          · refine rr_eq gr (by decide) (by rfl) (by rfl) fun x w' A hg hp hA => ?_
            have e7 := hA 7
            simp [rgDsts] at e7
            go_simp
          · refine rr_eq gr (by decide) (by rfl) (by rfl) fun x w' A hg hp hA => ?_
            have h52 := rg_pred_eq (d := 52) hp 0 rfl rfl rfl
            have h53 := rg_pred_eq (d := 53) hp 1 rfl rfl rfl
            have e52 := (hA.at_ 52 rfl).trans h52
            have e53 := (hA.at_ 53 rfl).trans h53
            go_simp
          · refine rr_eq gr (by decide) (by rfl) (by rfl) fun x w' A hg hp hA => ?_
            have h54 := rg_pred_eq (d := 54) hp 0 rfl rfl rfl
            have e54 := (hA.at_ 54 rfl).trans h54
            have c1 := X6.out.2.1 w' hg
            go_simp
          · refine rr_eq gr (by decide) (by rfl) (by rfl) fun x w' A hg hp hA => ?_
            have e6 := hA 6
            simp [rgDsts] at e6
            go_simp
          · refine rr_eq gr (by decide) (by rfl) (by rfl) fun x w' A hg hp hA => ?_
            have h56 := rg_pred_eq (d := 56) hp 0 rfl rfl rfl
            have e56 := (hA.at_ 56 rfl).trans h56
            have c1 := X6.out.2.2.1 w' hg
            go_simp
          · refine rr_eq gr (by decide) (by rfl) (by rfl) fun x w' A hg hp hA => ?_
            have e5 := hA 5
            simp [rgDsts] at e5
            go_simp
          · refine rr_call (by decide) (by rfl) fun x w' A hg hp hA => ?_
            have h57 := rg_pred_eq (d := 57) hp 0 rfl rfl rfl
            have h58 := rg_pred_eq (d := 58) hp 1 rfl rfl rfl
            have e57 := (hA.at_ 57 rfl).trans h57
            have e58 := (hA.at_ 58 rfl).trans h58
            refine ⟨15, #[.int .i64 s3, .int .i64 (k : Int)], ?_, ?_⟩
            · go_simp
            · refine (show Calls Try.prog 15 #[.int .i64 s3, .int .i64 (k : Int)] w' fun e w'' => e = .returned (.agg #[.int .i64 s3, .int .i64 (k : Int)]) ∧ Below w'.heap.size w' w'' from it_any s3 k w').mono ?_
              rintro e w'' ⟨rfl, hb⟩
              exact ⟨_, rfl, hb, by simp, by simp⟩
          · refine rr_build1 ET (by decide) rfl rfl (.tmp 59) rfl (by decide) ([.int .i64 s3, .int .i64 (k : Int)]) (by rfl) fun x w' A hg hp hA => ?_
            have h59 := rg_pred_eq (d := 59) hp 0 rfl rfl rfl
            have e59 := (hA.at_ 59 rfl).trans h59
            simp [Act.eval, e59, Value.cells, strV]
        case hfina =>
        intro x w7 hg hall hap
        simp only [RgAll, holds_eq, holds_new, holds_one, and_true] at hall
        obtain ⟨h50, h51, h52, h53, h54, h55, h56, h57, h58, h59, h60⟩ := hall
        obtain ⟨b60, h60, hb60, hB60⟩ := h60
        simp only [rgDsts, List.take_succ_cons, List.take_zero, List.filterMap_cons, List.filterMap_nil, putMany, List.foldl_cons, List.foldl_nil, List.setIfInBounds_toArray, List.set_cons_succ, List.set_cons_zero, List.drop_succ_cons, List.drop_zero, h50, h51, h52, h53, h54, h55, h56, h57, h58, h59, h60]
        clear h50 h51 h52 h53 h54 h55 h56 h57 h58 h59 h60
        have F7 := X6.out.1.grow hg
        have ho7 := F7.row i Q.out.2.2.2.1
        rw [Q.out.2.2.2.2.1, List.length_map, ← Q.out.2.2.2.2.2.1] at ho7
        have hk7 : k + 1 ≤ 1073741824 := by have := Q.out.2.2.1; omega
        have hnk := Q.out.2.2.2.2.2.2.1
        have X7 := Lib.hid (And.intro F7 (And.intro ho7 (And.intro hB60 (And.intro hk7 hnk))))
        clear F7 ho7 hg hap hB60 hk7 hnk
        go_wp2_with (first
          | ((with_reducible show wpList _ _ _ (⟨some 61, _, _, _, _, _⟩ :: _) _ _)
             go_must (refine wpList_app ET (o := ⟨some 61, _, _, _, _, _⟩) rfl (.tmp 55) (.tmp 60) rfl H (.slice Au nu cu) nu (((L i).map (·.1)).flatMap Itm.cells) rfl X7.out.2.1 (some ⟨b60, 0, none⟩) 1 1 [.int .i64 s3, .int .i64 k] rfl X7.out.2.2.1.rv rfl (fun u hu => thI.one (s3, (k : Int)) u hu) (by have h1 := X7.out.2.2.2.1; have h2 := X7.out.2.2.2.2; unfold maxLen; omega) (by have h1 := X7.out.2.2.2.1; have h2 := X7.out.2.2.2.2; omega) X7.out.1.le ?_)
             intro va w8 hov hg8 hv8
             obtain ⟨Av, nv, cv, rfl, hnv⟩ := own_form hov
             subst hnv
             have hB8 : Blk w8 bk 32 ((List.range 4).map u) := X7.out.1.bks.grown hg8 (fun e => own_ne_blk (X7.out.1.row i Q.out.2.2.2.1) X7.out.1.bks (by decide) (by rw [Q.out.2.2.2.2.1]; exact e.symm))
             have c8 : w8.cell? ⟨bk, i, none⟩ = some (.slice Au nu cu) := by rw [hB8.cell i]; simp [Q.out.2.2.2.1, Q.out.2.2.2.2.1]
             have f8 := hB8.frozen i
             have X8 := Lib.hid (And.intro hov (And.intro hg8 (And.intro hv8 hB8)))
             clear hov hg8 hv8 hB8))
        go_roundw
        case rel => exact ⟨k + 1, Q.out.2.2.1, by go_num, by have h := SS.booked (k := k + 1) X7.out.1 Q.out.2.2.2.1 HB.out (by rw [List.length_map, List.map_append, List.flatMap_append, List.length_append, ← Q.out.2.2.2.2.2.1]; exact X8.out.1) (by rw [Q.out.2.2.2.2.1]; exact Grown2.of_by X8.out.2.1) X8.out.2.2.2 (fun g hg' => by rw [Q.out.2.2.2.2.1]; exact X8.out.2.2.1.elim (fun e => .inl (e ▸ hg')) (fun e => .inr (by rw [e] at hg'; injection hg' with e'; omega))); exact h⟩
        case measure => exact meas_in Q.out.2.2.1
      · by_cases k1 : s1 = 1
        · by_cases hLe : L i = []
          · subst k1
            obtain rfl : at_ = -1 := by rw [HA.out, hLe]; rfl
            have cPk := fun (w : World) (hb : Below wr.heap.size wr w) => (Q.out.1.grow hb).peek0 Q.out.2.2.2.1 hLe
            have cPo := fun (w : World) (hb : Below wr.heap.size wr w) => (Q.out.1.grow hb).pop0 Q.out.2.2.2.1 hLe
            have P := Lib.hid (And.intro cPk cPo)
            have HLe := Lib.hid hLe
            clear cPk cPo hLe HA
            go_wp2_with (first
              | (go_at_call 12
                 go_must (refine (C.out.1 _).mono ?_)
                 rintro e w4 ⟨rfl, hb4⟩
                 have hb4' := gt (ga (gr wr) (.cells #[.int .i64 1, .int .i64 s2, .int .i64 s3] 28)) hb4
                 have cR := C.out.2.2.1 w4 hb4'
                 have cB := C.out.2.2.2.1 w4 hb4'
                 have sb4 := C.out.2.2.2.2.grow hb4)
              | (go_at_call 13
                 go_must (refine (C.out.2.1 _ hb4').mono ?_)
                 rintro e w5 ⟨rfl, hb5⟩
                 have hb5' := gt hb4' hb5
                 clear cR cB
                 have cR := C.out.2.2.1 w5 hb5'
                 have cB := C.out.2.2.2.1 w5 hb5'
                 have sb5 := sb4.grow hb5
                 have e1 : w5.cell? ⟨wr.heap.size, 0, none⟩ = some (.int .i64 1) := sb5.cell 0
                 have e2 : w5.cell? ⟨wr.heap.size, 1, none⟩ = some (.int .i64 s2) := sb5.cell 1
                 have e3 : w5.cell? ⟨wr.heap.size, 2, none⟩ = some (.int .i64 s3) := sb5.cell 2)
              | (go_at_call 16
                 go_must (refine (P.out.1 _ hb5').mono ?_)
                 rintro e w6 ⟨rfl, hb6⟩
                 have hb6' := gt hb5' hb6
                 have sb7 : Blk (w6.alloc (.cells #[.int .i64 0, .int .i64 0] 35)) wr.heap.size _ _ := (sb5.grow hb6).alloc _
                 have b7 : Blk (w6.alloc (.cells #[.int .i64 0, .int .i64 0] 35)) w6.heap.size 35 [.int .i64 0, .int .i64 0] := Blk.new w6 _ [_, _]
                 have hb7' : Below wr.heap.size wr (w6.alloc (.cells #[.int .i64 0, .int .i64 0] 35)) := ga hb6' _
                 clear cR cB e1 e2 e3 c1 c2 c3
                 have e1 : (w6.alloc (.cells #[.int .i64 0, .int .i64 0] 35)).cell? ⟨wr.heap.size, 0, none⟩ = some (.int .i64 1) := sb7.cell 0
                 have hz6 : wr.heap.size ≠ w6.heap.size := Nat.ne_of_lt (sb5.grow hb6).lt
                 have u6 : ∀ j, j < 4 → (u j).ownBlock ≠ some w6.heap.size := fun j hj e => by have := (Q.out.1.row j hj).lt _ e; have := hb6'.size; omega
                 have H6 := Lib.hid (And.intro hb7' (And.intro u6 (And.intro b7 sb7)))
                 clear b7 sb7 u6 hb7')
              | (go_at_call 17
                 go_must (refine (P.out.2 _ H6.out.1).mono ?_)
                 rintro e w8 ⟨rfl, hb8⟩
                 have hg8 : Grown2 (w6.alloc (.cells #[.int .i64 0, .int .i64 0] 35)) w8 (some (p i)) (v i).ownBlock := Grown2.of_below hb8
                 have F8 := Q.out.1.grow (gt H6.out.1 hb8)
                 have F7 := Q.out.1.grow H6.out.1
                 have b8 := F7.side Q.out.2.2.2.1 hg8 H6.out.2.2.1 (by decide) (by decide)
                 have sb8 := F7.side Q.out.2.2.2.1 hg8 H6.out.2.2.2 (by decide) (by decide)
                 have G8 := Lib.hid (And.intro F8 (And.intro hg8 (And.intro b8 sb8)))
                 clear F8 hg8 F7 sb8 e1 hb8)
              | ((with_reducible show wpList _ _ _ (⟨none, .store 35 (.tmp 10) (.tmp 77), _, _, _, _⟩ :: _) _ _)
                 go_must (refine wpList_storeB (op := ⟨none, .store 35 (.tmp 10) (.tmp 77), _, _, _, _⟩) AT rfl (.tmp 10) (.tmp 77) rfl w6.heap.size 0 (by go_simp) [.int .i64 0, .int .i64 0] (by go_simp) rfl _ _ b8 (Nat.le_refl 2) (by intro u hu; simp at hu; rcases hu with rfl | rfl <;> rfl) ?_)
                 intro w9 hB9 hg9 hz9
                 replace hB9 : Blk w9 w6.heap.size 35 [.int .i64 0, .int .i64 0] := hB9
                 have F9 := G8.out.1.other b8 H6.out.2.1 (Nat.le_trans Q.out.1.le hb6'.size) hg9
                 have sb9 := G8.out.2.2.2.grown hg9 (fun e => hz6 (by injection e))
                 have hB9' : Below wr.heap.size wr w9 ∨ True := .inr trivial
                 have e1 : w9.cell? ⟨wr.heap.size, 0, none⟩ = some (.int .i64 1) := sb9.cell 0
                 have G9 := Lib.hid (And.intro F9 (And.intro hB9 sb9))
                 clear F9 hB9 sb9 hg9 hz9 b8 hB9'))
            try simp only [Act.put, List.setIfInBounds_toArray, List.set_cons_succ, List.set_cons_zero]
            refine wp_region_qb (by kernel_rfl) (by kernel_rfl) ?_
            refine wq_val (o := ⟨some 79, _, _, _, _, _⟩) (v := .bool false) rfl (fun w' hC => by go_simp) ?_
            simp only [Act.put, List.setIfInBounds_toArray, List.set_cons_succ, List.set_cons_zero]
            refine wq_val (o := ⟨some 80, _, _, _, _, _⟩) (v := .int .i64 (-1)) rfl (fun w' hC => by go_simp) ?_
            simp only [Act.put, List.setIfInBounds_toArray, List.set_cons_succ, List.set_cons_zero]
            refine wq_val (o := ⟨some 81, _, _, _, _, _⟩) (v := .bool false) rfl (fun w' hC => by go_simp) ?_
            simp only [Act.put, List.setIfInBounds_toArray, List.set_cons_succ, List.set_cons_zero]
            refine wq_val (o := ⟨some 82, _, _, _, _, _⟩) (v := .bool false) rfl (fun w' hC => by go_simp) ?_
            simp only [Act.put, List.setIfInBounds_toArray, List.set_cons_succ, List.set_cons_zero]
            refine wq_val (o := ⟨some 83, _, _, _, _, _⟩) (v := .bool false) rfl (fun w' hC => by go_simp) ?_
            simp only [Act.put, List.setIfInBounds_toArray, List.set_cons_succ, List.set_cons_zero]
            refine wq_val (o := ⟨some 84, _, _, _, _, _⟩) (v := .bool false) rfl (fun w' hC => by go_simp) ?_
            simp only [Act.put, List.setIfInBounds_toArray, List.set_cons_succ, List.set_cons_zero]
            refine wq_val (o := ⟨some 85, _, _, _, _, _⟩) (v := .bool false) rfl (fun w' hC => by go_simp) ?_
            simp only [Act.put, List.setIfInBounds_toArray, List.set_cons_succ, List.set_cons_zero]
            go_big_quiet_step (fail)
            go_big_quiet_step (fail)
            go_big_quiet_step (fail)
            go_big_quiet_step (fail)
            go_big_quiet_step (fail)
            go_big_quiet_step (fail)
            go_big_quiet_step (fail)
            go_big_quiet_step (fail)
            go_big_quiet_step (fail)
            refine wq_val (o := ⟨some 95, _, _, _, _, _⟩) (v := .bool false) rfl (fun w' hC => by go_simp) ?_
            simp only [Act.put, List.setIfInBounds_toArray, List.set_cons_succ, List.set_cons_zero]
            refine wq_val (o := ⟨some 96, _, _, _, _, _⟩) (v := .bool false) rfl (fun w' hC => by go_simp) ?_
            simp only [Act.put, List.setIfInBounds_toArray, List.set_cons_succ, List.set_cons_zero]
            refine wq_val (o := ⟨some 97, _, _, _, _, _⟩) (v := .bool false) rfl (fun w' hC => by go_simp) ?_
            simp only [Act.put, List.setIfInBounds_toArray, List.set_cons_succ, List.set_cons_zero]
            refine wq_val (o := ⟨some 98, _, _, _, _, _⟩) (v := .bool false) rfl (fun w' hC => by go_simp) ?_
            simp only [Act.put, List.setIfInBounds_toArray, List.set_cons_succ, List.set_cons_zero]
            refine wq_val (o := ⟨some 99, _, _, _, _, _⟩) (v := .bool true) rfl (fun w' hC => by go_simp) ?_
            simp only [Act.put, List.setIfInBounds_toArray, List.set_cons_succ, List.set_cons_zero]
            refine wq_val (o := ⟨some 100, _, _, _, _, _⟩) (v := .bool true) rfl (fun w' hC => by go_simp) ?_
            simp only [Act.put, List.setIfInBounds_toArray, List.set_cons_succ, List.set_cons_zero]
            refine wq_val (o := ⟨some 101, _, _, _, _, _⟩) (v := .agg #[.int .i64 0, .int .i64 0]) rfl (fun w' hC => by have hB := G9.out.2.1.grow hC; have d1 : w'.cell? ⟨w6.heap.size, 0, none⟩ = some (.int .i64 0) := hB.cell 0; have d2 : w'.cell? ⟨w6.heap.size, 1, none⟩ = some (.int .i64 0) := hB.cell 1; go_simp) ?_
            simp only [Act.put, List.setIfInBounds_toArray, List.set_cons_succ, List.set_cons_zero]
            refine wq_val (o := ⟨some 102, _, _, _, _, _⟩) (v := .agg #[.int .i64 0, .int .i64 0]) rfl (fun w' hC => by go_simp) ?_
            simp only [Act.put, List.setIfInBounds_toArray, List.set_cons_succ, List.set_cons_zero]
            refine wq_val (o := ⟨some 103, _, _, _, _, _⟩) (v := .bool false) rfl (fun w' hC => by go_simp) ?_
            simp only [Act.put, List.setIfInBounds_toArray, List.set_cons_succ, List.set_cons_zero]
            refine wq_val (o := ⟨some 104, _, _, _, _, _⟩) (v := .bool false) rfl (fun w' hC => by go_simp) ?_
            simp only [Act.put, List.setIfInBounds_toArray, List.set_cons_succ, List.set_cons_zero]
            refine wq_val (o := ⟨some 105, _, _, _, _, _⟩) (v := .bool false) rfl (fun w' hC => by go_simp) ?_
            simp only [Act.put, List.setIfInBounds_toArray, List.set_cons_succ, List.set_cons_zero]
            refine wpQuiet_nil ?_
            intro w10 hC10
            have e1 : w10.cell? ⟨wr.heap.size, 0, none⟩ = some (.int .i64 1) := (G9.out.2.2.grow hC10).cell 0
            go_wp2_with (first
              | (fail))
            go_roundw
            case rel => exact ⟨k + 1, Q.out.2.2.1, by go_num, ⟨v, es, L, nx, u, G9.out.1.grow hC10, fun j hj => ⟨Nat.le_succ_of_le (Q.out.2.1 j hj).1, Nat.le_succ_of_le (Q.out.2.1 j hj).2⟩⟩⟩
            case measure => exact meas_in Q.out.2.2.1
          · subst k1
            have hpos : 0 < (L i).length := List.length_pos_iff.2 hLe
            obtain ⟨m, hm, hml, _, _⟩ := first_some (swo_ltF (flS i)) (l := (L i).map (·.1)) (by rw [List.length_map]; exact hpos)
            obtain rfl : at_ = (m : Int) := by rw [HA.out, hm]; rfl
            rw [List.length_map] at hml
            have hLk : (L i).length ≤ 1073741824 := by have := (Q.out.2.1 i Q.out.2.2.2.1).1; omega
            have cPk := fun (w : World) (hb : Below wr.heap.size wr w) => (Q.out.1.grow hb).peekM Q.out.2.2.2.1 hpos hm
            have cPo := fun (w : World) (hb : Below wr.heap.size wr w) => (Q.out.1.grow hb).popM Q.out.2.2.2.1 hpos hLk hm
            have rI := fun (w : World) (hb : Below wr.heap.size wr w) => item_gen (Q.out.2.2.2.2.2.2.2.2.2.below hb) (k := m) (by rw [List.length_map]; exact hml)
            have hny : ((L i).map (·.1))[m]'(by rw [List.length_map]; exact hml) = (nth (L i) m).1 := by rw [List.getElem_map, nth_eq hml]
            simp only [hny] at rI
            obtain ⟨y, hy⟩ : ∃ y, y = (nth (L i) m).1 := ⟨_, rfl⟩
            rw [← hy] at cPk cPo rI
            have hnY := hny.trans hy.symm
            obtain ⟨y1, y2⟩ := y
            have HM2 := Lib.hid hnY
            clear hnY
            simp only at cPk cPo rI
            have HB : Hid (∀ j, j < 4 → (fupd L i ((L i).eraseIdx m) j).length ≤ k + 1 ∧ fupd nx i (nx i) j ≤ k + 1) := Lib.hid (fun j hj => by
              have h1 := Q.out.2.1 j hj
              rw [fupd_self]
              by_cases e : j = i
              · subst e; rw [fupd_same]; have := List.length_eraseIdx_le (l := L j) (i := m); omega
              · rw [fupd_ne _ _ e]; omega)
            obtain ⟨ad2, rfl, _, _⟩ := rI wr (gr wr)
            have rI2 : ∀ w, Below wr.heap.size wr w → w.cell? (ad2.add (m * 2)) = some (.int .i64 y1) ∧ w.cell? ⟨(ad2.add (m * 2)).block, (ad2.add (m * 2)).off + 1, none⟩ = some (.int .i64 y2) := fun w hb => by
              obtain ⟨ad3, e, h1, h2⟩ := rI w hb
              injection e with e
              subst e
              exact ⟨h1, h2⟩
            have hmn : (m : Int) < (nu : Int) := by have := Q.out.2.2.2.2.2.1; omega
            have hm0 : (0 : Int) ≤ (m : Int) := by omega
            have P := Lib.hid (And.intro cPk (And.intro cPo rI2))
            have HM := Lib.hid (And.intro hml (And.intro hpos (And.intro hm hLk)))
            clear cPk cPo rI rI2 hpos hm hLk hny hy HA hLe
            go_wp2_with (first
              | (go_at_call 12
                 go_must (refine (C.out.1 _).mono ?_)
                 rintro e w4 ⟨rfl, hb4⟩
                 have hb4' := gt (ga (gr wr) (.cells #[.int .i64 1, .int .i64 s2, .int .i64 s3] 28)) hb4
                 have cR := C.out.2.2.1 w4 hb4'
                 have cB := C.out.2.2.2.1 w4 hb4'
                 have sb4 := C.out.2.2.2.2.grow hb4)
              | (go_at_call 13
                 go_must (refine (C.out.2.1 _ hb4').mono ?_)
                 rintro e w5 ⟨rfl, hb5⟩
                 have hb5' := gt hb4' hb5
                 clear cR cB
                 have cR := C.out.2.2.1 w5 hb5'
                 have cB := C.out.2.2.2.1 w5 hb5'
                 have sb5 := sb4.grow hb5
                 have e1 : w5.cell? ⟨wr.heap.size, 0, none⟩ = some (.int .i64 1) := sb5.cell 0
                 have e2 : w5.cell? ⟨wr.heap.size, 1, none⟩ = some (.int .i64 s2) := sb5.cell 1
                 have e3 : w5.cell? ⟨wr.heap.size, 2, none⟩ = some (.int .i64 s3) := sb5.cell 2)
              | (go_at_call 16
                 go_must (refine (P.out.1 _ hb5').mono ?_)
                 rintro e w6 ⟨rfl, hb6⟩
                 have hb6' := gt hb5' hb6
                 have sb7 : Blk (w6.alloc (.cells #[.int .i64 y1, .int .i64 y2] 35)) wr.heap.size _ _ := (sb5.grow hb6).alloc _
                 have b7 : Blk (w6.alloc (.cells #[.int .i64 y1, .int .i64 y2] 35)) w6.heap.size 35 [.int .i64 y1, .int .i64 y2] := Blk.new w6 _ [_, _]
                 have hb7' : Below wr.heap.size wr (w6.alloc (.cells #[.int .i64 y1, .int .i64 y2] 35)) := ga hb6' _
                 clear cR cB e1 e2 e3 c1 c2 c3
                 have e1 : (w6.alloc (.cells #[.int .i64 y1, .int .i64 y2] 35)).cell? ⟨wr.heap.size, 0, none⟩ = some (.int .i64 1) := sb7.cell 0
                 have hz6 : wr.heap.size ≠ w6.heap.size := Nat.ne_of_lt (sb5.grow hb6).lt
                 have u6 : ∀ j, j < 4 → (u j).ownBlock ≠ some w6.heap.size := fun j hj e => by have := (Q.out.1.row j hj).lt _ e; have := hb6'.size; omega
                 have H6 := Lib.hid (And.intro hb7' (And.intro u6 (And.intro b7 sb7)))
                 clear b7 sb7 u6 hb7')
              | (go_at_call 17
                 go_must (refine (P.out.2.1 _ H6.out.1).mono ?_)
                 rintro e w8 ⟨rfl, v8, es8, F8, hg8⟩
                 have F7 := Q.out.1.grow H6.out.1
                 have b8 := F7.side Q.out.2.2.2.1 hg8 H6.out.2.2.1 (by decide) (by decide)
                 have sb8 := F7.side Q.out.2.2.2.1 hg8 H6.out.2.2.2 (by decide) (by decide)
                 have G8 := Lib.hid (And.intro F8 (And.intro hg8 (And.intro b8 sb8)))
                 clear F8 hg8 F7 sb8 e1)
              | ((with_reducible show wpList _ _ _ (⟨none, .store 35 (.tmp 10) (.tmp 77), _, _, _, _⟩ :: _) _ _)
                 go_must (refine wpList_storeB (op := ⟨none, .store 35 (.tmp 10) (.tmp 77), _, _, _, _⟩) AT rfl (.tmp 10) (.tmp 77) rfl w6.heap.size 0 (by go_simp) [.int .i64 y1, .int .i64 y2] (by go_simp) rfl _ _ b8 (Nat.le_refl 2) (by intro u hu; simp at hu; rcases hu with rfl | rfl <;> rfl) ?_)
                 intro w9 hB9 hg9 hz9
                 replace hB9 : Blk w9 w6.heap.size 35 [.int .i64 y1, .int .i64 y2] := hB9
                 have F9 := G8.out.1.other b8 H6.out.2.1 (Nat.le_trans Q.out.1.le hb6'.size) hg9
                 have sb9 := G8.out.2.2.2.grown hg9 (fun e => hz6 (by injection e))
                 have hB9' : Below wr.heap.size wr w9 ∨ True := .inr trivial
                 have e1 : w9.cell? ⟨wr.heap.size, 0, none⟩ = some (.int .i64 1) := sb9.cell 0
                 have G9 := Lib.hid (And.intro F9 (And.intro hB9 sb9))
                 clear F9 hB9 sb9 hg9 hz9 b8 hB9'))
            have RI : ∀ w, Below w9.heap.size w9 w → w.cell? (ad2.add (m * 2)) = some (.int .i64 y1) ∧ w.cell? ⟨(ad2.add (m * 2)).block, (ad2.add (m * 2)).off + 1, none⟩ = some (.int .i64 y2) := fun w hb => by
              have hr9 := own_rvg (Q.out.2.2.2.2.1 ▸ (G9.out.1.grow hb).row i Q.out.2.2.2.1)
              obtain ⟨ad3, e, h1, h2⟩ := item_gen hr9 (k := m) (by rw [List.length_map]; exact HM.out.1)
              injection e with e
              subst e
              rw [HM2.out] at h1 h2
              exact ⟨h1, h2⟩
            try simp only [Act.put, List.setIfInBounds_toArray, List.set_cons_succ, List.set_cons_zero]
            refine wp_region_qb (by kernel_rfl) (by kernel_rfl) ?_
            refine wq_val (o := ⟨some 79, _, _, _, _, _⟩) (v := .bool true) rfl (fun w' hC => by go_simp) ?_
            simp only [Act.put, List.setIfInBounds_toArray, List.set_cons_succ, List.set_cons_zero]
            refine wq_val (o := ⟨some 80, _, _, _, _, _⟩) (v := .int .i64 m) rfl (fun w' hC => by go_simp) ?_
            simp only [Act.put, List.setIfInBounds_toArray, List.set_cons_succ, List.set_cons_zero]
            refine wq_val (o := ⟨some 81, _, _, _, _, _⟩) (v := .bool true) rfl (fun w' hC => by go_simp) ?_
            simp only [Act.put, List.setIfInBounds_toArray, List.set_cons_succ, List.set_cons_zero]
            refine wq_val (o := ⟨some 82, _, _, _, _, _⟩) (v := .bool false) rfl (fun w' hC => by go_simp) ?_
            simp only [Act.put, List.setIfInBounds_toArray, List.set_cons_succ, List.set_cons_zero]
            refine wq_val (o := ⟨some 83, _, _, _, _, _⟩) (v := .bool false) rfl (fun w' hC => by go_simp) ?_
            simp only [Act.put, List.setIfInBounds_toArray, List.set_cons_succ, List.set_cons_zero]
            refine wq_val (o := ⟨some 84, _, _, _, _, _⟩) (v := .bool true) rfl (fun w' hC => by go_simp) ?_
            simp only [Act.put, List.setIfInBounds_toArray, List.set_cons_succ, List.set_cons_zero]
            refine wq_val (o := ⟨some 85, _, _, _, _, _⟩) (v := .bool true) rfl (fun w' hC => by go_simp) ?_
            simp only [Act.put, List.setIfInBounds_toArray, List.set_cons_succ, List.set_cons_zero]
            refine wq_val (o := ⟨some 86, _, _, _, _, _⟩) (v := .agg #[.int .i64 y1, .int .i64 y2]) rfl (fun w' hC => by have hB := G9.out.2.1.grow hC; have d1 : w'.cell? ⟨w6.heap.size, 0, none⟩ = some (.int .i64 y1) := hB.cell 0; have d2 : w'.cell? ⟨w6.heap.size, 1, none⟩ = some (.int .i64 y2) := hB.cell 1; go_simp) ?_
            simp only [Act.put, List.setIfInBounds_toArray, List.set_cons_succ, List.set_cons_zero]
            refine wq_val (o := ⟨some 87, _, _, _, _, _⟩) (v := .slice (some ⟨bk, 0, none⟩) 4 4) rfl (fun w' hC => by go_simp) ?_
            simp only [Act.put, List.setIfInBounds_toArray, List.set_cons_succ, List.set_cons_zero]
            refine wq_val (o := ⟨some 88, _, _, _, _, _⟩) (v := .int .i64 i) rfl (fun w' hC => by go_simp) ?_
            simp only [Act.put, List.setIfInBounds_toArray, List.set_cons_succ, List.set_cons_zero]
            refine wq_val (o := ⟨some 89, _, _, _, _, _⟩) (v := .pointer (some ⟨bk, i, none⟩)) rfl (fun w' hC => by go_simp) ?_
            simp only [Act.put, List.setIfInBounds_toArray, List.set_cons_succ, List.set_cons_zero]
            refine wq_val (o := ⟨some 90, _, _, _, _, _⟩) (v := .slice (some ad2) nu cu) rfl (fun w' hC => by have c1 : w'.cell? ⟨bk, i, none⟩ = some (.slice (some ad2) nu cu) := ((G9.out.1.grow hC).bks.cell i).trans (by simp [Q.out.2.2.2.1, Q.out.2.2.2.2.1]); go_simp) ?_
            simp only [Act.put, List.setIfInBounds_toArray, List.set_cons_succ, List.set_cons_zero]
            refine wq_val (o := ⟨some 91, _, _, _, _, _⟩) (v := .int .i64 m) rfl (fun w' hC => by go_simp) ?_
            simp only [Act.put, List.setIfInBounds_toArray, List.set_cons_succ, List.set_cons_zero]
            refine wq_val (o := ⟨some 92, _, _, _, _, _⟩) (v := .pointer (some (ad2.add (m * 2)))) rfl (fun w' hC => by go_simp) ?_
            simp only [Act.put, List.setIfInBounds_toArray, List.set_cons_succ, List.set_cons_zero]
            refine wq_val (o := ⟨some 93, _, _, _, _, _⟩) (v := .agg #[.int .i64 y1, .int .i64 y2]) rfl (fun w' hC => by obtain ⟨d1, d2⟩ := RI w' hC; go_simp) ?_
            simp only [Act.put, List.setIfInBounds_toArray, List.set_cons_succ, List.set_cons_zero]
            refine wq_val (o := ⟨some 94, _, _, _, _, _⟩) (v := .bool false) rfl (fun w' hC => by go_simp) ?_
            simp only [Act.put, List.setIfInBounds_toArray, List.set_cons_succ, List.set_cons_zero]
            refine wq_val (o := ⟨some 95, _, _, _, _, _⟩) (v := .bool false) rfl (fun w' hC => by go_simp) ?_
            simp only [Act.put, List.setIfInBounds_toArray, List.set_cons_succ, List.set_cons_zero]
            refine wq_val (o := ⟨some 96, _, _, _, _, _⟩) (v := .bool false) rfl (fun w' hC => by go_simp) ?_
            simp only [Act.put, List.setIfInBounds_toArray, List.set_cons_succ, List.set_cons_zero]
            refine wq_val (o := ⟨some 97, _, _, _, _, _⟩) (v := .bool false) rfl (fun w' hC => by go_simp) ?_
            simp only [Act.put, List.setIfInBounds_toArray, List.set_cons_succ, List.set_cons_zero]
            refine wq_val (o := ⟨some 98, _, _, _, _, _⟩) (v := .bool true) rfl (fun w' hC => by go_simp) ?_
            simp only [Act.put, List.setIfInBounds_toArray, List.set_cons_succ, List.set_cons_zero]
            refine wq_val (o := ⟨some 99, _, _, _, _, _⟩) (v := .bool false) rfl (fun w' hC => by go_simp) ?_
            simp only [Act.put, List.setIfInBounds_toArray, List.set_cons_succ, List.set_cons_zero]
            refine wq_val (o := ⟨some 100, _, _, _, _, _⟩) (v := .bool false) rfl (fun w' hC => by go_simp) ?_
            simp only [Act.put, List.setIfInBounds_toArray, List.set_cons_succ, List.set_cons_zero]
            go_big_quiet_step (fail)
            go_big_quiet_step (fail)
            go_big_quiet_step (fail)
            refine wq_val (o := ⟨some 104, _, _, _, _, _⟩) (v := .bool false) rfl (fun w' hC => by go_simp) ?_
            simp only [Act.put, List.setIfInBounds_toArray, List.set_cons_succ, List.set_cons_zero]
            refine wq_val (o := ⟨some 105, _, _, _, _, _⟩) (v := .bool false) rfl (fun w' hC => by go_simp) ?_
            simp only [Act.put, List.setIfInBounds_toArray, List.set_cons_succ, List.set_cons_zero]
            refine wpQuiet_nil ?_
            intro w10 hC10
            have F10 := G9.out.1.grow hC10
            have e1 : w10.cell? ⟨wr.heap.size, 0, none⟩ = some (.int .i64 1) := (G9.out.2.2.grow hC10).cell 0
            have hr10 := own_rvg (Q.out.2.2.2.2.1 ▸ F10.row i Q.out.2.2.2.1)
            have cB : w10.cell? ⟨bk, i, none⟩ = some (.slice (some ad2) nu cu) := (F10.bks.cell i).trans (by simp [Q.out.2.2.2.1, Q.out.2.2.2.2.1])
            have cW := without_any (some ad2) nu cu m ((L i).map (·.1)) w10 hr10 (by rw [List.length_map]; exact Q.out.2.2.2.2.2.1) (by rw [List.length_map]; exact HM.out.2.2.2)
            have G10 := Lib.hid (And.intro F10 cW)
            clear F10 hr10 cW
            go_wp2_with (first
              | (go_at_call 18
                 go_must (refine (G10.out.2).mono ?_)
                 rintro e w11 ⟨vw, rfl, how, hb11⟩
                 obtain ⟨Aw, nw, cw, rfl, hnw⟩ := own_form how
                 subst hnw
                 have F11 := G10.out.1.grow hb11
                 have c11 : w11.cell? ⟨bk, i, none⟩ = some (.slice (some ad2) nu cu) := (F11.bks.cell i).trans (by simp [Q.out.2.2.2.1, Q.out.2.2.2.2.1])
                 have f11 := F11.bks.frozen i
                 have G11 := Lib.hid (And.intro F11 (And.intro how hb11))
                 clear F11 how hb11 cB))
            go_roundw
            case rel => exact ⟨k + 1, Q.out.2.2.1, by go_num, by have h := SS.booked (k := k + 1) G10.out.1 Q.out.2.2.2.1 HB.out (by rw [map_eraseIdx]; exact own_low G11.out.2.1 G10.out.1.le) (Grown2.of_below G11.out.2.2) G11.out.1.bks (fun g hg' => .inr (G11.out.2.1.lt g hg').1); exact h⟩
            case measure => exact meas_in Q.out.2.2.1
        · by_cases k2 : s1 = 2
          · by_cases hLe : L i = []
            · subst k2
              obtain rfl : at_ = -1 := by rw [HA.out, hLe]; rfl
              have cPk := fun (w : World) (hb : Below wr.heap.size wr w) => (Q.out.1.grow hb).peek0 Q.out.2.2.2.1 hLe
              have cPo := fun (w : World) (hb : Below wr.heap.size wr w) => (Q.out.1.grow hb).pop0 Q.out.2.2.2.1 hLe
              have P := Lib.hid (And.intro cPk cPo)
              have HLe := Lib.hid hLe
              clear cPk cPo hLe HA
              go_wp2_with (first
                | (go_at_call 12
                   go_must (refine (C.out.1 _).mono ?_)
                   rintro e w4 ⟨rfl, hb4⟩
                   have hb4' := gt (ga (gr wr) (.cells #[.int .i64 2, .int .i64 s2, .int .i64 s3] 28)) hb4
                   have cR := C.out.2.2.1 w4 hb4'
                   have cB := C.out.2.2.2.1 w4 hb4'
                   have sb4 := C.out.2.2.2.2.grow hb4)
                | (go_at_call 13
                   go_must (refine (C.out.2.1 _ hb4').mono ?_)
                   rintro e w5 ⟨rfl, hb5⟩
                   have hb5' := gt hb4' hb5
                   clear cR cB
                   have cR := C.out.2.2.1 w5 hb5'
                   have cB := C.out.2.2.2.1 w5 hb5'
                   have sb5 := sb4.grow hb5
                   have e1 : w5.cell? ⟨wr.heap.size, 0, none⟩ = some (.int .i64 2) := sb5.cell 0
                   have e2 : w5.cell? ⟨wr.heap.size, 1, none⟩ = some (.int .i64 s2) := sb5.cell 1
                   have e3 : w5.cell? ⟨wr.heap.size, 2, none⟩ = some (.int .i64 s3) := sb5.cell 2)
                | (go_at_call 16
                   go_must (refine (P.out.1 _ hb5').mono ?_)
                   rintro e w6 ⟨rfl, hb6⟩
                   have hb6' := gt hb5' hb6
                   have sb7 : Blk (w6.alloc (.cells #[.int .i64 0, .int .i64 0] 35)) wr.heap.size _ _ := (sb5.grow hb6).alloc _
                   have b7 : Blk (w6.alloc (.cells #[.int .i64 0, .int .i64 0] 35)) w6.heap.size 35 [.int .i64 0, .int .i64 0] := Blk.new w6 _ [_, _]
                   have hb7' : Below wr.heap.size wr (w6.alloc (.cells #[.int .i64 0, .int .i64 0] 35)) := ga hb6' _
                   clear cR cB e1 e2 e3 c1 c2 c3
                   have e1 : (w6.alloc (.cells #[.int .i64 0, .int .i64 0] 35)).cell? ⟨wr.heap.size, 0, none⟩ = some (.int .i64 2) := sb7.cell 0
                   have hz6 : wr.heap.size ≠ w6.heap.size := Nat.ne_of_lt (sb5.grow hb6).lt
                   have u6 : ∀ j, j < 4 → (u j).ownBlock ≠ some w6.heap.size := fun j hj e => by have := (Q.out.1.row j hj).lt _ e; have := hb6'.size; omega
                   have H6 := Lib.hid (And.intro hb7' (And.intro u6 (And.intro b7 sb7)))
                   clear b7 sb7 u6 hb7'))
              have hw7 := H6.out.1
              try simp only [Act.put, List.setIfInBounds_toArray, List.set_cons_succ, List.set_cons_zero]
              refine wp_region_qb (by kernel_rfl) (by kernel_rfl) ?_
              refine wq_val (o := ⟨some 79, _, _, _, _, _⟩) (v := .bool false) rfl (fun w' hC => by go_simp) ?_
              simp only [Act.put, List.setIfInBounds_toArray, List.set_cons_succ, List.set_cons_zero]
              refine wq_val (o := ⟨some 80, _, _, _, _, _⟩) (v := .int .i64 (-1)) rfl (fun w' hC => by go_simp) ?_
              simp only [Act.put, List.setIfInBounds_toArray, List.set_cons_succ, List.set_cons_zero]
              refine wq_val (o := ⟨some 81, _, _, _, _, _⟩) (v := .bool false) rfl (fun w' hC => by go_simp) ?_
              simp only [Act.put, List.setIfInBounds_toArray, List.set_cons_succ, List.set_cons_zero]
              refine wq_val (o := ⟨some 82, _, _, _, _, _⟩) (v := .bool false) rfl (fun w' hC => by go_simp) ?_
              simp only [Act.put, List.setIfInBounds_toArray, List.set_cons_succ, List.set_cons_zero]
              refine wq_val (o := ⟨some 83, _, _, _, _, _⟩) (v := .bool false) rfl (fun w' hC => by go_simp) ?_
              simp only [Act.put, List.setIfInBounds_toArray, List.set_cons_succ, List.set_cons_zero]
              refine wq_val (o := ⟨some 84, _, _, _, _, _⟩) (v := .bool false) rfl (fun w' hC => by go_simp) ?_
              simp only [Act.put, List.setIfInBounds_toArray, List.set_cons_succ, List.set_cons_zero]
              refine wq_val (o := ⟨some 85, _, _, _, _, _⟩) (v := .bool false) rfl (fun w' hC => by go_simp) ?_
              simp only [Act.put, List.setIfInBounds_toArray, List.set_cons_succ, List.set_cons_zero]
              go_big_quiet_step (fail)
              go_big_quiet_step (fail)
              go_big_quiet_step (fail)
              go_big_quiet_step (fail)
              go_big_quiet_step (fail)
              go_big_quiet_step (fail)
              go_big_quiet_step (fail)
              go_big_quiet_step (fail)
              go_big_quiet_step (fail)
              refine wq_val (o := ⟨some 95, _, _, _, _, _⟩) (v := .bool false) rfl (fun w' hC => by go_simp) ?_
              simp only [Act.put, List.setIfInBounds_toArray, List.set_cons_succ, List.set_cons_zero]
              refine wq_val (o := ⟨some 96, _, _, _, _, _⟩) (v := .bool false) rfl (fun w' hC => by go_simp) ?_
              simp only [Act.put, List.setIfInBounds_toArray, List.set_cons_succ, List.set_cons_zero]
              refine wq_val (o := ⟨some 97, _, _, _, _, _⟩) (v := .bool false) rfl (fun w' hC => by go_simp) ?_
              simp only [Act.put, List.setIfInBounds_toArray, List.set_cons_succ, List.set_cons_zero]
              refine wq_val (o := ⟨some 98, _, _, _, _, _⟩) (v := .bool false) rfl (fun w' hC => by go_simp) ?_
              simp only [Act.put, List.setIfInBounds_toArray, List.set_cons_succ, List.set_cons_zero]
              refine wq_val (o := ⟨some 99, _, _, _, _, _⟩) (v := .bool true) rfl (fun w' hC => by go_simp) ?_
              simp only [Act.put, List.setIfInBounds_toArray, List.set_cons_succ, List.set_cons_zero]
              refine wq_val (o := ⟨some 100, _, _, _, _, _⟩) (v := .bool true) rfl (fun w' hC => by go_simp) ?_
              simp only [Act.put, List.setIfInBounds_toArray, List.set_cons_succ, List.set_cons_zero]
              refine wq_val (o := ⟨some 101, _, _, _, _, _⟩) (v := .agg #[.int .i64 0, .int .i64 0]) rfl (fun w' hC => by have hB := H6.out.2.2.1.grow hC; have d1 : w'.cell? ⟨w6.heap.size, 0, none⟩ = some (.int .i64 0) := hB.cell 0; have d2 : w'.cell? ⟨w6.heap.size, 1, none⟩ = some (.int .i64 0) := hB.cell 1; go_simp) ?_
              simp only [Act.put, List.setIfInBounds_toArray, List.set_cons_succ, List.set_cons_zero]
              refine wq_val (o := ⟨some 102, _, _, _, _, _⟩) (v := .agg #[.int .i64 0, .int .i64 0]) rfl (fun w' hC => by go_simp) ?_
              simp only [Act.put, List.setIfInBounds_toArray, List.set_cons_succ, List.set_cons_zero]
              refine wq_val (o := ⟨some 103, _, _, _, _, _⟩) (v := .bool false) rfl (fun w' hC => by go_simp) ?_
              simp only [Act.put, List.setIfInBounds_toArray, List.set_cons_succ, List.set_cons_zero]
              refine wq_val (o := ⟨some 104, _, _, _, _, _⟩) (v := .bool false) rfl (fun w' hC => by go_simp) ?_
              simp only [Act.put, List.setIfInBounds_toArray, List.set_cons_succ, List.set_cons_zero]
              refine wq_val (o := ⟨some 105, _, _, _, _, _⟩) (v := .bool false) rfl (fun w' hC => by go_simp) ?_
              simp only [Act.put, List.setIfInBounds_toArray, List.set_cons_succ, List.set_cons_zero]
              refine wpQuiet_nil ?_
              intro w10 hC10
              have hb10 := gt H6.out.1 hC10
              have e1 : w10.cell? ⟨wr.heap.size, 0, none⟩ = some (.int .i64 2) := (H6.out.2.2.2.grow hC10).cell 0
              go_wp2_with (first
                | (fail))
              go_roundw
              case rel => exact ⟨k + 1, Q.out.2.2.1, by go_num, ⟨v, es, L, nx, u, Q.out.1.grow hb10, fun j hj => ⟨Nat.le_succ_of_le (Q.out.2.1 j hj).1, Nat.le_succ_of_le (Q.out.2.1 j hj).2⟩⟩⟩
              case measure => exact meas_in Q.out.2.2.1
            · subst k2
              have hpos : 0 < (L i).length := List.length_pos_iff.2 hLe
              obtain ⟨m, hm, hml, _, _⟩ := first_some (swo_ltF (flS i)) (l := (L i).map (·.1)) (by rw [List.length_map]; exact hpos)
              obtain rfl : at_ = (m : Int) := by rw [HA.out, hm]; rfl
              rw [List.length_map] at hml
              have hLk : (L i).length ≤ 1073741824 := by have := (Q.out.2.1 i Q.out.2.2.2.1).1; omega
              have cPk := fun (w : World) (hb : Below wr.heap.size wr w) => (Q.out.1.grow hb).peekM Q.out.2.2.2.1 hpos hm
              have cPo := fun (w : World) (hb : Below wr.heap.size wr w) => (Q.out.1.grow hb).popM Q.out.2.2.2.1 hpos hLk hm
              have rI := fun (w : World) (hb : Below wr.heap.size wr w) => item_gen (Q.out.2.2.2.2.2.2.2.2.2.below hb) (k := m) (by rw [List.length_map]; exact hml)
              have hny : ((L i).map (·.1))[m]'(by rw [List.length_map]; exact hml) = (nth (L i) m).1 := by rw [List.getElem_map, nth_eq hml]
              simp only [hny] at rI
              obtain ⟨y, hy⟩ : ∃ y, y = (nth (L i) m).1 := ⟨_, rfl⟩
              rw [← hy] at cPk cPo rI
              have hnY := hny.trans hy.symm
              obtain ⟨y1, y2⟩ := y
              have HM2 := Lib.hid hnY
              clear hnY
              simp only at cPk cPo rI
              have HB : Hid (∀ j, j < 4 → (fupd L i ((L i).eraseIdx m) j).length ≤ k + 1 ∧ fupd nx i (nx i) j ≤ k + 1) := Lib.hid (fun j hj => by
                have h1 := Q.out.2.1 j hj
                rw [fupd_self]
                by_cases e : j = i
                · subst e; rw [fupd_same]; have := List.length_eraseIdx_le (l := L j) (i := m); omega
                · rw [fupd_ne _ _ e]; omega)
              obtain ⟨ad2, rfl, _, _⟩ := rI wr (gr wr)
              have rI2 : ∀ w, Below wr.heap.size wr w → w.cell? (ad2.add (m * 2)) = some (.int .i64 y1) ∧ w.cell? ⟨(ad2.add (m * 2)).block, (ad2.add (m * 2)).off + 1, none⟩ = some (.int .i64 y2) := fun w hb => by
                obtain ⟨ad3, e, h1, h2⟩ := rI w hb
                injection e with e
                subst e
                exact ⟨h1, h2⟩
              have hmn : (m : Int) < (nu : Int) := by have := Q.out.2.2.2.2.2.1; omega
              have hm0 : (0 : Int) ≤ (m : Int) := by omega
              have P := Lib.hid (And.intro cPk (And.intro cPo rI2))
              have HM := Lib.hid (And.intro hml (And.intro hpos (And.intro hm hLk)))
              clear cPk cPo rI rI2 hpos hm hLk hny hy HA hLe
              go_wp2_with (first
                | (go_at_call 12
                   go_must (refine (C.out.1 _).mono ?_)
                   rintro e w4 ⟨rfl, hb4⟩
                   have hb4' := gt (ga (gr wr) (.cells #[.int .i64 2, .int .i64 s2, .int .i64 s3] 28)) hb4
                   have cR := C.out.2.2.1 w4 hb4'
                   have cB := C.out.2.2.2.1 w4 hb4'
                   have sb4 := C.out.2.2.2.2.grow hb4)
                | (go_at_call 13
                   go_must (refine (C.out.2.1 _ hb4').mono ?_)
                   rintro e w5 ⟨rfl, hb5⟩
                   have hb5' := gt hb4' hb5
                   clear cR cB
                   have cR := C.out.2.2.1 w5 hb5'
                   have cB := C.out.2.2.2.1 w5 hb5'
                   have sb5 := sb4.grow hb5
                   have e1 : w5.cell? ⟨wr.heap.size, 0, none⟩ = some (.int .i64 2) := sb5.cell 0
                   have e2 : w5.cell? ⟨wr.heap.size, 1, none⟩ = some (.int .i64 s2) := sb5.cell 1
                   have e3 : w5.cell? ⟨wr.heap.size, 2, none⟩ = some (.int .i64 s3) := sb5.cell 2)
                | (go_at_call 16
                   go_must (refine (P.out.1 _ hb5').mono ?_)
                   rintro e w6 ⟨rfl, hb6⟩
                   have hb6' := gt hb5' hb6
                   have sb7 : Blk (w6.alloc (.cells #[.int .i64 y1, .int .i64 y2] 35)) wr.heap.size _ _ := (sb5.grow hb6).alloc _
                   have b7 : Blk (w6.alloc (.cells #[.int .i64 y1, .int .i64 y2] 35)) w6.heap.size 35 [.int .i64 y1, .int .i64 y2] := Blk.new w6 _ [_, _]
                   have hb7' : Below wr.heap.size wr (w6.alloc (.cells #[.int .i64 y1, .int .i64 y2] 35)) := ga hb6' _
                   clear cR cB e1 e2 e3 c1 c2 c3
                   have e1 : (w6.alloc (.cells #[.int .i64 y1, .int .i64 y2] 35)).cell? ⟨wr.heap.size, 0, none⟩ = some (.int .i64 2) := sb7.cell 0
                   have hz6 : wr.heap.size ≠ w6.heap.size := Nat.ne_of_lt (sb5.grow hb6).lt
                   have u6 : ∀ j, j < 4 → (u j).ownBlock ≠ some w6.heap.size := fun j hj e => by have := (Q.out.1.row j hj).lt _ e; have := hb6'.size; omega
                   have H6 := Lib.hid (And.intro hb7' (And.intro u6 (And.intro b7 sb7)))
                   clear b7 sb7 u6 hb7'))
              have hw7 := H6.out.1
              have RI : ∀ w, Below (w6.alloc (.cells #[.int .i64 y1, .int .i64 y2] 35)).heap.size (w6.alloc (.cells #[.int .i64 y1, .int .i64 y2] 35)) w → _ := fun w hb => P.out.2.2 w (gt H6.out.1 hb)
              try simp only [Act.put, List.setIfInBounds_toArray, List.set_cons_succ, List.set_cons_zero]
              refine wp_region_qb (by kernel_rfl) (by kernel_rfl) ?_
              refine wq_val (o := ⟨some 79, _, _, _, _, _⟩) (v := .bool true) rfl (fun w' hC => by go_simp) ?_
              simp only [Act.put, List.setIfInBounds_toArray, List.set_cons_succ, List.set_cons_zero]
              refine wq_val (o := ⟨some 80, _, _, _, _, _⟩) (v := .int .i64 m) rfl (fun w' hC => by go_simp) ?_
              simp only [Act.put, List.setIfInBounds_toArray, List.set_cons_succ, List.set_cons_zero]
              refine wq_val (o := ⟨some 81, _, _, _, _, _⟩) (v := .bool true) rfl (fun w' hC => by go_simp) ?_
              simp only [Act.put, List.setIfInBounds_toArray, List.set_cons_succ, List.set_cons_zero]
              refine wq_val (o := ⟨some 82, _, _, _, _, _⟩) (v := .bool false) rfl (fun w' hC => by go_simp) ?_
              simp only [Act.put, List.setIfInBounds_toArray, List.set_cons_succ, List.set_cons_zero]
              refine wq_val (o := ⟨some 83, _, _, _, _, _⟩) (v := .bool false) rfl (fun w' hC => by go_simp) ?_
              simp only [Act.put, List.setIfInBounds_toArray, List.set_cons_succ, List.set_cons_zero]
              refine wq_val (o := ⟨some 84, _, _, _, _, _⟩) (v := .bool true) rfl (fun w' hC => by go_simp) ?_
              simp only [Act.put, List.setIfInBounds_toArray, List.set_cons_succ, List.set_cons_zero]
              refine wq_val (o := ⟨some 85, _, _, _, _, _⟩) (v := .bool true) rfl (fun w' hC => by go_simp) ?_
              simp only [Act.put, List.setIfInBounds_toArray, List.set_cons_succ, List.set_cons_zero]
              refine wq_val (o := ⟨some 86, _, _, _, _, _⟩) (v := .agg #[.int .i64 y1, .int .i64 y2]) rfl (fun w' hC => by have hB := H6.out.2.2.1.grow hC; have d1 : w'.cell? ⟨w6.heap.size, 0, none⟩ = some (.int .i64 y1) := hB.cell 0; have d2 : w'.cell? ⟨w6.heap.size, 1, none⟩ = some (.int .i64 y2) := hB.cell 1; go_simp) ?_
              simp only [Act.put, List.setIfInBounds_toArray, List.set_cons_succ, List.set_cons_zero]
              refine wq_val (o := ⟨some 87, _, _, _, _, _⟩) (v := .slice (some ⟨bk, 0, none⟩) 4 4) rfl (fun w' hC => by go_simp) ?_
              simp only [Act.put, List.setIfInBounds_toArray, List.set_cons_succ, List.set_cons_zero]
              refine wq_val (o := ⟨some 88, _, _, _, _, _⟩) (v := .int .i64 i) rfl (fun w' hC => by go_simp) ?_
              simp only [Act.put, List.setIfInBounds_toArray, List.set_cons_succ, List.set_cons_zero]
              refine wq_val (o := ⟨some 89, _, _, _, _, _⟩) (v := .pointer (some ⟨bk, i, none⟩)) rfl (fun w' hC => by go_simp) ?_
              simp only [Act.put, List.setIfInBounds_toArray, List.set_cons_succ, List.set_cons_zero]
              refine wq_val (o := ⟨some 90, _, _, _, _, _⟩) (v := .slice (some ad2) nu cu) rfl (fun w' hC => by have c1 : w'.cell? ⟨bk, i, none⟩ = some (.slice (some ad2) nu cu) := ((Q.out.1.grow (gt H6.out.1 hC)).bks.cell i).trans (by simp [Q.out.2.2.2.1, Q.out.2.2.2.2.1]); go_simp) ?_
              simp only [Act.put, List.setIfInBounds_toArray, List.set_cons_succ, List.set_cons_zero]
              refine wq_val (o := ⟨some 91, _, _, _, _, _⟩) (v := .int .i64 m) rfl (fun w' hC => by go_simp) ?_
              simp only [Act.put, List.setIfInBounds_toArray, List.set_cons_succ, List.set_cons_zero]
              refine wq_val (o := ⟨some 92, _, _, _, _, _⟩) (v := .pointer (some (ad2.add (m * 2)))) rfl (fun w' hC => by go_simp) ?_
              simp only [Act.put, List.setIfInBounds_toArray, List.set_cons_succ, List.set_cons_zero]
              refine wq_val (o := ⟨some 93, _, _, _, _, _⟩) (v := .agg #[.int .i64 y1, .int .i64 y2]) rfl (fun w' hC => by obtain ⟨d1, d2⟩ := RI w' hC; go_simp) ?_
              simp only [Act.put, List.setIfInBounds_toArray, List.set_cons_succ, List.set_cons_zero]
              refine wq_val (o := ⟨some 94, _, _, _, _, _⟩) (v := .bool false) rfl (fun w' hC => by go_simp) ?_
              simp only [Act.put, List.setIfInBounds_toArray, List.set_cons_succ, List.set_cons_zero]
              refine wq_val (o := ⟨some 95, _, _, _, _, _⟩) (v := .bool false) rfl (fun w' hC => by go_simp) ?_
              simp only [Act.put, List.setIfInBounds_toArray, List.set_cons_succ, List.set_cons_zero]
              refine wq_val (o := ⟨some 96, _, _, _, _, _⟩) (v := .bool false) rfl (fun w' hC => by go_simp) ?_
              simp only [Act.put, List.setIfInBounds_toArray, List.set_cons_succ, List.set_cons_zero]
              refine wq_val (o := ⟨some 97, _, _, _, _, _⟩) (v := .bool false) rfl (fun w' hC => by go_simp) ?_
              simp only [Act.put, List.setIfInBounds_toArray, List.set_cons_succ, List.set_cons_zero]
              refine wq_val (o := ⟨some 98, _, _, _, _, _⟩) (v := .bool true) rfl (fun w' hC => by go_simp) ?_
              simp only [Act.put, List.setIfInBounds_toArray, List.set_cons_succ, List.set_cons_zero]
              refine wq_val (o := ⟨some 99, _, _, _, _, _⟩) (v := .bool false) rfl (fun w' hC => by go_simp) ?_
              simp only [Act.put, List.setIfInBounds_toArray, List.set_cons_succ, List.set_cons_zero]
              refine wq_val (o := ⟨some 100, _, _, _, _, _⟩) (v := .bool false) rfl (fun w' hC => by go_simp) ?_
              simp only [Act.put, List.setIfInBounds_toArray, List.set_cons_succ, List.set_cons_zero]
              go_big_quiet_step (fail)
              go_big_quiet_step (fail)
              go_big_quiet_step (fail)
              refine wq_val (o := ⟨some 104, _, _, _, _, _⟩) (v := .bool false) rfl (fun w' hC => by go_simp) ?_
              simp only [Act.put, List.setIfInBounds_toArray, List.set_cons_succ, List.set_cons_zero]
              refine wq_val (o := ⟨some 105, _, _, _, _, _⟩) (v := .bool false) rfl (fun w' hC => by go_simp) ?_
              simp only [Act.put, List.setIfInBounds_toArray, List.set_cons_succ, List.set_cons_zero]
              refine wpQuiet_nil ?_
              intro w10 hC10
              have hb10 := gt H6.out.1 hC10
              have e1 : w10.cell? ⟨wr.heap.size, 0, none⟩ = some (.int .i64 2) := (H6.out.2.2.2.grow hC10).cell 0
              go_wp2_with (first
                | (fail))
              go_roundw
              case rel => exact ⟨k + 1, Q.out.2.2.1, by go_num, ⟨v, es, L, nx, u, Q.out.1.grow hb10, fun j hj => ⟨Nat.le_succ_of_le (Q.out.2.1 j hj).1, Nat.le_succ_of_le (Q.out.2.1 j hj).2⟩⟩⟩
              case measure => exact meas_in Q.out.2.2.1
          · by_cases k3 : s1 = 3
            · subst k3
              go_wp2_with (first
                | (go_at_call 12
                   go_must (refine (C.out.1 _).mono ?_)
                   rintro e w4 ⟨rfl, hb4⟩
                   have hb4' := gt (ga (gr wr) (.cells #[.int .i64 3, .int .i64 s2, .int .i64 s3] 28)) hb4
                   have cR := C.out.2.2.1 w4 hb4'
                   have cB := C.out.2.2.2.1 w4 hb4'
                   have sb4 := C.out.2.2.2.2.grow hb4)
                | (go_at_call 13
                   go_must (refine (C.out.2.1 _ hb4').mono ?_)
                   rintro e w5 ⟨rfl, hb5⟩
                   have hb5' := gt hb4' hb5
                   clear cR cB
                   have cR := C.out.2.2.1 w5 hb5'
                   have cB := C.out.2.2.2.1 w5 hb5'
                   have sb5 := sb4.grow hb5
                   have e1 : w5.cell? ⟨wr.heap.size, 0, none⟩ = some (.int .i64 3) := sb5.cell 0
                   have e2 : w5.cell? ⟨wr.heap.size, 1, none⟩ = some (.int .i64 s2) := sb5.cell 1
                   have e3 : w5.cell? ⟨wr.heap.size, 2, none⟩ = some (.int .i64 s3) := sb5.cell 2))
              try simp only [Act.put, List.setIfInBounds_toArray, List.set_cons_succ, List.set_cons_zero]
              refine wp_region_qb (by kernel_rfl) (by kernel_rfl) ?_
              refine wq_val (o := ⟨some 124, _, _, _, _, _⟩) (v := .pointer (some ⟨p i, 0, none⟩)) rfl (fun w' hC => by go_simp) ?_
              simp only [Act.put, List.setIfInBounds_toArray, List.set_cons_succ, List.set_cons_zero]
              refine wq_call (f := 19) (args := #[.pointer (some ⟨p i, 0, none⟩)]) (v := .int .i64 nu) rfl (fun w' _ => by go_simp) (fun w' hC => ?_) ?_
              · have h := (Q.out.1.grow (gt hb5' hC)).len Q.out.2.2.2.1
                rw [← Q.out.2.2.2.2.2.1] at h
                exact h
              simp only [Act.put, List.setIfInBounds_toArray, List.set_cons_succ, List.set_cons_zero]
              refine wq_val (o := ⟨some 126, _, _, _, _, _⟩) (v := .slice (some ⟨bk, 0, none⟩) 4 4) rfl (fun w' hC => by go_simp) ?_
              simp only [Act.put, List.setIfInBounds_toArray, List.set_cons_succ, List.set_cons_zero]
              refine wq_val (o := ⟨some 127, _, _, _, _, _⟩) (v := .int .i64 i) rfl (fun w' hC => by go_simp) ?_
              simp only [Act.put, List.setIfInBounds_toArray, List.set_cons_succ, List.set_cons_zero]
              refine wq_val (o := ⟨some 128, _, _, _, _, _⟩) (v := .pointer (some ⟨bk, i, none⟩)) rfl (fun w' hC => by go_simp) ?_
              simp only [Act.put, List.setIfInBounds_toArray, List.set_cons_succ, List.set_cons_zero]
              refine wq_val (o := ⟨some 129, _, _, _, _, _⟩) (v := .slice Au nu cu) rfl (fun w' hC => by have c1 := C.out.2.2.2.1 w' (gt hb5' hC); go_simp) ?_
              simp only [Act.put, List.setIfInBounds_toArray, List.set_cons_succ, List.set_cons_zero]
              refine wq_val (o := ⟨some 130, _, _, _, _, _⟩) (v := .int .i64 nu) rfl (fun w' hC => by go_simp) ?_
              simp only [Act.put, List.setIfInBounds_toArray, List.set_cons_succ, List.set_cons_zero]
              refine wq_val (o := ⟨some 131, _, _, _, _, _⟩) (v := .bool false) rfl (fun w' hC => by go_simp) ?_
              simp only [Act.put, List.setIfInBounds_toArray, List.set_cons_succ, List.set_cons_zero]
              refine wpQuiet_nil ?_
              intro w8 hC8
              have hb8' := gt hb5' hC8
              go_wp2_with (first
                | (fail))
              go_roundw
              case rel => exact ⟨k + 1, Q.out.2.2.1, by go_num, ⟨v, es, L, nx, u, Q.out.1.grow hb8', fun j hj => ⟨Nat.le_succ_of_le (Q.out.2.1 j hj).1, Nat.le_succ_of_le (Q.out.2.1 j hj).2⟩⟩⟩
              case measure => exact meas_in Q.out.2.2.1
            · go_wp2_with (first
                | (go_at_call 12
                   go_must (refine (C.out.1 _).mono ?_)
                   rintro e w4 ⟨rfl, hb4⟩
                   have hb4' := gt (ga (gr wr) (.cells #[.int .i64 s1, .int .i64 s2, .int .i64 s3] 28)) hb4
                   have cR := C.out.2.2.1 w4 hb4'
                   have cB := C.out.2.2.2.1 w4 hb4'
                   have sb4 := C.out.2.2.2.2.grow hb4)
                | (go_at_call 13
                   go_must (refine (C.out.2.1 _ hb4').mono ?_)
                   rintro e w5 ⟨rfl, hb5⟩
                   have hb5' := gt hb4' hb5
                   clear cR cB
                   have cR := C.out.2.2.1 w5 hb5'
                   have cB := C.out.2.2.2.1 w5 hb5'
                   have sb5 := sb4.grow hb5
                   have e1 : w5.cell? ⟨wr.heap.size, 0, none⟩ = some (.int .i64 s1) := sb5.cell 0
                   have e2 : w5.cell? ⟨wr.heap.size, 1, none⟩ = some (.int .i64 s2) := sb5.cell 1
                   have e3 : w5.cell? ⟨wr.heap.size, 2, none⟩ = some (.int .i64 s3) := sb5.cell 2))
              go_roundw
              case rel => exact ⟨k + 1, Q.out.2.2.1, by go_num, ⟨v, es, L, nx, u, Q.out.1.grow hb5', fun j hj => ⟨Nat.le_succ_of_le (Q.out.2.1 j hj).1, Nat.le_succ_of_le (Q.out.2.1 j hj).2⟩⟩⟩
              case measure => exact meas_in Q.out.2.2.1
    · obtain rfl : n = k := by omega
      obtain ⟨v, es, L, nx, u, F, hbd⟩ := hs.fam
      have X := Lib.hid (And.intro F hbd)
      clear hs hk hlt F hbd
      rename World => W1
      go_wp2
      go_loopw [135] (fun v135 wr => ∃ j : Nat, j ≤ 4 ∧ v135 = .int .i64 j ∧ ∃ v es L2 nx, Fam (XR 4 R p) 4 H bk w1 flS p v es L2 nx u (fun i => (L i).map (·.1)) wr ∧ ∀ i, j ≤ i → i < 4 → L2 i = L i) (fun v _ => 4 - (intOf v).toNat)
      case atStart => exact ⟨0, by omega, rfl, v, es, L, nx, X.out.1, fun _ _ _ => rfl⟩
      case round =>
        obtain ⟨j, hj, rfl, v, es, L2, nx, F, hL⟩ := hrel
        by_cases hlt : j < 4
        · obtain ⟨Au, cu, hu, hcu⟩ := own_slice (F.row j hlt)
          obtain ⟨nu, hnu⟩ : ∃ nu, nu = (L j).length := ⟨_, rfl⟩
          rw [List.length_map, ← hnu] at hu hcu
          have rM : RV wr Au (((L j).map (·.1)).flatMap Itm.cells) := own_rvg (hu ▸ F.row j hlt)
          have cR : wr.cell? ⟨R, j, none⟩ = some (.pointer (some ⟨p j, 0, none⟩)) := by
            rw [(F.ex R _ _ ⟨rfl, rfl, rfl⟩).1.cell j]; simp [hlt]
          have cB : wr.cell? ⟨bk, j, none⟩ = some (.slice Au nu cu) := by
            rw [F.bks.cell j]; simp [hlt, hu]
          have cE := emptied_any (flS j) wr (F.pl j hlt) F.low F.hH (F.hp j hlt) (F.book j hlt) Au nu cu (by rw [hL j (Nat.le_refl j) hlt]; exact rM) (by rw [hL j (Nat.le_refl j) hlt]; exact hnu) hcu (by rw [hL j (Nat.le_refl j) hlt]; have := (X.out.2 j hlt).1; omega)
          have hki : (j : Int) < 4 := by omega
          have hk0 : (0 : Int) ≤ (j : Int) := by omega
          have q7 : wrap64 ((j : Int) + 1) = (j : Int) + 1 := wrap_in (by omega) (by omega)
          obtain ⟨ri, hri⟩ : ∃ ri : Int, ri = (j : Int) % 3 := ⟨_, rfl⟩
          have t1 : ((j : Int)).tmod 3 = ri := (Int.tmod_eq_emod_of_nonneg hk0).trans hri.symm
          have t2 : ((j : Int)) % 3 = ri := hri.symm
          have hfl : (ri == 2) = flS j := by unfold flS; rw [Bool.eq_iff_iff, beq_iff_eq, beq_iff_eq]; omega
          have hfl2 : decide (ri = 2) = flS j := by rw [← hfl]; rfl
          have Y := Lib.hid (And.intro F (And.intro hL (And.intro hlt cE)))
          clear F hL hlt hj hu hcu rM cE hri hnu
          go_wp2_with (go_at_call 20; go_must (refine Y.out.2.2.2.mono ?_); rintro e w4 ⟨rfl, v', hP, hg, hv⟩; have F4 := Y.out.1.step Y.out.2.2.1 hP (Book.nil _ _) hg (fun g hg' => .inl (by rw [← hv]; exact hg')); have X4 := Lib.hid F4; clear hP hg hv F4)
          go_roundw
          case rel => exact ⟨j + 1, Y.out.2.2.1, by go_num, _, _, _, _, X4.out, fun i h1 h2 => by rw [fupd_ne _ _ (by omega)]; exact Y.out.2.1 i (by omega) h2⟩
          case measure => exact meas_in Y.out.2.2.1
        · obtain rfl : j = 4 := by omega
          have Y := Lib.hid F
          clear F hL hlt hj
          go_wp2
          go_ret
          exact ⟨rfl, gt H3.out.2.1 (by rw [← H3.out.2.2]; exact Y.out.low)⟩
end Go.Proofs.Ytdebokambldbbaa.LawP
