/- weirlaw07.PileDrains: the walk, but the four ways that take things out: what these owe is G. -/
import Derived.Test.YtdebokambldbbaaPEmpt
import Derived.Test.YtdebokambldbbaaRgF
import Derived.Test.YtdebokambldbbaaBuildN
import Derived.Test.YtdebokambldbbaaOpenSt
import Derived.Deep.CutBlock
import Derived.Test.YtdebokambldbbaaPDrnd2
namespace Go.Proofs.Ytdebokambldbbaa.LawP
open Go.RowKit Go.Shelf Go.Proofs.Ytdebokambldbbaa.Mem Go.Proofs.Ytdebokambldbbaa.Heap Go.Proofs.Ytdebokambldbbaa.Pile Go.Proofs.Ytdebokambldbbaa.PileI
set_option linter.unusedVariables false
set_option linter.unusedSectionVars false
set_option linter.unusedSimpArgs false
set_option maxRecDepth 8000
set_option maxHeartbeats 12800000

theorem EIS2 : Elt Try.prog 26 32 [.slice none 0 0] 24 := Elt.mk1 Try.underlying26 (by kernel_rfl) rfl
theorem ESQ : Elt Try.prog 46 44 [.nilFunc] 8 := Elt.mk1 Try.underlying46 (by kernel_rfl) rfl
def clD (b : Nat) : Value := .func (.func 47) #[] #[.pointer (some ⟨b, 0, none⟩)]
/-- what stays beside the piles and the books: the row of piles, the row of held ranges, their boxes -/
def XD (R hd : Nat) (p q : Nat → Nat) (b : Nat) (T : TypeId) (cs : List Value) : Prop :=
  (b = R ∧ T = 30 ∧ cs = (List.range 3).map fun j => .pointer (some ⟨p j, 0, none⟩)) ∨ (b = hd ∧ T = 44 ∧ cs = (List.range 3).map fun j => clD (q j)) ∨ ∃ j, j < 3 ∧ b = q j ∧ T = 30 ∧ cs = [.pointer (some ⟨p j, 0, none⟩)]
theorem Fam.reX {X X' : Nat → TypeId → List Value → Prop} {N H bk : Nat} {W0 W : World} {fl : Nat → Bool} {p : Nat → Nat} {v : Nat → Value} {es L : Nat → List (Itm × Nat)} {nx : Nat → Nat} {u : Nat → Value} {M : Nat → List Itm}
    (F : Fam X N H bk W0 fl p v es L nx u M W) (h : ∀ b T cs, X' b T cs → Blk W b T cs ∧ XOk T) : Fam X' N H bk W0 fl p v es L nx u M W := { F with ex := h }
theorem Fam.eqM {X : Nat → TypeId → List Value → Prop} {N H bk : Nat} {W0 W : World} {fl : Nat → Bool} {p : Nat → Nat} {v : Nat → Value} {es L : Nat → List (Itm × Nat)} {nx : Nat → Nat} {u : Nat → Value} {M M' : Nat → List Itm}
    (F : Fam X N H bk W0 fl p v es L nx u M W) (h : M' = M) : Fam X N H bk W0 fl p v es L nx u M' W := h ▸ F
def flD (i : Nat) : Bool := i == 2
/-- the state of a script behind k steps -/
def SD3 (R hd H bk : Nat) (W0 : World) (p q : Nat → Nat) (k : Nat) (W : World) : Prop :=
  ∃ v es L nx u, Fam (XD R hd p q) 3 H bk W0 flD p v es L nx u (fun i => (L i).map (·.1)) W ∧ ∀ i, i < 3 → (L i).length ≤ k ∧ nx i ≤ k
theorem SD3.start {R hd : Nat} {p q : Nat → Nat} {W0 W w1 w : World} (s : PSt 3 R p 3 W0 W) (hb : Below W.heap.size W w1) (hB : Blk w1 W.heap.size 32 (List.replicate 3 (.slice none 0 0))) (hb1 : Below w1.heap.size w1 w) (hq : ∀ j, j < 3 → Blk w (q j) 30 [.pointer (some ⟨p j, 0, none⟩)])
    (hh : Blk w hd 44 ((List.range 3).map fun j => clD (q j))) : SD3 R hd W0.heap.size W.heap.size W0 p q 0 w := by
  have hbb := gt hb hb1
  refine ⟨fun _ => .slice none 0 0, fun _ => [], fun _ => [], fun _ => 0, fun _ => .slice none 0 0, ⟨fun i hi => ?_, fun i hi => Book.nil _ _, fun i hi => World.ownsRow_nil _ _ _ _, fun i hi => (s.pl i hi).1, s.pp, fun i j _ _ _ => Far.nil _ _ _, fun i j _ _ _ => Far.nil _ _ _, ?_, s.low.size, s.low.trans (hbb.mono s.low.size), Nat.le_refl _, ?_⟩, fun i hi => ⟨Nat.le_refl _, Nat.le_refl _⟩⟩
  · have h := (s.pl i hi).2.grow hbb
    have e : (i % 3 == 2) = flD i := by unfold flD; rw [Bool.eq_iff_iff, beq_iff_eq, beq_iff_eq]; omega
    rw [e] at h
    exact h
  · have e : ((List.range 3).map fun _ => Value.slice none 0 0) = List.replicate 3 (.slice none 0 0) := by rfl
    rw [e]; exact hB.grow hb1
  · rintro b T cs (⟨rfl, rfl, rfl⟩ | ⟨rfl, rfl, rfl⟩ | ⟨j, hj, rfl, rfl, rfl⟩)
    · refine ⟨?_, by unfold XOk; decide⟩
      have h := s.blk.grow hbb
      have e : ((List.range 3).map fun j => if j < 3 then Value.pointer (some ⟨p j, 0, none⟩) else .pointer none) = (List.range 3).map fun j => .pointer (some ⟨p j, 0, none⟩) := by
        apply List.map_congr_left
        intro j hj
        rw [if_pos (List.mem_range.1 hj)]
      rw [e] at h
      exact h
    · exact ⟨hh, by unfold XOk; decide⟩
    · exact ⟨hq j hj, by unfold XOk; decide⟩
theorem fupd_comp2 {α β : Type} (f : α → β) (g : Nat → α) (i : Nat) (x : α) : fupd (fun j => f (g j)) i (f x) = fun j => f (fupd g i x j) := by
  funext j
  unfold fupd
  split <;> rfl
theorem SD_booked {X : Nat → TypeId → List Value → Prop} {N H bk i : Nat} {W0 W w8 : World} {fl : Nat → Bool} {p : Nat → Nat} {v : Nat → Value} {es L : Nat → List (Itm × Nat)} {nx : Nat → Nat} {u : Nat → Value} {L' : List (Itm × Nat)} {va : Value}
    (F : Fam X N H bk W0 fl p v es (fupd L i L') nx u (fun j => (L j).map (·.1)) W) (hi : i < N)
    (ho : w8.ownsRow H 35 2 va (L'.map (·.1)).length ((L'.map (·.1)).flatMap Itm.cells)) (hg : Grown2 W w8 (some bk) (u i).ownBlock) (hk : Blk w8 bk 32 ((List.range N).map u)) (hv : ∀ g, va.ownBlock = some g → (u i).ownBlock = some g ∨ W.heap.size ≤ g) :
    Fam X N H bk W0 fl p v es (fupd L i L') nx (fupd u i va) (fun j => (fupd L i L' j).map (·.1)) (w8.setCell ⟨bk, i, none⟩ va) := by
  have h := F.put hi ho hg hv hk
  rwa [fupd_comp2 (fun l : List (Itm × Nat) => l.map (·.1)) L i L'] at h
/-- the books while the things that came are taken off -/
structure IL (X : Nat → TypeId → List Value → Prop) (H bk : Nat) (W0 : World) (p : Nat → Nat) (v : Nat → Value) (es L : Nat → List (Itm × Nat)) (nx : Nat → Nat) (M : Nat → List Itm) (i Hr r sbn : Nat) (vr : Value) (d : List Itm) (scs : List Value) (l : List Itm) (u : Nat → Value) (W : World) : Prop where
  fam : Fam X 3 H bk W0 flD p v es L nx u (fupd M i l) W
  far : ∀ j, j < 3 → Far (u j) vr
  row : W.ownsRow Hr 35 2 vr r (d.flatMap Itm.cells)
  sb : Blk W sbn 28 scs
theorem IL.grow {X : Nat → TypeId → List Value → Prop} {H bk : Nat} {W0 W W' : World} {p : Nat → Nat} {v : Nat → Value} {es L : Nat → List (Itm × Nat)} {nx : Nat → Nat} {M : Nat → List Itm} {i Hr r sbn : Nat} {vr : Value} {d : List Itm} {scs : List Value} {l : List Itm} {u : Nat → Value}
    (s : IL X H bk W0 p v es L nx M i Hr r sbn vr d scs l u W) (hb : Below W.heap.size W W') : IL X H bk W0 p v es L nx M i Hr r sbn vr d scs l u W' := ⟨s.fam.grow hb, s.far, own_below' s.row hb, s.sb.grow hb⟩
theorem IL.put {X : Nat → TypeId → List Value → Prop} {H bk : Nat} {W0 W w1 : World} {p : Nat → Nat} {v : Nat → Value} {es L : Nat → List (Itm × Nat)} {nx : Nat → Nat} {M : Nat → List Itm} {i Hr r sbn : Nat} {vr : Value} {d : List Itm} {scs : List Value} {l l' : List Itm} {u : Nat → Value} {u' : Value}
    (s : IL X H bk W0 p v es L nx M i Hr r sbn vr d scs l u W) (hi : i < 3) (ho : w1.ownsRow H 35 2 u' l'.length (l'.flatMap Itm.cells)) (hg : Grown2 W w1 (some bk) (u i).ownBlock) (hu : ∀ g, u'.ownBlock = some g → (u i).ownBlock = some g ∨ W.heap.size ≤ g) (hk : Blk w1 bk 32 ((List.range 3).map u)) :
    IL X H bk W0 p v es L nx M i Hr r sbn vr d scs l' (fupd u i u') (w1.setCell ⟨bk, i, none⟩ u') := by
  have hvr : vr.ownBlock ≠ some bk := own_ne_blk s.row s.fam.bks (by decide)
  have hr1 := hg.own s.row (.inr hvr) (s.far i hi).ne
  have hs1 := hg.blk s.sb (fun e => blk_ne_blk s.sb s.fam.bks (by decide) (by injection e)) (fun e => own_ne_blk (s.fam.row i hi) s.sb (by decide) e.symm)
  refine ⟨?_, fun j hj => ?_, own_far hr1 hvr _, hs1.far (blk_ne_blk hs1 hk (by decide)) _⟩
  · have h := s.fam.put hi ho hg hu hk
    rwa [fupd_fupd] at h
  · by_cases e : j = i
    · subst e
      rw [fupd_same]
      intro g hg' hv'
      rcases hu g hg' with h | h
      · exact s.far j hj g h hv'
      · have := (s.row.lt g hv').2; omega
    · rw [fupd_ne _ _ e]; exact s.far j hj
theorem dsO_at {lt : Itm → Itm → Bool} {more : Bool} {late : Itm} {L : List (Itm × Nat)} {nx r j : Nat} (h : j < (dsO lt more late L nx r).length) : (dsO lt more late L nx r)[j] = dsX lt more late L nx j := by simp only [dsO, List.getElem_map, List.getElem_range]
theorem own_rvg2 {w : World} {B n n' c size : Nat} {T : TypeId} {A : Option Addr} {xs : List Value} (h : w.ownsRow B T size (.slice A n' c) n xs) : RV w A xs := by
  obtain ⟨A', n2, c2, hv, rfl⟩ := own_form h
  injection hv with h1 h2 h3
  obtain rfl : n' = n2 := by omega
  exact own_rv h
noncomputable def drA : {G : Prop × Prop × Prop × Prop // (Unit → G.1) → (Unit → G.2.1) → (Unit → G.2.2.1) → (Unit → G.2.2.2) → ∀ (A0 : Option Addr) (n c : Nat) (l : List Stp) (W : World) (hr : RV W A0 (l.flatMap Stp.cells)) (hn : n = l.length) (hl : l.length ≤ 1048576) (hok : ∀ r ∈ l, r.ok),
    Calls Try.prog 4 #[.slice A0 n c] W fun e W' => e = .returned (.bool true) ∧ Below W.heap.size W W'} := ⟨(_, _, _, _), fun T1 T3 T4 T5 => by
  intro A0 n c l W hr hn hl hok
  have hnb : n ≤ 1048576 := by omega
  have H0 := Lib.hid (And.intro hr (And.intro hn hok))
  clear hr hn hl hok
  go_enter Try.func4, Try.ntmps4
  go_wp2_with (first
    | (go_at_call 10; go_must (refine (awake_any W).mono ?_); rintro e w1 ⟨rfl, hb1⟩)
    | (go_at_call 11; go_must (refine (piles_any 3 (by omega) w1).mono ?_); rintro e w2 ⟨R, p, rfl, hp2⟩)
    | ((with_reducible show wpList _ _ _ (⟨some 19, _, _, _, _, _⟩ :: _) _ _); go_must (refine wpList_make1 EIS2 (o := ⟨some 19, _, _, _, _, _⟩) rfl _ _ rfl .i64 .i64 _ _ 3 rfl rfl rfl rfl (by omega) (by decide) _ rfl ?_); intro w3 hB3 hb3 hz3))
  have cR : ∀ w, Below w3.heap.size w3 w → ∀ j, j < 3 → w.cell? ⟨R, j, none⟩ = some (.pointer (some ⟨p j, 0, none⟩)) := fun w hb j hj => by
    rw [(hp2.blk.grow (gt hb3 hb)).cell j]; simp [hj]
  have CR := Lib.hid cR
  have X3 := Lib.hid (And.intro hp2 (And.intro hb1 (And.intro hb3 hB3)))
  obtain ⟨bk, hbk⟩ : ∃ bk, bk = w2.heap.size := ⟨_, rfl⟩
  simp only [← hbk]
  have HBK := Lib.hid hbk
  clear cR hp2 hb1 hb3 hB3 hz3 hbk
  try simp only [Act.put, List.setIfInBounds_toArray, List.set_cons_succ, List.set_cons_zero]
  refine wp_region_rrT (fun a b => Below a.heap.size a b) (fun _ _ _ h g => gt h g) (fun _ _ h => h.size) (fun a => (gr a).drew) 12
    [.eq 20 (.slice (some ⟨R, 0, none⟩) 3 3), .eq 21 (.pointer (some ⟨R, 0, none⟩)), .eq 22 (.pointer (some ⟨p 0, 0, none⟩)), .one 23 (fun v W => ∃ b, v = clD b ∧ Blk W b 30 [.pointer (some ⟨p 0, 0, none⟩)]), .eq 24 (.slice (some ⟨R, 0, none⟩) 3 3), .eq 25 (.pointer (some ⟨R, 1, none⟩)), .eq 26 (.pointer (some ⟨p 1, 0, none⟩)), .one 27 (fun v W => ∃ b, v = clD b ∧ Blk W b 30 [.pointer (some ⟨p 1, 0, none⟩)]), .eq 28 (.slice (some ⟨R, 0, none⟩) 3 3), .eq 29 (.pointer (some ⟨R, 2, none⟩)), .eq 30 (.pointer (some ⟨p 2, 0, none⟩)), .one 31 (fun v W => ∃ b, v = clD b ∧ Blk W b 30 [.pointer (some ⟨p 2, 0, none⟩)])]
    (by kernel_rfl) (by kernel_rfl) (by kernel_rfl) (by kernel_rfl) ?hsth ?hobh ?hfinh
  case hsth =>
    intro s hs
    simp only [List.mem_cons, List.not_mem_nil, or_false] at hs
    rcases hs with rfl | rfl | rfl | rfl | rfl | rfl | rfl | rfl | rfl | rfl | rfl | rfl
    · exact fun _ _ _ h _ => h
    · exact fun _ _ _ h _ => h
    · exact fun _ _ _ h _ => h
    · rintro vs w1 w2 ⟨v, rfl, h⟩ hb
      exact ⟨_, rfl, (fun ⟨b, e, h⟩ hb => ⟨b, e, h.grow hb⟩) h hb⟩
    · exact fun _ _ _ h _ => h
    · exact fun _ _ _ h _ => h
    · exact fun _ _ _ h _ => h
    · rintro vs w1 w2 ⟨v, rfl, h⟩ hb
      exact ⟨_, rfl, (fun ⟨b, e, h⟩ hb => ⟨b, e, h.grow hb⟩) h hb⟩
    · exact fun _ _ _ h _ => h
    · exact fun _ _ _ h _ => h
    · exact fun _ _ _ h _ => h
    · rintro vs w1 w2 ⟨v, rfl, h⟩ hb
      exact ⟨_, rfl, (fun ⟨b, e, h⟩ hb => ⟨b, e, h.grow hb⟩) h hb⟩
  case hobh =>
    simp only [List.take_succ_cons, List.take_zero]
    refine rrs_cons ?_ (rrs_cons ?_ (rrs_cons ?_ (rrs_cons ?_ (rrs_cons ?_ (rrs_cons ?_ (rrs_cons ?_ (rrs_cons ?_ (rrs_cons ?_ (rrs_cons ?_ (rrs_cons ?_ (rrs_cons ?_ rrs_nil)))))))))))
    · refine rr_eq gr (by decide) (by rfl) (by rfl) fun x w' A hg hp hA => ?_
      have e3 := hA 3
      simp [rgDsts] at e3
      go_simp
    · refine rr_eq gr (by decide) (by rfl) (by rfl) fun x w' A hg hp hA => ?_
      have h20 := rg_pred_eq (d := 20) hp 0 rfl rfl rfl
      have e20 := (hA.at_ 20 rfl).trans h20
      go_simp
    · refine rr_eq gr (by decide) (by rfl) (by rfl) fun x w' A hg hp hA => ?_
      have h21 := rg_pred_eq (d := 21) hp 0 rfl rfl rfl
      have e21 := (hA.at_ 21 rfl).trans h21
      have c1 := CR.out w' hg 0 (by omega)
      go_simp
    · refine rr_call (by decide) (by rfl) fun x w' A hg hp hA => ?_
      have h22 := rg_pred_eq (d := 22) hp 0 rfl rfl rfl
      have e22 := (hA.at_ 22 rfl).trans h22
      refine ⟨21, #[.pointer (some ⟨p 0, 0, none⟩)], ?_, ?_⟩
      · go_simp
      · refine (drain_any w' _ ⟨_, rfl⟩).mono ?_
        rintro e w'' ⟨rfl, hbx, rfl⟩
        exact ⟨_, rfl, ga (gr _) _, ⟨_, rfl, w'.heap.size, by simp [rgUpd, clD], hbx⟩, by simp⟩
    · refine rr_eq gr (by decide) (by rfl) (by rfl) fun x w' A hg hp hA => ?_
      have e3 := hA 3
      simp [rgDsts] at e3
      go_simp
    · refine rr_eq gr (by decide) (by rfl) (by rfl) fun x w' A hg hp hA => ?_
      have h24 := rg_pred_eq (d := 24) hp 0 rfl rfl rfl
      have e24 := (hA.at_ 24 rfl).trans h24
      go_simp
    · refine rr_eq gr (by decide) (by rfl) (by rfl) fun x w' A hg hp hA => ?_
      have h25 := rg_pred_eq (d := 25) hp 0 rfl rfl rfl
      have e25 := (hA.at_ 25 rfl).trans h25
      have c1 := CR.out w' hg 1 (by omega)
      go_simp
    · refine rr_call (by decide) (by rfl) fun x w' A hg hp hA => ?_
      have h26 := rg_pred_eq (d := 26) hp 0 rfl rfl rfl
      have h23 := rg_pred_one (d := 23) hp 1 rfl rfl rfl
      have e26 := (hA.at_ 26 rfl).trans h26
      refine ⟨21, #[.pointer (some ⟨p 1, 0, none⟩)], ?_, ?_⟩
      · go_simp
      · refine (drain_any w' _ ⟨_, rfl⟩).mono ?_
        rintro e w'' ⟨rfl, hbx, rfl⟩
        exact ⟨_, rfl, ga (gr _) _, ⟨_, rfl, w'.heap.size, by simp [rgUpd, clD], hbx⟩, by simp⟩
    · refine rr_eq gr (by decide) (by rfl) (by rfl) fun x w' A hg hp hA => ?_
      have e3 := hA 3
      simp [rgDsts] at e3
      go_simp
    · refine rr_eq gr (by decide) (by rfl) (by rfl) fun x w' A hg hp hA => ?_
      have h28 := rg_pred_eq (d := 28) hp 0 rfl rfl rfl
      have e28 := (hA.at_ 28 rfl).trans h28
      go_simp
    · refine rr_eq gr (by decide) (by rfl) (by rfl) fun x w' A hg hp hA => ?_
      have h29 := rg_pred_eq (d := 29) hp 0 rfl rfl rfl
      have e29 := (hA.at_ 29 rfl).trans h29
      have c1 := CR.out w' hg 2 (by omega)
      go_simp
    · refine rr_call (by decide) (by rfl) fun x w' A hg hp hA => ?_
      have h30 := rg_pred_eq (d := 30) hp 0 rfl rfl rfl
      have h27 := rg_pred_one (d := 27) hp 1 rfl rfl rfl
      have e30 := (hA.at_ 30 rfl).trans h30
      refine ⟨21, #[.pointer (some ⟨p 2, 0, none⟩)], ?_, ?_⟩
      · go_simp
      · refine (drain_any w' _ ⟨_, rfl⟩).mono ?_
        rintro e w'' ⟨rfl, hbx, rfl⟩
        exact ⟨_, rfl, ga (gr _) _, ⟨_, rfl, w'.heap.size, by simp [rgUpd, clD], hbx⟩, by simp⟩
  case hfinh =>
  intro x w5 hg hall hap
  simp only [RgAll, holds_eq, holds_new, holds_one, and_true] at hall
  obtain ⟨h20, h21, h22, h23, h24, h25, h26, h27, h28, h29, h30, h31⟩ := hall
  obtain ⟨q0, h23, hq0⟩ := h23
  obtain ⟨q1, h27, hq1⟩ := h27
  obtain ⟨q2, h31, hq2⟩ := h31
  simp only [rgDsts, List.take_succ_cons, List.take_zero, List.filterMap_cons, List.filterMap_nil, putMany, List.foldl_cons, List.foldl_nil, List.setIfInBounds_toArray, List.set_cons_succ, List.set_cons_zero, List.drop_succ_cons, List.drop_zero, h20, h21, h22, h24, h25, h26, h28, h29, h30, h23, h27, h31]
  clear h20 h21 h22 h24 h25 h26 h28 h29 h30 h23 h27 h31
  go_wp2_with (first
    | ((with_reducible show wpList _ _ _ (⟨some 32, _, _, _, _, _⟩ :: _) _ _)
       go_must (refine wpList_new (cs := [clD q0, clD q1, clD q2]) (o := ⟨some 32, _, _, _, _, _⟩) rfl (run_build3 ESQ (.tmp 23) (.tmp 27) (.tmp 31) rfl (by decide) [clD q0] [clD q1] [clD q2] rfl rfl rfl rfl rfl rfl) ?_)
       intro w6 hB6 hb6 hz6))
  obtain ⟨hp2, hb1, hb3, hB3⟩ := X3.out
  have hs := SD3.start (hd := w5.heap.size) (q := fun j => if j = 0 then q0 else if j = 1 then q1 else q2) hp2 hb3 hB3 (gt hg hb6) (fun j hj => by
    rcases (show j = 0 ∨ j = 1 ∨ j = 2 by omega) with rfl | rfl | rfl
    · exact hq0.grow hb6
    · exact hq1.grow hb6
    · exact hq2.grow hb6) hB6
  rw [← HBK.out] at hs
  obtain ⟨hd, hhd⟩ : ∃ hd, hd = w5.heap.size := ⟨_, rfl⟩
  obtain ⟨H, hH⟩ : ∃ H, H = w1.heap.size := ⟨_, rfl⟩
  obtain ⟨q, hq⟩ : ∃ q : Nat → Nat, q = fun j => if j = 0 then q0 else if j = 1 then q1 else q2 := ⟨_, rfl⟩
  simp only [← hhd]
  rw [← hhd, ← hH, ← hq] at hs
  have H3 := Lib.hid (And.intro hs (And.intro hb1 hH))
  clear hs hp2 hb1 hb3 hB3 hhd hH hq hg hap hB6 hb6 hz6 hq0 hq1 hq2 CR X3
  go_loopw [35] (fun v35 wr => ∃ k : Nat, k ≤ n ∧ v35 = .int .i64 k ∧ SD3 R hd H bk w1 p q k wr) (fun v _ => n - (intOf v).toNat)
  case atStart => exact ⟨0, Nat.zero_le _, rfl, H3.out.1⟩
  case round =>
    obtain ⟨k, hk, rfl, v, es, L, nx, u, F, hbd⟩ := hrel
    by_cases hlt : k < n
    · have hle : w1.heap.size ≤ wr.heap.size := F.low.size
      have hbW : Below W.heap.size W wr := gt H3.out.2.1 (by rw [← H3.out.2.2]; exact F.low)
      have hkl : k < l.length := by rw [← H0.out.2.1]; exact hlt
      obtain ⟨ad, rfl, c1, c2, c3⟩ := step_at (H0.out.1.below hbW) hkl
      obtain ⟨x, hx⟩ : ∃ x, x = l[k] := ⟨_, rfl⟩
      have hxo : x.ok := by rw [hx]; exact H0.out.2.2 _ (List.getElem_mem hkl)
      rw [← hx] at c1 c2 c3
      obtain ⟨s1, s2, s3⟩ := x
      simp only at c1 c2 c3
      obtain ⟨i, hie⟩ : ∃ i, i = plN s2 3 := ⟨_, rfl⟩
      have hi : i < 3 := by rw [hie]; exact plN_lt _ (by omega)
      have cPl : ∀ w, Calls Try.prog 12 #[.int .i64 s2, .int .i64 3] w fun e W' => e = .returned (.int .i64 i) ∧ Below w.heap.size w W' := fun w => by
        rw [hie]; exact place_any s2 3 (by omega) hxo.2.1 w
      obtain ⟨Au, cu, hu, hcu⟩ := own_slice (F.row i hi)
      obtain ⟨nu, hnu⟩ : ∃ nu, nu = (L i).length := ⟨_, rfl⟩
      rw [List.length_map, ← hnu] at hu hcu
      have hnk : nu ≤ k := by rw [hnu]; exact (hbd i hi).1
      have rM : RV wr Au (((L i).map (·.1)).flatMap Itm.cells) := own_rvg2 (hu ▸ F.row i hi)
      have cR : ∀ w, Below wr.heap.size wr w → w.cell? ⟨R, i, none⟩ = some (.pointer (some ⟨p i, 0, none⟩)) := fun w hb => by
        rw [((F.ex R _ _ (.inl ⟨rfl, rfl, rfl⟩)).1.grow hb).cell i]; simp [hi]
      have cH : ∀ w, Below wr.heap.size wr w → w.cell? ⟨hd, i, none⟩ = some (clD (q i)) := fun w hb => by
        rw [((F.ex hd _ _ (.inr (.inl ⟨rfl, rfl, rfl⟩))).1.grow hb).cell i]; simp [hi]
      have cB : ∀ w, Below wr.heap.size wr w → w.cell? ⟨bk, i, none⟩ = some (.slice Au nu cu) := fun w hb => by
        rw [(F.bks.grow hb).cell i]; simp [hi, hu]
      have hki : (k : Int) < (n : Int) := by omega
      have hk0 : (0 : Int) ≤ (k : Int) := by omega
      have hi0 : (0 : Int) ≤ (i : Int) := by omega
      have hi4 : (i : Int) < 3 := by omega
      have hfl : ((i : Int) == 2) = flD i := by unfold flD; rw [Bool.eq_iff_iff, beq_iff_eq, beq_iff_eq]; omega
      have hfl2 : decide ((i : Int) = 2) = flD i := by rw [← hfl]; rfl
      have sb : Blk (wr.alloc (.cells #[.int .i64 s1, .int .i64 s2, .int .i64 s3] 28)) wr.heap.size 28 [.int .i64 s1, .int .i64 s2, .int .i64 s3] := Blk.new wr _ [_, _, _]
      have C := Lib.hid (And.intro cPl (And.intro cR (And.intro cH (And.intro cB sb))))
      have Q := Lib.hid (And.intro F (And.intro hbd (And.intro hlt (And.intro hi (And.intro hu (And.intro hnu (And.intro hnk (And.intro hcu (And.intro hxo rM)))))))))
      have HFL := Lib.hid (And.intro hfl hfl2)
      clear cPl cR cH cB sb F hbd hlt hi hu hnu hnk hcu hxo rM hk hle hbW hkl hx hie hfl hfl2
      by_cases k0 : s1 = 0
      · subst k0
        have cPu : ∀ w, Below wr.heap.size wr w → Calls Try.prog 14 #[.pointer (some ⟨p i, 0, none⟩), .agg #[.int .i64 s3, .int .i64 k]] w _ := fun w hb => (Q.out.1.grow hb).push Q.out.2.2.2.1 (s3, (k : Int)) (by have := (Q.out.2.1 i Q.out.2.2.2.1).2; omega) (by rw [(Q.out.1.book i Q.out.2.2.2.1).len]; have := (Q.out.2.1 i Q.out.2.2.2.1).1; omega)
        have P := Lib.hid cPu
        clear cPu
        have HB : Hid (∀ j, j < 3 → (fupd L i (L i ++ [((s3, (k : Int)), nx i)]) j).length ≤ k + 1 ∧ fupd nx i (nx i + 1) j ≤ k + 1) := Lib.hid (fun j hj => by
          have h1 := Q.out.2.1 j hj
          by_cases e : j = i
          · subst e; rw [fupd_same, fupd_same, List.length_append]; simp only [List.length_cons, List.length_nil]; omega
          · rw [fupd_ne _ _ e, fupd_ne _ _ e]; omega)
        go_wp2_with (first
          | (go_at_call 12
             go_must (refine (C.out.1 _).mono ?_)
             rintro e w4 ⟨rfl, hb4⟩
             have hb4' := gt (ga (gr wr) (.cells #[.int .i64 0, .int .i64 s2, .int .i64 s3] 28)) hb4
             have cR := C.out.2.1 w4 hb4'
             have cH := C.out.2.2.1 w4 hb4'
             have cB := C.out.2.2.2.1 w4 hb4'
             have sb4 := C.out.2.2.2.2.grow hb4
             have e1 : w4.cell? ⟨wr.heap.size, 0, none⟩ = some (.int .i64 0) := sb4.cell 0
             have e2 : w4.cell? ⟨wr.heap.size, 1, none⟩ = some (.int .i64 s2) := sb4.cell 1
             have e3 : w4.cell? ⟨wr.heap.size, 2, none⟩ = some (.int .i64 s3) := sb4.cell 2))
        try simp only [Act.put, List.setIfInBounds_toArray, List.set_cons_succ, List.set_cons_zero]
        refine wp_region_qbT 8 (by kernel_rfl) (by kernel_rfl) ?_
        simp only [List.take_succ_cons, List.take_zero, List.drop_succ_cons, List.drop_zero]
        refine wq_val (o := ⟨some 48, _, _, _, _, _⟩) (v := .slice (some ⟨R, 0, none⟩) 3 3) rfl (fun w' hC => by go_simp) ?_
        simp only [Act.put, List.setIfInBounds_toArray, List.set_cons_succ, List.set_cons_zero]
        refine wq_val (o := ⟨some 49, _, _, _, _, _⟩) (v := .int .i64 i) rfl (fun w' hC => by go_simp) ?_
        simp only [Act.put, List.setIfInBounds_toArray, List.set_cons_succ, List.set_cons_zero]
        refine wq_val (o := ⟨some 50, _, _, _, _, _⟩) (v := .pointer (some ⟨R, i, none⟩)) rfl (fun w' hC => by go_simp) ?_
        simp only [Act.put, List.setIfInBounds_toArray, List.set_cons_succ, List.set_cons_zero]
        refine wq_val (o := ⟨some 51, _, _, _, _, _⟩) (v := .pointer (some ⟨p i, 0, none⟩)) rfl (fun w' hC => by have c1 := C.out.2.1 w' (gt hb4' hC); go_simp) ?_
        simp only [Act.put, List.setIfInBounds_toArray, List.set_cons_succ, List.set_cons_zero]
        refine wq_val (o := ⟨some 52, _, _, _, _, _⟩) (v := .pointer (some ⟨wr.heap.size, 2, none⟩)) rfl (fun w' hC => by go_simp) ?_
        simp only [Act.put, List.setIfInBounds_toArray, List.set_cons_succ, List.set_cons_zero]
        refine wq_val (o := ⟨some 53, _, _, _, _, _⟩) (v := .int .i64 s3) rfl (fun w' hC => by have c1 : w'.cell? ⟨wr.heap.size, 2, none⟩ = some (.int .i64 s3) := (sb4.grow hC).cell 2; go_simp) ?_
        simp only [Act.put, List.setIfInBounds_toArray, List.set_cons_succ, List.set_cons_zero]
        refine wq_val (o := ⟨some 54, _, _, _, _, _⟩) (v := .int .i64 k) rfl (fun w' hC => by go_simp) ?_
        simp only [Act.put, List.setIfInBounds_toArray, List.set_cons_succ, List.set_cons_zero]
        refine wq_call (f := 15) (args := #[.int .i64 s3, .int .i64 k]) (v := .agg #[.int .i64 s3, .int .i64 k]) rfl (fun w' _ => by go_simp) (fun w' hC => ?_) ?_
        · exact it_any s3 k w'
        simp only [Act.put, List.setIfInBounds_toArray, List.set_cons_succ, List.set_cons_zero]
        refine wpQuiet_nil ?_
        intro w5 hC5
        have hb5' := gt hb4' hC5
        have sb5 := sb4.grow hC5
        clear cR cH cB e1 e2 e3 c1 c2 c3
        go_wp2_with (first
          | (go_at_call 14
             go_must (refine (P.out _ hb5').mono ?_)
             rintro e w6 ⟨⟨r6, rfl⟩, v6, F6, hg6⟩))
        have sb6 := (Q.out.1.grow hb5').side Q.out.2.2.2.1 hg6 sb5 (by decide) (by decide)
        have cB : ∀ w, Below w6.heap.size w6 w → w.cell? ⟨bk, i, none⟩ = some (.slice Au nu cu) := fun w hb => by rw [(F6.bks.grow hb).cell i]; simp [Q.out.2.2.2.1, Q.out.2.2.2.2.1]
        have cS : ∀ w, Below w6.heap.size w6 w → w.cell? ⟨wr.heap.size, 2, none⟩ = some (.int .i64 s3) := fun w hb => (sb6.grow hb).cell 2
        have X6 := Lib.hid (And.intro F6 (And.intro cB (And.intro cS hg6)))
        clear F6 cB cS sb6 hg6
        try simp only [Act.put, List.setIfInBounds_toArray, List.set_cons_succ, List.set_cons_zero]
        refine wp_region_rrF2 (fun a b => Below a.heap.size a b) (fun _ _ _ h g => gt h g) (fun _ _ h => h.size) (fun a => (gr a).drew) 0 57 (.slice (some ⟨bk, 0, none⟩) 3 3) 1 58 (.int .i64 (i : Int)) 11
          [.eq 57 (.slice (some ⟨bk, 0, none⟩) 3 3), .eq 58 (.int .i64 (i : Int)), .eq 59 (.slice (some ⟨bk, 0, none⟩) 3 3), .eq 60 (.int .i64 (i : Int)), .eq 61 (.pointer (some ⟨bk, i, none⟩)), .eq 62 (.slice Au nu cu), .eq 63 (.pointer (some ⟨wr.heap.size, 2, none⟩)), .eq 64 (.int .i64 s3), .eq 65 (.int .i64 (k : Int)), .eq 66 (.agg #[.int .i64 s3, .int .i64 (k : Int)]), .new 67 (NewRow w6.heap.size 35 [.int .i64 s3, .int .i64 (k : Int)] 1)]
          (by kernel_rfl) (by kernel_rfl) (by kernel_rfl) (by kernel_rfl) (by kernel_rfl) rfl rfl rfl (Nat.le_of_ble_eq_true rfl) (fun w => by go_simp) rfl (fun c a w h => h) rfl rfl rfl (Nat.le_of_ble_eq_true rfl) (fun w => by go_simp) rfl (fun c a w h => h) (by kernel_rfl) ?hsta ?hoba ?hfina
        case hsta =>
          intro s hs
          simp only [List.mem_cons, List.not_mem_nil, or_false] at hs
          rcases hs with rfl | rfl | rfl | rfl | rfl | rfl | rfl | rfl | rfl | rfl | rfl
          · exact fun _ _ _ h _ => h
          · exact fun _ _ _ h _ => h
          · exact fun _ _ _ h _ => h
          · exact fun _ _ _ h _ => h
          · exact fun _ _ _ h _ => h
          · exact fun _ _ _ h _ => h
          · exact fun _ _ _ h _ => h
          · exact fun _ _ _ h _ => h
          · exact fun _ _ _ h _ => h
          · exact fun _ _ _ h _ => h
          · rintro vs w1 w2 ⟨v, rfl, h⟩ hb
            exact ⟨_, rfl, NewRow.stable h hb⟩
        case hoba =>
          simp only [List.take_succ_cons, List.take_zero]
          refine rrs_cons ?_ (rrs_cons ?_ (rrs_cons ?_ (rrs_cons ?_ (rrs_cons ?_ (rrs_cons ?_ (rrs_cons ?_ (rrs_cons ?_ (rrs_cons ?_ (rrs_cons ?_ (rrs_cons ?_ rrs_nil))))))))))
          · refine rr_eq gr (by decide) (by rfl) (by rfl) fun x w' A hg hp hA => ?_
            have e4 := hA 4
            simp [rgDsts] at e4
            go_simp
          · refine rr_eq gr (by decide) (by rfl) (by rfl) fun x w' A hg hp hA => ?_
            have e8 := hA 8
            simp [rgDsts] at e8
            go_simp
          · refine rr_eq gr (by decide) (by rfl) (by rfl) fun x w' A hg hp hA => ?_
            have e4 := hA 4
            simp [rgDsts] at e4
            go_simp
          · refine rr_eq gr (by decide) (by rfl) (by rfl) fun x w' A hg hp hA => ?_
            have e8 := hA 8
            simp [rgDsts] at e8
            go_simp
          · refine rr_eq gr (by decide) (by rfl) (by rfl) fun x w' A hg hp hA => ?_
            have h59 := rg_pred_eq (d := 59) hp 0 rfl rfl rfl
            have h60 := rg_pred_eq (d := 60) hp 1 rfl rfl rfl
            have e59 := (hA.at_ 59 rfl).trans h59
            have e60 := (hA.at_ 60 rfl).trans h60
            go_simp
          · refine rr_eq gr (by decide) (by rfl) (by rfl) fun x w' A hg hp hA => ?_
            have h61 := rg_pred_eq (d := 61) hp 0 rfl rfl rfl
            have e61 := (hA.at_ 61 rfl).trans h61
            have c1 := X6.out.2.1 w' hg
            go_simp
          · refine rr_eq gr (by decide) (by rfl) (by rfl) fun x w' A hg hp hA => ?_
            have e7 := hA 7
            simp [rgDsts] at e7
            go_simp
          · refine rr_eq gr (by decide) (by rfl) (by rfl) fun x w' A hg hp hA => ?_
            have h63 := rg_pred_eq (d := 63) hp 0 rfl rfl rfl
            have e63 := (hA.at_ 63 rfl).trans h63
            have c1 := X6.out.2.2.1 w' hg
            go_simp
          · refine rr_eq gr (by decide) (by rfl) (by rfl) fun x w' A hg hp hA => ?_
            have e6 := hA 6
            simp [rgDsts] at e6
            go_simp
          · refine rr_call (by decide) (by rfl) fun x w' A hg hp hA => ?_
            have h64 := rg_pred_eq (d := 64) hp 0 rfl rfl rfl
            have h65 := rg_pred_eq (d := 65) hp 1 rfl rfl rfl
            have e64 := (hA.at_ 64 rfl).trans h64
            have e65 := (hA.at_ 65 rfl).trans h65
            refine ⟨15, #[.int .i64 s3, .int .i64 (k : Int)], ?_, ?_⟩
            · go_simp
            · refine (show Calls Try.prog 15 #[.int .i64 s3, .int .i64 (k : Int)] w' fun e w'' => e = .returned (.agg #[.int .i64 s3, .int .i64 (k : Int)]) ∧ Below w'.heap.size w' w'' from it_any s3 k w').mono ?_
              rintro e w'' ⟨rfl, hb⟩
              exact ⟨_, rfl, hb, by simp, by simp⟩
          · refine rr_build1 ET (by decide) rfl rfl (.tmp 66) rfl (by decide) ([.int .i64 s3, .int .i64 (k : Int)]) (by rfl) fun x w' A hg hp hA => ?_
            have h66 := rg_pred_eq (d := 66) hp 0 rfl rfl rfl
            have e66 := (hA.at_ 66 rfl).trans h66
            simp [Act.eval, e66, Value.cells, strV]
        case hfina =>
        intro x w7 hg hall hap
        simp only [RgAll, holds_eq, holds_new, holds_one, and_true] at hall
        obtain ⟨h57, h58, h59, h60, h61, h62, h63, h64, h65, h66, h67⟩ := hall
        obtain ⟨b67, h67, hb67, hB67⟩ := h67
        simp only [rgDsts, List.take_succ_cons, List.take_zero, List.filterMap_cons, List.filterMap_nil, putMany, List.foldl_cons, List.foldl_nil, List.setIfInBounds_toArray, List.set_cons_succ, List.set_cons_zero, List.drop_succ_cons, List.drop_zero, h57, h58, h59, h60, h61, h62, h63, h64, h65, h66, h67]
        clear h57 h58 h59 h60 h61 h62 h63 h64 h65 h66 h67
        have F7 := X6.out.1.grow hg
        have ho7 := F7.row i Q.out.2.2.2.1
        rw [Q.out.2.2.2.2.1, List.length_map, ← Q.out.2.2.2.2.2.1] at ho7
        have hk7 : k + 1 ≤ 1073741824 := by have := Q.out.2.2.1; omega
        have hnk := Q.out.2.2.2.2.2.2.1
        have X7 := Lib.hid (And.intro F7 (And.intro ho7 (And.intro hB67 (And.intro hk7 hnk))))
        clear F7 ho7 hg hap hB67 hk7 hnk
        go_wp2_with (first
          | ((with_reducible show wpList _ _ _ (⟨some 68, _, _, _, _, _⟩ :: _) _ _)
             go_must (refine wpList_app ET (o := ⟨some 68, _, _, _, _, _⟩) rfl (.tmp 62) (.tmp 67) rfl H (.slice Au nu cu) nu (((L i).map (·.1)).flatMap Itm.cells) rfl X7.out.2.1 (some ⟨b67, 0, none⟩) 1 1 [.int .i64 s3, .int .i64 k] rfl X7.out.2.2.1.rv rfl (fun u hu => thI.one (s3, (k : Int)) u hu) (by have h1 := X7.out.2.2.2.1; have h2 := X7.out.2.2.2.2; unfold maxLen; omega) (by have h1 := X7.out.2.2.2.1; have h2 := X7.out.2.2.2.2; omega) X7.out.1.le ?_)
             intro va w8 hov hg8 hv8
             obtain ⟨Av, nv, cv, rfl, hnv⟩ := own_form hov
             subst hnv
             have hB8 : Blk w8 bk 32 ((List.range 3).map u) := X7.out.1.bks.grown hg8 (fun e => own_ne_blk (X7.out.1.row i Q.out.2.2.2.1) X7.out.1.bks (by decide) (by rw [Q.out.2.2.2.2.1]; exact e.symm))
             have c8 : w8.cell? ⟨bk, i, none⟩ = some (.slice Au nu cu) := by rw [hB8.cell i]; simp [Q.out.2.2.2.1, Q.out.2.2.2.2.1]
             have f8 := hB8.frozen i
             have X8 := Lib.hid (And.intro hov (And.intro hg8 (And.intro hv8 hB8)))
             clear hov hg8 hv8 hB8))
        go_roundw
        case rel => exact ⟨k + 1, Q.out.2.2.1, by go_num, _, _, _, _, _, SD_booked X7.out.1 Q.out.2.2.2.1 (by rw [List.length_map, List.map_append, List.flatMap_append, List.length_append, ← Q.out.2.2.2.2.2.1]; exact X8.out.1) (by rw [Q.out.2.2.2.2.1]; exact Grown2.of_by X8.out.2.1) X8.out.2.2.2 (fun g hg' => by rw [Q.out.2.2.2.2.1]; exact X8.out.2.2.1.elim (fun e => .inl (e ▸ hg')) (fun e => .inr (by rw [e] at hg'; injection hg' with e'; omega))), HB.out⟩
        case measure => exact meas_in Q.out.2.2.1
      · by_cases k2 : s1 = 2
        · subst k2
          have cPu : ∀ w, Below wr.heap.size wr w → Calls Try.prog 14 #[.pointer (some ⟨p i, 0, none⟩), .agg #[.int .i64 s3, .int .i64 k]] w _ := fun w hb => (Q.out.1.grow hb).push Q.out.2.2.2.1 (s3, (k : Int)) (by have := (Q.out.2.1 i Q.out.2.2.2.1).2; omega) (by rw [(Q.out.1.book i Q.out.2.2.2.1).len]; have := (Q.out.2.1 i Q.out.2.2.2.1).1; omega)
          have P := Lib.hid cPu
          clear cPu
          have HB : Hid (∀ j, j < 3 → (fupd L i (L i ++ [((s3, (k : Int)), nx i)]) j).length ≤ k + 1 ∧ fupd nx i (nx i + 1) j ≤ k + 1) := Lib.hid (fun j hj => by
            have h1 := Q.out.2.1 j hj
            by_cases e : j = i
            · subst e; rw [fupd_same, fupd_same, List.length_append]; simp only [List.length_cons, List.length_nil]; omega
            · rw [fupd_ne _ _ e, fupd_ne _ _ e]; omega)
          go_wp2_with (first
            | (go_at_call 12
               go_must (refine (C.out.1 _).mono ?_)
               rintro e w4 ⟨rfl, hb4⟩
               have hb4' := gt (ga (gr wr) (.cells #[.int .i64 2, .int .i64 s2, .int .i64 s3] 28)) hb4
               have cR := C.out.2.1 w4 hb4'
               have cH := C.out.2.2.1 w4 hb4'
               have cB := C.out.2.2.2.1 w4 hb4'
               have sb4 := C.out.2.2.2.2.grow hb4
               have e1 : w4.cell? ⟨wr.heap.size, 0, none⟩ = some (.int .i64 2) := sb4.cell 0
               have e2 : w4.cell? ⟨wr.heap.size, 1, none⟩ = some (.int .i64 s2) := sb4.cell 1
               have e3 : w4.cell? ⟨wr.heap.size, 2, none⟩ = some (.int .i64 s3) := sb4.cell 2))
          try simp only [Act.put, List.setIfInBounds_toArray, List.set_cons_succ, List.set_cons_zero]
          refine wp_region_qbT 8 (by kernel_rfl) (by kernel_rfl) ?_
          simp only [List.take_succ_cons, List.take_zero, List.drop_succ_cons, List.drop_zero]
          refine wq_val (o := ⟨some 48, _, _, _, _, _⟩) (v := .slice (some ⟨R, 0, none⟩) 3 3) rfl (fun w' hC => by go_simp) ?_
          simp only [Act.put, List.setIfInBounds_toArray, List.set_cons_succ, List.set_cons_zero]
          refine wq_val (o := ⟨some 49, _, _, _, _, _⟩) (v := .int .i64 i) rfl (fun w' hC => by go_simp) ?_
          simp only [Act.put, List.setIfInBounds_toArray, List.set_cons_succ, List.set_cons_zero]
          refine wq_val (o := ⟨some 50, _, _, _, _, _⟩) (v := .pointer (some ⟨R, i, none⟩)) rfl (fun w' hC => by go_simp) ?_
          simp only [Act.put, List.setIfInBounds_toArray, List.set_cons_succ, List.set_cons_zero]
          refine wq_val (o := ⟨some 51, _, _, _, _, _⟩) (v := .pointer (some ⟨p i, 0, none⟩)) rfl (fun w' hC => by have c1 := C.out.2.1 w' (gt hb4' hC); go_simp) ?_
          simp only [Act.put, List.setIfInBounds_toArray, List.set_cons_succ, List.set_cons_zero]
          refine wq_val (o := ⟨some 52, _, _, _, _, _⟩) (v := .pointer (some ⟨wr.heap.size, 2, none⟩)) rfl (fun w' hC => by go_simp) ?_
          simp only [Act.put, List.setIfInBounds_toArray, List.set_cons_succ, List.set_cons_zero]
          refine wq_val (o := ⟨some 53, _, _, _, _, _⟩) (v := .int .i64 s3) rfl (fun w' hC => by have c1 : w'.cell? ⟨wr.heap.size, 2, none⟩ = some (.int .i64 s3) := (sb4.grow hC).cell 2; go_simp) ?_
          simp only [Act.put, List.setIfInBounds_toArray, List.set_cons_succ, List.set_cons_zero]
          refine wq_val (o := ⟨some 54, _, _, _, _, _⟩) (v := .int .i64 k) rfl (fun w' hC => by go_simp) ?_
          simp only [Act.put, List.setIfInBounds_toArray, List.set_cons_succ, List.set_cons_zero]
          refine wq_call (f := 15) (args := #[.int .i64 s3, .int .i64 k]) (v := .agg #[.int .i64 s3, .int .i64 k]) rfl (fun w' _ => by go_simp) (fun w' hC => ?_) ?_
          · exact it_any s3 k w'
          simp only [Act.put, List.setIfInBounds_toArray, List.set_cons_succ, List.set_cons_zero]
          refine wpQuiet_nil ?_
          intro w5 hC5
          have hb5' := gt hb4' hC5
          have sb5 := sb4.grow hC5
          clear cR cH cB e1 e2 e3 c1 c2 c3
          go_wp2_with (first
            | (go_at_call 14
               go_must (refine (P.out _ hb5').mono ?_)
               rintro e w6 ⟨⟨r6, rfl⟩, v6, F6, hg6⟩))
          have sb6 := (Q.out.1.grow hb5').side Q.out.2.2.2.1 hg6 sb5 (by decide) (by decide)
          have cB : ∀ w, Below w6.heap.size w6 w → w.cell? ⟨bk, i, none⟩ = some (.slice Au nu cu) := fun w hb => by rw [(F6.bks.grow hb).cell i]; simp [Q.out.2.2.2.1, Q.out.2.2.2.2.1]
          have cS : ∀ w, Below w6.heap.size w6 w → w.cell? ⟨wr.heap.size, 2, none⟩ = some (.int .i64 s3) := fun w hb => (sb6.grow hb).cell 2
          have X6 := Lib.hid (And.intro F6 (And.intro cB (And.intro cS hg6)))
          clear F6 cB cS sb6 hg6
          try simp only [Act.put, List.setIfInBounds_toArray, List.set_cons_succ, List.set_cons_zero]
          refine wp_region_rrF2 (fun a b => Below a.heap.size a b) (fun _ _ _ h g => gt h g) (fun _ _ h => h.size) (fun a => (gr a).drew) 0 57 (.slice (some ⟨bk, 0, none⟩) 3 3) 1 58 (.int .i64 (i : Int)) 11
            [.eq 57 (.slice (some ⟨bk, 0, none⟩) 3 3), .eq 58 (.int .i64 (i : Int)), .eq 59 (.slice (some ⟨bk, 0, none⟩) 3 3), .eq 60 (.int .i64 (i : Int)), .eq 61 (.pointer (some ⟨bk, i, none⟩)), .eq 62 (.slice Au nu cu), .eq 63 (.pointer (some ⟨wr.heap.size, 2, none⟩)), .eq 64 (.int .i64 s3), .eq 65 (.int .i64 (k : Int)), .eq 66 (.agg #[.int .i64 s3, .int .i64 (k : Int)]), .new 67 (NewRow w6.heap.size 35 [.int .i64 s3, .int .i64 (k : Int)] 1)]
            (by kernel_rfl) (by kernel_rfl) (by kernel_rfl) (by kernel_rfl) (by kernel_rfl) rfl rfl rfl (Nat.le_of_ble_eq_true rfl) (fun w => by go_simp) rfl (fun c a w h => h) rfl rfl rfl (Nat.le_of_ble_eq_true rfl) (fun w => by go_simp) rfl (fun c a w h => h) (by kernel_rfl) ?hsta ?hoba ?hfina
          case hsta =>
            intro s hs
            simp only [List.mem_cons, List.not_mem_nil, or_false] at hs
            rcases hs with rfl | rfl | rfl | rfl | rfl | rfl | rfl | rfl | rfl | rfl | rfl
            · exact fun _ _ _ h _ => h
            · exact fun _ _ _ h _ => h
            · exact fun _ _ _ h _ => h
            · exact fun _ _ _ h _ => h
            · exact fun _ _ _ h _ => h
            · exact fun _ _ _ h _ => h
            · exact fun _ _ _ h _ => h
            · exact fun _ _ _ h _ => h
            · exact fun _ _ _ h _ => h
            · exact fun _ _ _ h _ => h
            · rintro vs w1 w2 ⟨v, rfl, h⟩ hb
              exact ⟨_, rfl, NewRow.stable h hb⟩
          case hoba =>
            simp only [List.take_succ_cons, List.take_zero]
            refine rrs_cons ?_ (rrs_cons ?_ (rrs_cons ?_ (rrs_cons ?_ (rrs_cons ?_ (rrs_cons ?_ (rrs_cons ?_ (rrs_cons ?_ (rrs_cons ?_ (rrs_cons ?_ (rrs_cons ?_ rrs_nil))))))))))
            · refine rr_eq gr (by decide) (by rfl) (by rfl) fun x w' A hg hp hA => ?_
              have e4 := hA 4
              simp [rgDsts] at e4
              go_simp
            · refine rr_eq gr (by decide) (by rfl) (by rfl) fun x w' A hg hp hA => ?_
              have e8 := hA 8
              simp [rgDsts] at e8
              go_simp
            · refine rr_eq gr (by decide) (by rfl) (by rfl) fun x w' A hg hp hA => ?_
              have e4 := hA 4
              simp [rgDsts] at e4
              go_simp
            · refine rr_eq gr (by decide) (by rfl) (by rfl) fun x w' A hg hp hA => ?_
              have e8 := hA 8
              simp [rgDsts] at e8
              go_simp
            · refine rr_eq gr (by decide) (by rfl) (by rfl) fun x w' A hg hp hA => ?_
              have h59 := rg_pred_eq (d := 59) hp 0 rfl rfl rfl
              have h60 := rg_pred_eq (d := 60) hp 1 rfl rfl rfl
              have e59 := (hA.at_ 59 rfl).trans h59
              have e60 := (hA.at_ 60 rfl).trans h60
              go_simp
            · refine rr_eq gr (by decide) (by rfl) (by rfl) fun x w' A hg hp hA => ?_
              have h61 := rg_pred_eq (d := 61) hp 0 rfl rfl rfl
              have e61 := (hA.at_ 61 rfl).trans h61
              have c1 := X6.out.2.1 w' hg
              go_simp
            · refine rr_eq gr (by decide) (by rfl) (by rfl) fun x w' A hg hp hA => ?_
              have e7 := hA 7
              simp [rgDsts] at e7
              go_simp
            · refine rr_eq gr (by decide) (by rfl) (by rfl) fun x w' A hg hp hA => ?_
              have h63 := rg_pred_eq (d := 63) hp 0 rfl rfl rfl
              have e63 := (hA.at_ 63 rfl).trans h63
              have c1 := X6.out.2.2.1 w' hg
              go_simp
            · refine rr_eq gr (by decide) (by rfl) (by rfl) fun x w' A hg hp hA => ?_
              have e6 := hA 6
              simp [rgDsts] at e6
              go_simp
            · refine rr_call (by decide) (by rfl) fun x w' A hg hp hA => ?_
              have h64 := rg_pred_eq (d := 64) hp 0 rfl rfl rfl
              have h65 := rg_pred_eq (d := 65) hp 1 rfl rfl rfl
              have e64 := (hA.at_ 64 rfl).trans h64
              have e65 := (hA.at_ 65 rfl).trans h65
              refine ⟨15, #[.int .i64 s3, .int .i64 (k : Int)], ?_, ?_⟩
              · go_simp
              · refine (show Calls Try.prog 15 #[.int .i64 s3, .int .i64 (k : Int)] w' fun e w'' => e = .returned (.agg #[.int .i64 s3, .int .i64 (k : Int)]) ∧ Below w'.heap.size w' w'' from it_any s3 k w').mono ?_
                rintro e w'' ⟨rfl, hb⟩
                exact ⟨_, rfl, hb, by simp, by simp⟩
            · refine rr_build1 ET (by decide) rfl rfl (.tmp 66) rfl (by decide) ([.int .i64 s3, .int .i64 (k : Int)]) (by rfl) fun x w' A hg hp hA => ?_
              have h66 := rg_pred_eq (d := 66) hp 0 rfl rfl rfl
              have e66 := (hA.at_ 66 rfl).trans h66
              simp [Act.eval, e66, Value.cells, strV]
          case hfina =>
          intro x w7 hg hall hap
          simp only [RgAll, holds_eq, holds_new, holds_one, and_true] at hall
          obtain ⟨h57, h58, h59, h60, h61, h62, h63, h64, h65, h66, h67⟩ := hall
          obtain ⟨b67, h67, hb67, hB67⟩ := h67
          simp only [rgDsts, List.take_succ_cons, List.take_zero, List.filterMap_cons, List.filterMap_nil, putMany, List.foldl_cons, List.foldl_nil, List.setIfInBounds_toArray, List.set_cons_succ, List.set_cons_zero, List.drop_succ_cons, List.drop_zero, h57, h58, h59, h60, h61, h62, h63, h64, h65, h66, h67]
          clear h57 h58 h59 h60 h61 h62 h63 h64 h65 h66 h67
          have F7 := X6.out.1.grow hg
          have ho7 := F7.row i Q.out.2.2.2.1
          rw [Q.out.2.2.2.2.1, List.length_map, ← Q.out.2.2.2.2.2.1] at ho7
          have hk7 : k + 1 ≤ 1073741824 := by have := Q.out.2.2.1; omega
          have hnk := Q.out.2.2.2.2.2.2.1
          have X7 := Lib.hid (And.intro F7 (And.intro ho7 (And.intro hB67 (And.intro hk7 hnk))))
          clear F7 ho7 hg hap hB67 hk7 hnk
          go_wp2_with (first
            | ((with_reducible show wpList _ _ _ (⟨some 68, _, _, _, _, _⟩ :: _) _ _)
               go_must (refine wpList_app ET (o := ⟨some 68, _, _, _, _, _⟩) rfl (.tmp 62) (.tmp 67) rfl H (.slice Au nu cu) nu (((L i).map (·.1)).flatMap Itm.cells) rfl X7.out.2.1 (some ⟨b67, 0, none⟩) 1 1 [.int .i64 s3, .int .i64 k] rfl X7.out.2.2.1.rv rfl (fun u hu => thI.one (s3, (k : Int)) u hu) (by have h1 := X7.out.2.2.2.1; have h2 := X7.out.2.2.2.2; unfold maxLen; omega) (by have h1 := X7.out.2.2.2.1; have h2 := X7.out.2.2.2.2; omega) X7.out.1.le ?_)
               intro va w8 hov hg8 hv8
               obtain ⟨Av, nv, cv, rfl, hnv⟩ := own_form hov
               subst hnv
               have hB8 : Blk w8 bk 32 ((List.range 3).map u) := X7.out.1.bks.grown hg8 (fun e => own_ne_blk (X7.out.1.row i Q.out.2.2.2.1) X7.out.1.bks (by decide) (by rw [Q.out.2.2.2.2.1]; exact e.symm))
               have c8 : w8.cell? ⟨bk, i, none⟩ = some (.slice Au nu cu) := by rw [hB8.cell i]; simp [Q.out.2.2.2.1, Q.out.2.2.2.2.1]
               have f8 := hB8.frozen i
               have X8 := Lib.hid (And.intro hov (And.intro hg8 (And.intro hv8 hB8)))
               clear hov hg8 hv8 hB8))
          go_roundw
          case rel => exact ⟨k + 1, Q.out.2.2.1, by go_num, _, _, _, _, _, SD_booked X7.out.1 Q.out.2.2.2.1 (by rw [List.length_map, List.map_append, List.flatMap_append, List.length_append, ← Q.out.2.2.2.2.2.1]; exact X8.out.1) (by rw [Q.out.2.2.2.2.1]; exact Grown2.of_by X8.out.2.1) X8.out.2.2.2 (fun g hg' => by rw [Q.out.2.2.2.2.1]; exact X8.out.2.2.1.elim (fun e => .inl (e ▸ hg')) (fun e => .inr (by rw [e] at hg'; injection hg' with e'; omega))), HB.out⟩
          case measure => exact meas_in Q.out.2.2.1
        · by_cases k1 : s1 = 1
          · subst k1
            rename_i zz1 zz2 zz3
            revert n c l W hnb zz1 w1 w2 R p w3 bk HBK x w5 q0 q1 q2 w6 zz2 zz3 hd H q H3 wr u2 u6 u7 u8 u9 u10 u11 u12 u13 u36 u37 u38 u39 u40 u41 u42 u43 u44 u45 u46 u47 u48 u49 u50 u51 u52 u53 u54 u55 u56 u57 u58 u59 u60 u61 u62 u63 u64 u65 u66 u67 u68 u69 u70 u71 u72 u73 u74 u75 u76 u77 u78 u79 u80 u81 u82 u83 u84 u85 u86 u87 u88 u89 u90 u91 u92 u93 u94 u95 u96 u97 u98 u99 u100 u101 u102 u103 u104 u105 u106 u107 u108 u109 u110 u111 u112 u113 u114 u115 u116 u117 u118 u119 u120 u121 u122 u123 u124 u125 u126 u127 u128 u129 u130 u131 u132 u133 u134 u135 u136 u137 u138 u139 u140 u141 u142 u143 u144 u145 u146 u147 u148 u149 u150 u151 u152 u153 u154 u155 u156 u157 u158 u159 u160 u161 u162 u163 u164 u165 u166 u167 u168 u169 u170 u171 u172 u173 u174 u175 u176 u177 u178 u179 u180 u181 u182 u183 u184 u185 u186 u187 u188 u189 u190 u191 u192 u193 u194 u195 k v es L nx u ad H0 s2 s3 c3 c2 i Au cu nu hki hk0 hi0 hi4 HFL c1 C Q k0 k2
            exact T1 ()
          · by_cases k3 : s1 = 3
            · subst k3
              rename_i zz1 zz2 zz3
              revert n c l W hnb zz1 w1 w2 R p w3 bk HBK x w5 q0 q1 q2 w6 zz2 zz3 hd H q H3 wr u2 u6 u7 u8 u9 u10 u11 u12 u13 u36 u37 u38 u39 u40 u41 u42 u43 u44 u45 u46 u47 u48 u49 u50 u51 u52 u53 u54 u55 u56 u57 u58 u59 u60 u61 u62 u63 u64 u65 u66 u67 u68 u69 u70 u71 u72 u73 u74 u75 u76 u77 u78 u79 u80 u81 u82 u83 u84 u85 u86 u87 u88 u89 u90 u91 u92 u93 u94 u95 u96 u97 u98 u99 u100 u101 u102 u103 u104 u105 u106 u107 u108 u109 u110 u111 u112 u113 u114 u115 u116 u117 u118 u119 u120 u121 u122 u123 u124 u125 u126 u127 u128 u129 u130 u131 u132 u133 u134 u135 u136 u137 u138 u139 u140 u141 u142 u143 u144 u145 u146 u147 u148 u149 u150 u151 u152 u153 u154 u155 u156 u157 u158 u159 u160 u161 u162 u163 u164 u165 u166 u167 u168 u169 u170 u171 u172 u173 u174 u175 u176 u177 u178 u179 u180 u181 u182 u183 u184 u185 u186 u187 u188 u189 u190 u191 u192 u193 u194 u195 k v es L nx u ad H0 s2 s3 c3 c2 i Au cu nu hki hk0 hi0 hi4 HFL c1 C Q k0 k2 k1
              exact T3 ()
            · by_cases k4 : s1 = 4
              · subst k4
                rename_i zz1 zz2 zz3
                revert n c l W hnb zz1 w1 w2 R p w3 bk HBK x w5 q0 q1 q2 w6 zz2 zz3 hd H q H3 wr u2 u6 u7 u8 u9 u10 u11 u12 u13 u36 u37 u38 u39 u40 u41 u42 u43 u44 u45 u46 u47 u48 u49 u50 u51 u52 u53 u54 u55 u56 u57 u58 u59 u60 u61 u62 u63 u64 u65 u66 u67 u68 u69 u70 u71 u72 u73 u74 u75 u76 u77 u78 u79 u80 u81 u82 u83 u84 u85 u86 u87 u88 u89 u90 u91 u92 u93 u94 u95 u96 u97 u98 u99 u100 u101 u102 u103 u104 u105 u106 u107 u108 u109 u110 u111 u112 u113 u114 u115 u116 u117 u118 u119 u120 u121 u122 u123 u124 u125 u126 u127 u128 u129 u130 u131 u132 u133 u134 u135 u136 u137 u138 u139 u140 u141 u142 u143 u144 u145 u146 u147 u148 u149 u150 u151 u152 u153 u154 u155 u156 u157 u158 u159 u160 u161 u162 u163 u164 u165 u166 u167 u168 u169 u170 u171 u172 u173 u174 u175 u176 u177 u178 u179 u180 u181 u182 u183 u184 u185 u186 u187 u188 u189 u190 u191 u192 u193 u194 u195 k v es L nx u ad H0 s2 s3 c3 c2 i Au cu nu hki hk0 hi0 hi4 HFL c1 C Q k0 k2 k1 k3
                exact T4 ()
              · by_cases k5 : s1 = 5
                · subst k5
                  rename_i zz1 zz2 zz3
                  revert n c l W hnb zz1 w1 w2 R p w3 bk HBK x w5 q0 q1 q2 w6 zz2 zz3 hd H q H3 wr u2 u6 u7 u8 u9 u10 u11 u12 u13 u36 u37 u38 u39 u40 u41 u42 u43 u44 u45 u46 u47 u48 u49 u50 u51 u52 u53 u54 u55 u56 u57 u58 u59 u60 u61 u62 u63 u64 u65 u66 u67 u68 u69 u70 u71 u72 u73 u74 u75 u76 u77 u78 u79 u80 u81 u82 u83 u84 u85 u86 u87 u88 u89 u90 u91 u92 u93 u94 u95 u96 u97 u98 u99 u100 u101 u102 u103 u104 u105 u106 u107 u108 u109 u110 u111 u112 u113 u114 u115 u116 u117 u118 u119 u120 u121 u122 u123 u124 u125 u126 u127 u128 u129 u130 u131 u132 u133 u134 u135 u136 u137 u138 u139 u140 u141 u142 u143 u144 u145 u146 u147 u148 u149 u150 u151 u152 u153 u154 u155 u156 u157 u158 u159 u160 u161 u162 u163 u164 u165 u166 u167 u168 u169 u170 u171 u172 u173 u174 u175 u176 u177 u178 u179 u180 u181 u182 u183 u184 u185 u186 u187 u188 u189 u190 u191 u192 u193 u194 u195 k v es L nx u ad H0 s2 s3 c3 c2 i Au cu nu hki hk0 hi0 hi4 HFL c1 C Q k0 k2 k1 k3 k4
                  exact T5 ()
                · go_wp2_with (first
                    | (go_at_call 12
                       go_must (refine (C.out.1 _).mono ?_)
                       rintro e w4 ⟨rfl, hb4⟩
                       have hb4' := gt (ga (gr wr) (.cells #[.int .i64 s1, .int .i64 s2, .int .i64 s3] 28)) hb4
                       have cR := C.out.2.1 w4 hb4'
                       have cH := C.out.2.2.1 w4 hb4'
                       have cB := C.out.2.2.2.1 w4 hb4'
                       have sb4 := C.out.2.2.2.2.grow hb4
                       have e1 : w4.cell? ⟨wr.heap.size, 0, none⟩ = some (.int .i64 s1) := sb4.cell 0
                       have e2 : w4.cell? ⟨wr.heap.size, 1, none⟩ = some (.int .i64 s2) := sb4.cell 1
                       have e3 : w4.cell? ⟨wr.heap.size, 2, none⟩ = some (.int .i64 s3) := sb4.cell 2))
                  go_roundw
                  case rel => exact ⟨k + 1, Q.out.2.2.1, by go_num, v, es, L, nx, u, Q.out.1.grow hb4', fun j hj => ⟨Nat.le_succ_of_le (Q.out.2.1 j hj).1, Nat.le_succ_of_le (Q.out.2.1 j hj).2⟩⟩
                  case measure => exact meas_in Q.out.2.2.1
    · obtain rfl : n = k := by omega
      have X := Lib.hid (And.intro F hbd)
      clear hk hlt F hbd
      rename World => W1
      go_wp2
      go_loopw [198] (fun v198 wr => ∃ j : Nat, j ≤ 3 ∧ v198 = .int .i64 j ∧ ∃ v es L2 nx, Fam (XD R hd p q) 3 H bk w1 flD p v es L2 nx u (fun i => (L i).map (·.1)) wr ∧ ∀ i, j ≤ i → i < 3 → L2 i = L i) (fun v _ => 3 - (intOf v).toNat)
      case atStart => exact ⟨0, by omega, rfl, v, es, L, nx, X.out.1, fun _ _ _ => rfl⟩
      case round =>
        obtain ⟨j, hj, rfl, v, es, L2, nx, F, hL⟩ := hrel
        by_cases hlt : j < 3
        · obtain ⟨Au, cu, hu, hcu⟩ := own_slice (F.row j hlt)
          obtain ⟨nu, hnu⟩ : ∃ nu, nu = (L j).length := ⟨_, rfl⟩
          rw [List.length_map, ← hnu] at hu hcu
          have rM : RV wr Au (((L j).map (·.1)).flatMap Itm.cells) := own_rvg2 (hu ▸ F.row j hlt)
          have cR : wr.cell? ⟨R, j, none⟩ = some (.pointer (some ⟨p j, 0, none⟩)) := by
            rw [(F.ex R _ _ (.inl ⟨rfl, rfl, rfl⟩)).1.cell j]; simp [hlt]
          have cB : ∀ w, Below wr.heap.size wr w → w.cell? ⟨bk, j, none⟩ = some (.slice Au nu cu) := fun w hb => by
            rw [(F.bks.grow hb).cell j]; simp [hlt, hu]
          have cE : ∀ w, Below wr.heap.size wr w → _ := fun w hb => emptied_any (flD j) w ((F.grow hb).pl j hlt) (F.grow hb).low F.hH (F.hp j hlt) (F.book j hlt) Au nu cu (by rw [hL j (Nat.le_refl j) hlt]; exact rM.below hb) (by rw [hL j (Nat.le_refl j) hlt]; exact hnu) hcu (by rw [hL j (Nat.le_refl j) hlt]; have := (X.out.2 j hlt).1; omega)
          have hki : (j : Int) < 3 := by omega
          have hk0 : (0 : Int) ≤ (j : Int) := by omega
          have hfl : ((j : Int) == 2) = flD j := by unfold flD; rw [Bool.eq_iff_iff, beq_iff_eq, beq_iff_eq]; omega
          have hfl2 : decide ((j : Int) = 2) = flD j := by rw [← hfl]; rfl
          have hLj := hL j (Nat.le_refl j) hlt
          have Y := Lib.hid (And.intro F (And.intro hL (And.intro hlt (And.intro cE (And.intro cB (And.intro hnu hLj))))))
          clear F hL hlt hj hu hcu rM cE cB hnu hLj
          go_wp2
          try simp only [Act.put, List.setIfInBounds_toArray, List.set_cons_succ, List.set_cons_zero]
          refine wp_region_qbT 16 (by kernel_rfl) (by kernel_rfl) ?_
          simp only [List.take_succ_cons, List.take_zero, List.drop_succ_cons, List.drop_zero]
          refine wq_val (o := ⟨some 203, _, _, _, _, _⟩) (v := .pointer (some ⟨p j, 0, none⟩)) rfl (fun w' hC => by go_simp) ?_
          simp only [Act.put, List.setIfInBounds_toArray, List.set_cons_succ, List.set_cons_zero]
          refine wq_call (f := 19) (args := #[.pointer (some ⟨p j, 0, none⟩)]) (v := .int .i64 nu) rfl (fun w' _ => by go_simp) (fun w' hC => ?_) ?_
          · have h := (Y.out.1.grow hC).len Y.out.2.2.1
            rw [Y.out.2.2.2.2.2.2, ← Y.out.2.2.2.2.2.1] at h
            exact h
          simp only [Act.put, List.setIfInBounds_toArray, List.set_cons_succ, List.set_cons_zero]
          refine wq_val (o := ⟨some 205, _, _, _, _, _⟩) (v := .slice (some ⟨bk, 0, none⟩) 3 3) rfl (fun w' hC => by go_simp) ?_
          simp only [Act.put, List.setIfInBounds_toArray, List.set_cons_succ, List.set_cons_zero]
          refine wq_val (o := ⟨some 206, _, _, _, _, _⟩) (v := .int .i64 j) rfl (fun w' hC => by go_simp) ?_
          simp only [Act.put, List.setIfInBounds_toArray, List.set_cons_succ, List.set_cons_zero]
          refine wq_val (o := ⟨some 207, _, _, _, _, _⟩) (v := .pointer (some ⟨bk, j, none⟩)) rfl (fun w' hC => by go_simp) ?_
          simp only [Act.put, List.setIfInBounds_toArray, List.set_cons_succ, List.set_cons_zero]
          refine wq_val (o := ⟨some 208, _, _, _, _, _⟩) (v := .slice Au nu cu) rfl (fun w' hC => by have c1 := Y.out.2.2.2.2.1 w' hC; go_simp) ?_
          simp only [Act.put, List.setIfInBounds_toArray, List.set_cons_succ, List.set_cons_zero]
          refine wq_val (o := ⟨some 209, _, _, _, _, _⟩) (v := .int .i64 nu) rfl (fun w' hC => by go_simp) ?_
          simp only [Act.put, List.setIfInBounds_toArray, List.set_cons_succ, List.set_cons_zero]
          refine wq_val (o := ⟨some 210, _, _, _, _, _⟩) (v := .bool false) rfl (fun w' hC => by go_simp) ?_
          simp only [Act.put, List.setIfInBounds_toArray, List.set_cons_succ, List.set_cons_zero]
          refine wq_val (o := ⟨some 211, _, _, _, _, _⟩) (v := .bool false) rfl (fun w' hC => by go_simp) ?_
          simp only [Act.put, List.setIfInBounds_toArray, List.set_cons_succ, List.set_cons_zero]
          refine wq_val (o := ⟨some 212, _, _, _, _, _⟩) (v := .pointer (some ⟨p j, 0, none⟩)) rfl (fun w' hC => by go_simp) ?_
          simp only [Act.put, List.setIfInBounds_toArray, List.set_cons_succ, List.set_cons_zero]
          refine wq_val (o := ⟨some 213, _, _, _, _, _⟩) (v := .slice (some ⟨bk, 0, none⟩) 3 3) rfl (fun w' hC => by go_simp) ?_
          simp only [Act.put, List.setIfInBounds_toArray, List.set_cons_succ, List.set_cons_zero]
          refine wq_val (o := ⟨some 214, _, _, _, _, _⟩) (v := .int .i64 j) rfl (fun w' hC => by go_simp) ?_
          simp only [Act.put, List.setIfInBounds_toArray, List.set_cons_succ, List.set_cons_zero]
          refine wq_val (o := ⟨some 215, _, _, _, _, _⟩) (v := .pointer (some ⟨bk, j, none⟩)) rfl (fun w' hC => by go_simp) ?_
          simp only [Act.put, List.setIfInBounds_toArray, List.set_cons_succ, List.set_cons_zero]
          refine wq_val (o := ⟨some 216, _, _, _, _, _⟩) (v := .slice Au nu cu) rfl (fun w' hC => by have c1 := Y.out.2.2.2.2.1 w' hC; go_simp) ?_
          simp only [Act.put, List.setIfInBounds_toArray, List.set_cons_succ, List.set_cons_zero]
          refine wq_val (o := ⟨some 217, _, _, _, _, _⟩) (v := .int .i64 j) rfl (fun w' hC => by go_simp) ?_
          simp only [Act.put, List.setIfInBounds_toArray, List.set_cons_succ, List.set_cons_zero]
          refine wq_val (o := ⟨some 218, _, _, _, _, _⟩) (v := .bool (flD j)) rfl (fun w' hC => by go_simp) ?_
          simp only [Act.put, List.setIfInBounds_toArray, List.set_cons_succ, List.set_cons_zero]
          refine wpQuiet_nil ?_
          intro w5 hC5
          go_wp2_with (go_at_call 20; go_must (refine (Y.out.2.2.2.1 w5 hC5).mono ?_); rintro e w4 ⟨rfl, v', hP, hg, hv⟩; have F4 := (Y.out.1.grow hC5).step Y.out.2.2.1 hP (Book.nil _ _) hg (fun g hg' => .inl (by rw [← hv]; exact hg')); have X4 := Lib.hid F4; clear hP hg hv F4)
          go_roundw
          case rel => exact ⟨j + 1, Y.out.2.2.1, by go_num, _, _, _, _, X4.out, fun i h1 h2 => by rw [fupd_ne _ _ (by omega)]; exact Y.out.2.1 i (by omega) h2⟩
          case measure => exact meas_in Y.out.2.2.1
        · obtain rfl : j = 3 := by omega
          have Y := Lib.hid F
          clear F hL hlt hj
          go_wp2
          go_ret
          exact ⟨rfl, gt H3.out.2.1 (by rw [← H3.out.2.2]; exact Y.out.low)⟩
⟩
end Go.Proofs.Ytdebokambldbbaa.LawP
