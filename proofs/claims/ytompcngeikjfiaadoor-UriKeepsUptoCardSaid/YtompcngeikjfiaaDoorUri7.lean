/- uri: the program's Query. -/
import Derived.Test.YtompcngeikjfiaaDoorQueryPure
import Derived.Maps.AppendAt
namespace Go.Proofs.YtompcngeikjfiaaDoor.Uri
open Go.RowKit Go.Shelf Go.Proofs.YtompcngeikjfiaaDoor.Mem Go.Proofs.YtompcngeikjfiaaDoor.Seal Go.Proofs.YtompcngeikjfiaaDoor.Strs Go.Proofs.YtompcngeikjfiaaDoor.Split
attribute [local go_sem] Oper.semAt_some
set_option linter.unusedVariables false

set_option maxHeartbeats 1000000 in
theorem splitSeq_any (a b : ByteArray) (w : World) :
    Calls Tryd.prog 40 #[.string a, .string b, .int .i64 0] w fun e w' => e = .returned (.func (.func 43) #[] #[.pointer (some ⟨w.heap.size + 1, 0, none⟩), .pointer (some ⟨w.heap.size, 0, none⟩), .pointer (some ⟨w.heap.size + 2, 0, none⟩)]) ∧
      w' = ((w.alloc (.cells #[.string a] 9)).alloc (.cells #[.string b] 9)).alloc (.cells #[.int .i64 0] 3) := by
  go_enter Tryd.func40, Tryd.ntmps40
  go_wp2
  go_ret
  exact ⟨by simp, rfl⟩
set_option maxHeartbeats 1000000 in
theorem SplitSeq_any (a b : ByteArray) (w : World) :
    Calls Tryd.prog 36 #[.string a, .string b] w fun e w' => e = .returned (.func (.func 43) #[] #[.pointer (some ⟨w.heap.size + 1, 0, none⟩), .pointer (some ⟨w.heap.size, 0, none⟩), .pointer (some ⟨w.heap.size + 2, 0, none⟩)]) ∧
      w' = ((w.alloc (.cells #[.string a] 9)).alloc (.cells #[.string b] 9)).alloc (.cells #[.int .i64 0] 3) := by
  go_enter Tryd.func36, Tryd.ntmps36
  go_wp2_with (go_at_call 40; refine (splitSeq_any _ _ _).mono ?_; rintro e w' ⟨rfl, rfl⟩)
  go_ret
  exact ⟨rfl, rfl⟩

def hsOf (pre : List (List UInt8)) : List PD := (queryP pre).getD []
def QPost (w : World) (o : Option (List PD)) (e : Ending) (w' : World) : Prop :=
  (match o with
  | none => e = .returned (.tuple #[.slice none 0 0, .int .i64 270])
  | some hs => ∃ v, e = .returned (.tuple #[v, .int .i64 0]) ∧ w'.ownsRow w.heap.size 51 2 v hs.length (hs.flatMap PD.cells)) ∧ Below w.heap.size w w'
theorem cutPost_eq {c : UInt8} {l : List UInt8} {e : Ending} (h : CutPost c l e) : ∃ b, e = .returned (.tuple #[strOf (cutR c l).1, strOf (cutR c l).2, .bool b]) := by
  unfold CutPost at h
  unfold cutR
  cases hc : cutL c l with
  | none => rw [hc] at h; exact ⟨_, h⟩
  | some p => rw [hc] at h; exact ⟨_, h⟩
def QI (w : World) (h : Nat) (pre : List (List UInt8)) (W : World) : Prop :=
  (∃ v, Boxed W (h + 2) 31 v ∧ W.ownsRow h 51 2 v (hsOf pre).length ((hsOf pre).flatMap PD.cells) ∧ (queryP pre).isSome = true) ∧
  (Boxed W h 31 (.slice none 0 0) ∧ Boxed W (h + 1) 25 (.int .i64 0)) ∧ ((∃ u, Boxed W (h + 3) 9 u) ∧ (∃ u, Boxed W (h + 4) 9 u) ∧ ∃ u, Boxed W (h + 5) 3 u) ∧ Below h w W
def QX (w : World) (h : Nat) (pre : List (List UInt8)) (W : World) : Prop :=
  (Boxed W h 31 (.slice none 0 0) ∧ Boxed W (h + 1) 25 (.int .i64 270) ∧ queryP pre = none) ∧ Below h w W
theorem boxed_own2 {β : Type} (B : Nat) (t : TypeId) (v : Value) : Own (fun (_ : β) W => Boxed W B t v) := fun s A C row hv hg hr => hv.kept hg (fun e => by
  obtain ⟨o, ho, hc⟩ := hr B e.symm
  rw [show A.heap[B]? = _ from hv] at ho; cases ho; cases hc)
theorem exBoxed_own {β : Type} (B : Nat) (t : TypeId) : Own (fun (_ : β) W => ∃ u, Boxed W B t u) := by
  rintro s A C row ⟨u, hu⟩ hg hr
  exact ⟨u, boxed_own2 (β := Unit) _ _ _ () A C row hu hg hr⟩
theorem QI_own (w : World) (h B : Nat) (hh : h ≤ w.heap.size) (hB : h ≤ B) : OwnFrom B (QI w h) := by
  unfold QI
  refine OwnFrom.and (Own.from (holdsRow_own h (h + 2) _ _ 2 (fun pre => (hsOf pre).length) (fun pre => (hsOf pre).flatMap PD.cells) (fun pre _ => (queryP pre).isSome = true)) _) (OwnFrom.and (OwnFrom.and (Own.from (boxed_own2 _ _ _) _) (Own.from (boxed_own2 _ _ _) _)) (OwnFrom.and (OwnFrom.and (Own.from (exBoxed_own _ _) _) (OwnFrom.and (Own.from (exBoxed_own _ _) _) (Own.from (exBoxed_own _ _) _))) (ownFrom_below hh hB)))
theorem QX_own (w : World) (h B : Nat) (hh : h ≤ w.heap.size) (hB : h ≤ B) : OwnFrom B (QX w h) := by
  unfold QX
  exact OwnFrom.and (OwnFrom.and (Own.from (boxed_own2 _ _ _) _) (OwnFrom.and (Own.from (boxed_own2 _ _ _) _) (fun _ _ _ _ hs _ _ => hs))) (ownFrom_below hh hB)
theorem QI_box {w : World} {h : Nat} {pre : List (List UInt8)} {W : World} (v : Value) (H : QI w h pre W) : QI w h pre (W.setCell ⟨h + 3, 0, none⟩ v) := by
  obtain ⟨⟨u, hu, hr, hq⟩, ⟨h1, h2⟩, ⟨⟨u3, h3⟩, ⟨u4, h4⟩, ⟨u5, h5⟩⟩, hb⟩ := H
  refine ⟨⟨u, hu.other (by omega) _, hr.kept (grownBy_setCell' W (h + 3) v) (.inr (Ne.symm (h3.not_row (by decide) hr))), hq⟩, ⟨h1.other (by omega) _, h2.other (by omega) _⟩, ⟨⟨v, h3.set v⟩, ⟨u4, h4.other (by omega) _⟩, ⟨u5, h5.other (by omega) _⟩⟩, hb.setCell (by show h ≤ h + 3; omega) _⟩
theorem infoP : (Tryd.prog.info? 51).map (fun i => (i.zero, i.size, i.bytes)) = some (some (.agg #[.string ⟨#[]⟩, .string ⟨#[]⟩]), 2, 32) := by kernel_rfl

theorem cell_two_new (w : World) (x y : Value) (t : TypeId) : ∀ j u, [x, y][j]? = some u → (w.alloc (.cells #[x, y] t)).cell? ((⟨w.heap.size, 0, none⟩ : Addr).add j) = some u := by
  intro j u hj
  match j, hj with
  | 0, hj => simp at hj; subst hj; show (match (w.alloc (.cells #[x, y] t)).heap[w.heap.size]? with | some (.cells c _ _) => c[0]? | _ => none) = _; rw [World.alloc_heap_new]; rfl
  | 1, hj => simp at hj; subst hj; show (match (w.alloc (.cells #[x, y] t)).heap[w.heap.size]? with | some (.cells c _ _) => c[1]? | _ => none) = _; rw [World.alloc_heap_new]; rfl
  | j + 2, hj => simp at hj
set_option maxRecDepth 100000 in
set_option maxHeartbeats 3200000 in
theorem query_any (l : List UInt8) (w : World) (hl : l.length ≤ 1152921504606846976) (hN : (splitL 38 l).length ≤ 1073741824) (hP : ∀ p ∈ splitL 38 l, p.length ≤ 1073741824) :
    Calls Tryd.prog 16 #[.string ⟨l.toArray⟩] w (QPost w (queryL l)) := by
  obtain ⟨h, hh⟩ : ∃ h, h = w.heap.size := ⟨_, rfl⟩
  refine (callsIn_wide (n := 4)).1 ?_
  refine callsIn_of_wp_marks Tryd.func16 rfl trivial ?_ rfl
  simp only [Tryd.ntmps16, List.size_toArray, List.length_cons, List.length_nil, Nat.reduceAdd, Nat.reduceSub, Array.replicate_succ, Array.replicate_zero, List.push_toArray, List.append_toArray, List.nil_append, List.cons_append]
  gi_wp2_with (refine ⟨trivial, ?_⟩; gi_at_call 36; refine (callsIn_wide.2 (SplitSeq_any _ _ _)).mono ?_; rintro e w' ⟨rfl, rfl⟩)
  simp only [← hh, Nat.add_assoc, Nat.reduceAdd]
  obtain ⟨w0, hw0⟩ : ∃ x, x = ((((((w.alloc (.cells #[.slice none 0 0] 31)).alloc (.cells #[.int .i64 0] 25)).alloc (.cells #[.slice none 0 0] 31)).alloc (.cells #[.string ⟨l.toArray⟩] 9)).alloc (.cells #[.string ⟨#[38]⟩] 9)).alloc (.cells #[.int .i64 0] 3)) := ⟨_, rfl⟩
  have hsz : w0.heap.size = h + 6 := by rw [hw0, hh]; simp
  have bB : Below h w w0 := by
    rw [hw0, hh]
    exact (((((((Below.refl _ w).alloc (Nat.le_refl _) _).alloc (by simp) _).alloc (by simp; omega) _).alloc (by simp; omega) _).alloc (by simp; omega) _).alloc (by simp; omega) _)
  have b0 : Boxed w0 h 31 (.slice none 0 0) := by rw [hw0, hh]; exact (((((Boxed.new _ _ _).alloc _).alloc _).alloc _).alloc _).alloc _
  have b1 : Boxed w0 (h + 1) 25 (.int .i64 0) := by
    have := ((((Boxed.new (w.alloc (.cells #[.slice none 0 0] 31)) 25 (.int .i64 0)).alloc (.cells #[.slice none 0 0] 31)).alloc (.cells #[.string ⟨l.toArray⟩] 9)).alloc (.cells #[.string ⟨#[38]⟩] 9)).alloc (.cells #[.int .i64 0] 3)
    rw [hw0, hh]; simpa [strOf] using this
  have b2 : Boxed w0 (h + 2) 31 (.slice none 0 0) := by
    have := (((Boxed.new ((w.alloc (.cells #[.slice none 0 0] 31)).alloc (.cells #[.int .i64 0] 25)) 31 (.slice none 0 0)).alloc (.cells #[.string ⟨l.toArray⟩] 9)).alloc (.cells #[.string ⟨#[38]⟩] 9)).alloc (.cells #[.int .i64 0] 3)
    rw [hw0, hh]; simpa [strOf] using this
  have b3 : Boxed w0 (h + 3) 9 (strOf l) := by
    have := ((Boxed.new (((w.alloc (.cells #[.slice none 0 0] 31)).alloc (.cells #[.int .i64 0] 25)).alloc (.cells #[.slice none 0 0] 31)) 9 (.string ⟨l.toArray⟩)).alloc (.cells #[.string ⟨#[38]⟩] 9)).alloc (.cells #[.int .i64 0] 3)
    rw [hw0, hh]; simpa [strOf] using this
  have b4 : Boxed w0 (h + 4) 9 (.string ⟨#[38]⟩) := by
    have := (Boxed.new ((((w.alloc (.cells #[.slice none 0 0] 31)).alloc (.cells #[.int .i64 0] 25)).alloc (.cells #[.slice none 0 0] 31)).alloc (.cells #[.string ⟨l.toArray⟩] 9)) 9 (.string ⟨#[38]⟩)).alloc (.cells #[.int .i64 0] 3)
    rw [hw0, hh]; simpa [strOf] using this
  have b5 : Boxed w0 (h + 5) 3 (.int .i64 0) := by
    have := Boxed.new (((((w.alloc (.cells #[.slice none 0 0] 31)).alloc (.cells #[.int .i64 0] 25)).alloc (.cells #[.slice none 0 0] 31)).alloc (.cells #[.string ⟨l.toArray⟩] 9)).alloc (.cells #[.string ⟨#[38]⟩] 9)) 3 (.int .i64 0)
    rw [hw0, hh]; simpa [strOf] using this
  rw [← hw0]
  have HH := Lib.hid hh
  clear hw0 hh
  refine wpIn_range_box (gf := 43) (lb := #[.pointer (some ⟨h + 4, 0, none⟩), .pointer (some ⟨h + 3, 0, none⟩), .pointer (some ⟨h + 5, 0, none⟩)]) rfl (enters_of Tryd.func43 (by kernel_rfl) rfl)
    (split_stops 38 l hl (h + 4) (h + 3) (h + 5) w0 (by omega) (by omega) b4 b3 b5) (by intro b hb; simp at hb; omega) (by omega) (fun _ => rfl)
    (QI w h) (QX w h) (QI_own w h _ (by have := HH.out; omega) (by omega)) (QX_own w h _ (by have := HH.out; omega) (by omega)) (fun pre A v H => QI_box v H)
    ⟨⟨_, b2, World.ownsRow_nil _ _ _ _, rfl⟩, ⟨b0, b1⟩, ⟨⟨_, b3⟩, ⟨_, b4⟩, ⟨_, b5⟩⟩, bB⟩
    (fun x => { tmps := #[.string ⟨l.toArray⟩, undef, .pointer (some ⟨h, 0, none⟩), .pointer (some ⟨h + 1, 0, none⟩), .pointer (some ⟨h + 2, 0, none⟩), strOf x, undef, undef, undef, undef, undef, undef, undef, .string ⟨l.toArray⟩, .func (.func 43) #[] #[.pointer (some ⟨h + 4, 0, none⟩), .pointer (some ⟨h + 3, 0, none⟩), .pointer (some ⟨h + 5, 0, none⟩)], strOf x, undef, undef, undef, undef, undef, undef, undef, undef, undef, undef, undef, undef, undef, undef, undef, undef, undef, undef, undef, undef, undef, undef, undef, undef, undef, undef, undef, undef, undef, undef, undef], defers := [] }) ?assign ?body ?done ?stop
  case assign =>
    intro lp x W K hK
    gi_wp2
    exact hK
  case body =>
    rintro lp pre x W ⟨⟨v, hv, hr, hq⟩, ⟨h1, h2⟩, ⟨⟨u3, h3⟩, ⟨u4, h4⟩, ⟨u5, h5⟩⟩, hb⟩ hpre
    have hx : x.length ≤ 1073741824 := hP x (hpre.subset (by simp))
    have hpn : pre.length < 1073741824 := by have := hpre.length_le; simp at this; omega
    obtain ⟨hs, hqs⟩ := Option.isSome_iff_exists.1 hq
    have hso : hsOf pre = hs := by unfold hsOf; rw [hqs]; rfl
    rw [hso] at hr
    have hsl := queryP_len hqs
    have HI := Lib.hid (And.intro hqs (And.intro hv (And.intro hr (And.intro h1 (And.intro h2 (And.intro h3 hb))))))
    have H45 := Lib.hid (And.intro h4 h5)
    clear hpre hq hqs hv hr h1 h2 h3 h4 h5 hb hso hP hN b0 b1 b2 b3 b4 b5 bB hsz
    by_cases hx0 : x = []
    · subst hx0
      unfold strOf
      gi_wp2
      obtain ⟨hqs, hv, hr, h1, h2, h3, hb⟩ := HI.out
      exact ⟨KeepsOthers.refl _, Kept.refl _ _, ⟨⟨v, hv, by unfold hsOf; rw [queryP_skip, hqs]; exact hr, by rw [queryP_skip, hqs]; rfl⟩, ⟨h1, h2⟩, ⟨⟨u3, h3⟩, ⟨_, H45.out.1⟩, ⟨_, H45.out.2⟩⟩, hb⟩⟩
    · have hc := cutR_len 61 x
      obtain ⟨n1, hn1⟩ : ∃ n, n = (cutR 61 x).1 := ⟨_, rfl⟩
      obtain ⟨n2, hn2⟩ : ∃ n, n = (cutR 61 x).2 := ⟨_, rfl⟩
      have cC := Lib.hid (fun W => cut_one x 61 W (by omega))
      have cU1 := Lib.hid (fun W => unescape_any n1 true W (by rw [hn1]; omega))
      have cU2 := Lib.hid (fun W => unescape_any n2 true W (by rw [hn2]; omega))
      have HN := Lib.hid (And.intro hn1 (And.intro hn2 hx0))
      have hx1 : (x == []) = false := by simpa using hx0
      clear hn1 hn2 hc hx hx0
      obtain ⟨i0, hi, hz0, hz1, hz2⟩ := info_parts infoP
      unfold strOf
      cases hu1 : unesc true n1 with
      | none =>
        have HU := Lib.hid hu1
        rw [hu1] at cU1
        clear hu1
        cases hu2 : unesc true n2 with
        | none =>
          rw [hu2] at cU2
          clear hu2
          gi_wp2_with (first
            | (refine ⟨trivial, ?_⟩; gi_at_call 37; refine (CallsIn.inRound lp (callsIn_wide.2 (cC.out _))).mono ?_; rintro e w1 ⟨hp1, hb1⟩; obtain ⟨bb, rfl⟩ := cutPost_eq hp1; clear hp1; rw [← HN.out.1, ← HN.out.2.1]; unfold strOf)
            | (refine ⟨trivial, ?_⟩; gi_at_call 12; refine (CallsIn.inRound lp (callsIn_wide.2 (cU1.out _))).mono ?_; clear cU1; rintro e w2 ⟨rfl, hb2⟩)
            | (refine ⟨trivial, ?_⟩; gi_at_call 12; refine (CallsIn.inRound lp (callsIn_wide.2 (cU2.out _))).mono ?_; clear cU2; rintro e w3 ⟨rfl, hb3⟩; have hB := gt (gt hb1 hb2) hb3; clear hb1 hb2 hb3; have k0 : Boxed w3 h 31 _ := (hB.block _ HI.out.2.2.2.1.lt).trans HI.out.2.2.2.1; have k1 : Boxed w3 (h + 1) 25 _ := (hB.block _ HI.out.2.2.2.2.1.lt).trans HI.out.2.2.2.2.1; have k2 : Boxed w3 (h + 2) 31 _ := (hB.block _ HI.out.2.1.lt).trans HI.out.2.1; have k3 : Boxed w3 (h + 3) 9 _ := (hB.block _ HI.out.2.2.2.2.2.1.lt).trans HI.out.2.2.2.2.2.1; have f0 := k0.frozen; have f1 := k1.frozen; have f2 := k2.frozen; have c0 := k0.cell; have c1 := k1.cell; have c2 := k2.cell; have hbW : Below h W w3 := hB.mono (by have := HI.out.2.2.2.2.2.2.size; have := HH.out; omega); have HB := Lib.hid (And.intro hB (And.intro hbW (And.intro k0 (And.intro k1 (And.intro k2 k3))))); clear hB hbW k0 k1 k2 k3))
          obtain ⟨hB, hbW, k0, k1, k2, k3⟩ := HB.out
          refine ⟨(others_of_below hB).trans ((KeepsOthers.setCell _ _ _).trans (KeepsOthers.setCell _ _ _)), ⟨(k0.set _).other (by omega) _, (k1.other (by omega) _).set _, queryP_bad HN.out.2.2 (pairOf_none1 (by rw [← HN.out.1]; exact HU.out))⟩, ?_⟩
          exact ((HI.out.2.2.2.2.2.2.trans hbW).setCell (p := ⟨h, 0, none⟩) (Nat.le_refl _) _).setCell (p := ⟨h + 1, 0, none⟩) (by show h ≤ h + 1; omega) _

        | some r2 =>
          rw [hu2] at cU2
          clear hu2
          gi_wp2_with (first
            | (refine ⟨trivial, ?_⟩; gi_at_call 37; refine (CallsIn.inRound lp (callsIn_wide.2 (cC.out _))).mono ?_; rintro e w1 ⟨hp1, hb1⟩; obtain ⟨bb, rfl⟩ := cutPost_eq hp1; clear hp1; rw [← HN.out.1, ← HN.out.2.1]; unfold strOf)
            | (refine ⟨trivial, ?_⟩; gi_at_call 12; refine (CallsIn.inRound lp (callsIn_wide.2 (cU1.out _))).mono ?_; clear cU1; rintro e w2 ⟨rfl, hb2⟩)
            | (refine ⟨trivial, ?_⟩; gi_at_call 12; refine (CallsIn.inRound lp (callsIn_wide.2 (cU2.out _))).mono ?_; clear cU2; rintro e w3 ⟨rfl, hb3⟩; have hB := gt (gt hb1 hb2) hb3; clear hb1 hb2 hb3; have k0 : Boxed w3 h 31 _ := (hB.block _ HI.out.2.2.2.1.lt).trans HI.out.2.2.2.1; have k1 : Boxed w3 (h + 1) 25 _ := (hB.block _ HI.out.2.2.2.2.1.lt).trans HI.out.2.2.2.2.1; have k2 : Boxed w3 (h + 2) 31 _ := (hB.block _ HI.out.2.1.lt).trans HI.out.2.1; have k3 : Boxed w3 (h + 3) 9 _ := (hB.block _ HI.out.2.2.2.2.2.1.lt).trans HI.out.2.2.2.2.2.1; have f0 := k0.frozen; have f1 := k1.frozen; have f2 := k2.frozen; have c0 := k0.cell; have c1 := k1.cell; have c2 := k2.cell; have hbW : Below h W w3 := hB.mono (by have := HI.out.2.2.2.2.2.2.size; have := HH.out; omega); have HB := Lib.hid (And.intro hB (And.intro hbW (And.intro k0 (And.intro k1 (And.intro k2 k3))))); clear hB hbW k0 k1 k2 k3))
          obtain ⟨hB, hbW, k0, k1, k2, k3⟩ := HB.out
          refine ⟨(others_of_below hB).trans ((KeepsOthers.setCell _ _ _).trans (KeepsOthers.setCell _ _ _)), ⟨(k0.set _).other (by omega) _, (k1.other (by omega) _).set _, queryP_bad HN.out.2.2 (pairOf_none1 (by rw [← HN.out.1]; exact HU.out))⟩, ?_⟩
          exact ((HI.out.2.2.2.2.2.2.trans hbW).setCell (p := ⟨h, 0, none⟩) (Nat.le_refl _) _).setCell (p := ⟨h + 1, 0, none⟩) (by show h ≤ h + 1; omega) _

      | some r1 =>
        have HU := Lib.hid hu1
        rw [hu1] at cU1
        clear hu1
        cases hu2 : unesc true n2 with
        | none =>
          have HU2 := Lib.hid hu2
          rw [hu2] at cU2
          clear hu2
          gi_wp2_with (first
            | (refine ⟨trivial, ?_⟩; gi_at_call 37; refine (CallsIn.inRound lp (callsIn_wide.2 (cC.out _))).mono ?_; rintro e w1 ⟨hp1, hb1⟩; obtain ⟨bb, rfl⟩ := cutPost_eq hp1; clear hp1; rw [← HN.out.1, ← HN.out.2.1]; unfold strOf)
            | (refine ⟨trivial, ?_⟩; gi_at_call 12; refine (CallsIn.inRound lp (callsIn_wide.2 (cU1.out _))).mono ?_; clear cU1; rintro e w2 ⟨rfl, hb2⟩)
            | (refine ⟨trivial, ?_⟩; gi_at_call 12; refine (CallsIn.inRound lp (callsIn_wide.2 (cU2.out _))).mono ?_; clear cU2; rintro e w3 ⟨rfl, hb3⟩; have hB := gt (gt hb1 hb2) hb3; clear hb1 hb2 hb3; have k0 : Boxed w3 h 31 _ := (hB.block _ HI.out.2.2.2.1.lt).trans HI.out.2.2.2.1; have k1 : Boxed w3 (h + 1) 25 _ := (hB.block _ HI.out.2.2.2.2.1.lt).trans HI.out.2.2.2.2.1; have k2 : Boxed w3 (h + 2) 31 _ := (hB.block _ HI.out.2.1.lt).trans HI.out.2.1; have k3 : Boxed w3 (h + 3) 9 _ := (hB.block _ HI.out.2.2.2.2.2.1.lt).trans HI.out.2.2.2.2.2.1; have f0 := k0.frozen; have f1 := k1.frozen; have f2 := k2.frozen; have c0 := k0.cell; have c1 := k1.cell; have c2 := k2.cell; have hbW : Below h W w3 := hB.mono (by have := HI.out.2.2.2.2.2.2.size; have := HH.out; omega); have HB := Lib.hid (And.intro hB (And.intro hbW (And.intro k0 (And.intro k1 (And.intro k2 k3))))); clear hB hbW k0 k1 k2 k3))
          obtain ⟨hB, hbW, k0, k1, k2, k3⟩ := HB.out
          refine ⟨(others_of_below hB).trans ((KeepsOthers.setCell _ _ _).trans (KeepsOthers.setCell _ _ _)), ⟨(k0.set _).other (by omega) _, (k1.other (by omega) _).set _, queryP_bad HN.out.2.2 (pairOf_none2 (by rw [← HN.out.2.1]; exact HU2.out))⟩, ?_⟩
          exact ((HI.out.2.2.2.2.2.2.trans hbW).setCell (p := ⟨h, 0, none⟩) (Nat.le_refl _) _).setCell (p := ⟨h + 1, 0, none⟩) (by show h ≤ h + 1; omega) _

        | some r2 =>
          have HU2 := Lib.hid hu2
          rw [hu2] at cU2
          clear hu2
          gi_wp2_with (first
            | (refine ⟨trivial, ?_⟩; gi_at_call 37; refine (CallsIn.inRound lp (callsIn_wide.2 (cC.out _))).mono ?_; rintro e w1 ⟨hp1, hb1⟩; obtain ⟨bb, rfl⟩ := cutPost_eq hp1; clear hp1; rw [← HN.out.1, ← HN.out.2.1]; unfold strOf)
            | (refine ⟨trivial, ?_⟩; gi_at_call 12; refine (CallsIn.inRound lp (callsIn_wide.2 (cU1.out _))).mono ?_; clear cU1; rintro e w2 ⟨rfl, hb2⟩)
            | (refine ⟨trivial, ?_⟩; gi_at_call 12; refine (CallsIn.inRound lp (callsIn_wide.2 (cU2.out _))).mono ?_; clear cU2; rintro e w3 ⟨rfl, hb3⟩; have hB := gt (gt hb1 hb2) hb3; clear hb1 hb2 hb3; have k0 : Boxed w3 h 31 _ := (hB.block _ HI.out.2.2.2.1.lt).trans HI.out.2.2.2.1; have k1 : Boxed w3 (h + 1) 25 _ := (hB.block _ HI.out.2.2.2.2.1.lt).trans HI.out.2.2.2.2.1; have k2 : Boxed w3 (h + 2) 31 _ := (hB.block _ HI.out.2.1.lt).trans HI.out.2.1; have k3 : Boxed w3 (h + 3) 9 _ := (hB.block _ HI.out.2.2.2.2.2.1.lt).trans HI.out.2.2.2.2.2.1; have f0 := k0.frozen; have f1 := k1.frozen; have f2 := k2.frozen; have c0 := k0.cell; have c1 := k1.cell; have c2 := k2.cell; have hbW : Below h W w3 := hB.mono (by have := HI.out.2.2.2.2.2.2.size; have := HH.out; omega); have HB := Lib.hid (And.intro hB (And.intro hbW (And.intro k0 (And.intro k1 (And.intro k2 k3))))); clear hB hbW k0 k1 k2 k3)
            | (gi_at_builtin; refine wpListIn_append_own _ rfl _ _ 31 rfl h 51 i0 (.agg #[.string ⟨#[]⟩, .string ⟨#[]⟩]) 2 32 Tryd.underlying31 hi hz0 hz1 hz2 rfl (by decide) _ _ _ rfl ((own_belowB HI.out.2.2.1 HB.out.1).alloc _) ⟨w3.heap.size, 0, none⟩ 1 1 [.string ⟨r1.toArray⟩, .string ⟨r2.toArray⟩] rfl rfl (cell_two_new _ _ _ _) (by simp [Value.oneCell']) (by unfold maxLen; omega) (by omega) (by have := HB.out.2.1.size; have := HI.out.2.2.2.2.2.2.size; have := HH.out; simp; omega) ?_; intro v' w4 hown' hgrow _; obtain ⟨g', cap', rfl⟩ := ownsRow_succ hown'; clear c0 c1 c2 f0 f1 f2; have hv1 := ((HB.out.2.2.2.2.1.alloc _).kept hgrow (HB.out.2.2.2.2.1.not_row (by decide) (own_belowB HI.out.2.2.1 HB.out.1))); have hc1 := hv1.cell; have hf1 := hv1.frozen; have HG := Lib.hid (And.intro hown' hgrow); clear hown' hgrow hv1))
          obtain ⟨hB, hbW, k0, k1, k2, k3⟩ := HB.out
          obtain ⟨hown', hgrow⟩ := HG.out
          have hr3 := own_belowB HI.out.2.2.1 hB
          obtain ⟨hv1, hv2, hr2, hk2, hb2⟩ := k2.appended (by decide) hr3 (by have := hbW.size; have := HI.out.2.2.2.2.2.2.size; have := HH.out; omega) (by omega) hown' hgrow
          have hqq := queryP_more HN.out.2.2 HI.out.1 (pairOf_some (by rw [← HN.out.1]; exact HU.out) (by rw [← HN.out.2.1]; exact HU2.out))
          have k4 : Boxed w3 (h + 4) 9 _ := (hB.block _ H45.out.1.lt).trans H45.out.1
          have k5 : Boxed w3 (h + 5) 3 _ := (hB.block _ H45.out.2.lt).trans H45.out.2
          have e3 := (k3.alloc _).kept hgrow (k3.not_row (by decide) hr3)
          have e4 := (k4.alloc _).kept hgrow (k4.not_row (by decide) hr3)
          have e5 := (k5.alloc _).kept hgrow (k5.not_row (by decide) hr3)
          refine ⟨(others_of_below hB).trans hk2, (Kept.below hB ?_).trans ?_, ⟨_, hv2, ?_, by rw [hqq]; rfl⟩, ⟨((k0.alloc _).kept hgrow (k0.not_row (by decide) hr3)).other (by omega) _, ((k1.alloc _).kept hgrow (k1.not_row (by decide) hr3)).other (by omega) _⟩, ⟨⟨_, e3.other (by omega) _⟩, ⟨_, e4.other (by omega) _⟩, ⟨_, e5.other (by omega) _⟩⟩, (HI.out.2.2.2.2.2.2.trans hbW).trans hb2⟩
          · have l3 := HI.out.2.2.2.2.2.1.lt
            have l4 := H45.out.1.lt
            have l5 := H45.out.2.lt
            intro b hb
            simp at hb
            rcases hb with rfl | rfl | rfl <;> assumption
          · intro b hb
            simp at hb
            rcases hb with rfl | rfl | rfl
            · exact (e4.other (by omega) _).trans k4.symm
            · exact (e3.other (by omega) _).trans k3.symm
            · exact (e5.other (by omega) _).trans k5.symm
          · unfold hsOf; rw [hqq]; simpa [PD.cells] using hr2
  case done =>
    rintro D ys W hD rfl ⟨⟨v, hv, hr, hq⟩, ⟨h1, h2⟩, ⟨⟨u3, h3⟩, ⟨u4, h4⟩, ⟨u5, h5⟩⟩, hb⟩ hK
    obtain ⟨hs, hqs⟩ := Option.isSome_iff_exists.1 hq
    have hso : hsOf (splitL 38 l) = hs := by unfold hsOf; rw [hqs]; rfl
    rw [hso] at hr
    obtain ⟨A, n', c', rfl, hn'⟩ := own_form hr
    have f0 := h1.frozen
    have f1 := h2.frozen
    have c0 := h1.cell
    have c1 := h2.cell
    have c2 := hv.cell
    have HI := Lib.hid (And.intro hqs (And.intro hv (And.intro hr (And.intro h1 (And.intro h2 (And.intro h3 hb))))))
    clear hq hqs hv hr h1 h2 h3 h4 h5 hb hso hP hN b0 b1 b2 b3 b4 b5 bB
    gi_wp2
    refine ⟨by simp, .inl ⟨_, _, rfl, run_takeDeferred (((KeepsOthers.setCell _ _ _).trans (KeepsOthers.setCell _ _ _)).same D _ hK rfl), ?_⟩⟩
    obtain ⟨hqs, hv, hr, h1, h2, h3, hb⟩ := HI.out
    subst hn'
    have hK2 := ((KeepsOthers.setCell W ⟨h, 0, none⟩ (.slice A hs.length c')).trans (KeepsOthers.setCell _ ⟨h + 1, 0, none⟩ (.int .i64 0))).same D _ hK rfl
    have g0 := (h1.set (.slice A hs.length c')).other (B' := h + 1) (by omega) (.int .i64 0)
    have g1 := (h2.other (B' := h) (by omega) (.slice A hs.length c')).set (.int .i64 0)
    have r1 := hr.kept (grownBy_setCell' W h (.slice A hs.length c')) (.inr (h1.not_row (by decide) hr).symm)
    have r2 := r1.kept (grownBy_setCell' _ (h + 1) (.int .i64 0)) (.inr ((h2.other (B' := h) (by omega) (.slice A hs.length c')).not_row (by decide) r1).symm)
    have r3 := ownsRow_putObj r2 (.deferred none) hK2 rfl
    have c0 := (cell_kept g0.cell (grownBy_putObj' _ D (.deferred none)) (fun r e => by cases e; exact ⟨_, hK2, rfl⟩))
    have c1 := (cell_kept g1.cell (grownBy_putObj' _ D (.deferred none)) (fun r e => by cases e; exact ⟨_, hK2, rfl⟩))
    refine ⟨_, by simp [results, Tryd.results16, go_sem, c0, c1]; rfl, ?_⟩
    unfold QPost queryL
    rw [hqs, ← HH.out]
    refine ⟨⟨_, rfl, r3⟩, ?_⟩
    exact (((hb.setCell (p := ⟨h, 0, none⟩) (Nat.le_refl _) _).setCell (p := ⟨h + 1, 0, none⟩) (by show h ≤ h + 1; omega) _)).trans (belowK_b (w := w0) (by omega) _ D _ _ hD hK2 rfl rfl)
  case stop =>
    rintro D pre W hD hpre ⟨⟨h1, h2, hq⟩, hb⟩ hK
    gi_wp2
    refine ⟨by simp, .inl ⟨_, _, rfl, run_takeDeferred hK, ?_⟩⟩
    have c0 := (cell_kept h1.cell (grownBy_putObj' W D (.deferred none)) (fun r e => by cases e; exact ⟨_, hK, rfl⟩))
    have c1 := (cell_kept h2.cell (grownBy_putObj' W D (.deferred none)) (fun r e => by cases e; exact ⟨_, hK, rfl⟩))
    refine ⟨_, by simp [results, Tryd.results16, go_sem, c0, c1]; rfl, ?_⟩
    unfold QPost queryL
    rw [queryP_stop hq hpre, ← HH.out]
    exact ⟨rfl, hb.trans (belowK_b (w := w0) (by omega) W D _ _ hD hK rfl rfl)⟩
end Go.Proofs.YtompcngeikjfiaaDoor.Uri
