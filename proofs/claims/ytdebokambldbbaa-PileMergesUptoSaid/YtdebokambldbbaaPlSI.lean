/- pile.Sorted over I. -/
import Derived.Test.YtdebokambldbbaaPlEI
namespace Go.Proofs.Ytdebokambldbbaa.PileI
open Go.RowKit Go.Shelf Go.Proofs.Ytdebokambldbbaa.Mem Go.Proofs.Ytdebokambldbbaa.Heap Go.Proofs.Ytdebokambldbbaa.Pile Go.Proofs.Ytdebokambldbbaa.Drain
attribute [local go_sem] Oper.semAt_some
set_option linter.unusedVariables false
set_option linter.unusedSectionVars false
set_option maxRecDepth 100000
set_option maxHeartbeats 6400000

theorem ET : Elt Try.prog 32 35 [.int .i64 0, .int .i64 0] 16 := Elt.mkN (z := zv) Try.underlying32 (by kernel_rfl) rfl (by decide)
section
variable {β : Type} [Inhabited β] {th : Th β 2}
theorem rv_at {W : World} {A : Option Addr} {l : List β} (h : RV W A (l.flatMap th.cells)) {k : Nat} (hk : k < l.length) : ∃ ad, A = some ad ∧ ∀ j v, (th.cells l[k])[j]? = some v → W.cell? (ad.add (k * 2 + j)) = some v := by
  have hlen : (l.flatMap th.cells).length = l.length * 2 := by
    clear h hk
    induction l with
    | nil => simp
    | cons a r ih => rw [List.flatMap_cons, List.length_append, ih, th.len, List.length_cons, Nat.add_mul, Nat.one_mul, Nat.add_comm]
  have hin : ∀ j, j < 2 → k * 2 + j < (l.flatMap th.cells).length := fun j hj => by
    rw [hlen]; have := Nat.mul_le_mul_right 2 hk; rw [Nat.succ_mul] at this; omega
  obtain ⟨ad, hA, _⟩ := h (k * 2 + 0) (hin 0 (by decide))
  refine ⟨ad, hA, fun j v hv => ?_⟩
  have hj : j < 2 := by rw [← th.len l[k]]; exact (List.getElem?_eq_some_iff.1 hv).1
  obtain ⟨ad', hA', hc⟩ := h (k * 2 + j) (hin j hj)
  rw [hA] at hA'; cases hA'
  rw [hc]
  have := flat_at th.cells 2 l k j hk (fun a _ => th.len a) hj
  rw [List.getElem?_eq_getElem (hin j hj)] at this
  rw [← this] at hv
  exact hv
theorem load_rv {W : World} {g off : Nat} {l : List β} {k : Nat} (hk : k < l.length) (h : ∀ j v, (th.cells l[k])[j]? = some v → W.cell? ((⟨g, off, none⟩ : Addr).add (k * 2 + j)) = some v) : (Instr.loadAt 35 (.pointer (some ⟨g, off + k * 2, none⟩))).run Try.prog W = .ok (vl th l[k]) W := by
  obtain ⟨d, hu, hd⟩ := AT.und
  exact run_loadAt_mid W g (off + k * 2) 35 (th.cells l[k]) d (fun j v hj => by have := h j v hj; rw [add_none] at this; rw [Nat.add_assoc]; exact this) hu (by cases d <;> first | rfl | cases hd) (by rw [AT.size, th.len]; rfl)
/-- the state of the drain: what lies in the answer, what has come, what is left -/
structure SD (th : Th β 2) (D : β → Prop) (lt : β → β → Bool) (l : List β) (h bo bd : Nat) (fv : Value) (W0 : World) (o d : List β) (es : List (β × Nat)) (W : World) : Prop where
  pl : ∃ v nx, PlK th W h h v fv es nx
  out : ∃ v, Boxed W bo 32 v ∧ W.ownsRow h 35 2 v o.length (o.flatMap th.cells)
  box : Boxed W bd 30 (.pointer (some ⟨h, 0, none⟩))
  low : Below h W0 W
  all : d ++ (popAll (Heap.ahead lt) es.length es).map (·.1) = Heap.sorted lt l
  dom : ∀ e ∈ es, D e.1
section
variable {D : β → Prop} {lt : β → β → Bool} {l : List β} {h bo bd : Nat} {fv : Value} {W0 W W' : World} {o d : List β} {es : List (β × Nat)}
theorem boxed_turned {row : Option Nat} {b : Nat} {T : TypeId} {v : Value} (hb : Boxed W b T v) (hg : W.grownBy W' row) (hr : ∀ r, row = some r → ∃ o : Obj, W.heap[r]? = some o ∧ o.isCells = false) : Boxed W' b T v := hb.kept hg fun e => by
  obtain ⟨o, ho, hc⟩ := hr b e.symm
  rw [show W.heap[b]? = _ from hb] at ho; cases ho; cases hc
theorem SD.turned {B : Nat} {row : Option Nat} (s : SD th D lt l h bo bd fv W0 o d es W) (hB : h ≤ B) (h0 : h ≤ W0.heap.size) (hg : W.grownBy W' row) (hr : ∀ r, row = some r → B ≤ r ∧ ∃ o : Obj, W.heap[r]? = some o ∧ o.isCells = false) : SD th D lt l h bo bd fv W0 o d es W' := by
  obtain ⟨v, nx, hp⟩ := s.pl
  obtain ⟨u, hb, ho⟩ := s.out
  have hr' : ∀ r, row = some r → ∃ o : Obj, W.heap[r]? = some o ∧ o.isCells = false := fun r e => (hr r e).2
  exact ⟨⟨v, nx, hp.turned hg hr'⟩, ⟨u, boxed_turned hb hg hr', own_turned ho hg hr'⟩, boxed_turned s.box hg hr', s.low.grown hg (Nat.le_trans h0 s.low.size) (fun k e => Nat.le_trans hB (hr k e).1), s.all, s.dom⟩
theorem boxed_by {r1 r2 : Option Nat} {b : Nat} {T : TypeId} {v : Value} (hb : Boxed W b T v) (hg : Grown2 W W' r1 r2) (h1 : some b ≠ r1) (h2 : some b ≠ r2) : Boxed W' b T v := (hg.block b hb.lt h1 h2).trans hb
theorem SD.own (h0 : h ≤ W0.heap.size) {B : Nat} (hB : h ≤ B) {γ : Type} (f : γ → List β) (g : γ → List β) (e : γ → List (β × Nat)) : OwnFrom B (fun (s : γ) W => SD th D lt l h bo bd fv W0 (f s) (g s) (e s) W) := fun s W W' row hs hg hr => hs.turned hB h0 hg hr
/-- a pop within the drain -/
theorem SD.pop (s : SD th D lt l h bo bd fv W0 o d es W) (hL : Less Try.prog h W0 (vl th) D fv lt) (h0 : h ≤ W0.heap.size) (hl : l.length ≤ 1073741824) (hoh : h < bo) (hdh : h < bd) :
    Calls Try.prog 17 #[.pointer (some ⟨h, 0, none⟩)] W fun e W' => KeepsOthers W W' ∧ ((e = .returned (.tuple #[zv, .bool false]) ∧ es = [] ∧ SD th D lt l h bo bd fv W0 o d es W') ∨
      (∃ x, e = .returned (.tuple #[vl th x, .bool true]) ∧ 0 < es.length ∧ SD th D lt l h bo bd fv W0 o (d ++ [x]) (Heap.pop (Heap.ahead lt) es) W')) := by
  obtain ⟨v, nx, hp⟩ := s.pl
  obtain ⟨u, hb, ho⟩ := s.out
  have hlen : es.length ≤ 1152921504606846976 := by
    have h1 := congrArg List.length s.all
    rw [List.length_append, List.length_map, popAll_len, sorted_len] at h1
    omega
  have hs := Nat.le_trans h0 s.low.size
  have n1 : u.ownBlock = none ∨ u.ownBlock ≠ some h := .inr (own_ne_blk ho hp.blk (by decide))
  have n2 : u.ownBlock = none ∨ u.ownBlock ≠ v.ownBlock := own_ne_own ho hp.own (by decide)
  have o1 : some bo ≠ some h := fun e => by injection e with e; omega
  have o2 : some bo ≠ v.ownBlock := hb.not_row (by decide) hp.own
  have d1 : some bd ≠ some h := fun e => by injection e with e; omega
  have d2 : some bd ≠ v.ownBlock := s.box.not_row (by decide) hp.own
  refine (pop_step W hp hL s.low hs (Nat.le_refl _) s.dom hlen).mono ?_
  rintro e W' ⟨hk, hlow, hg, (⟨rfl, rfl, hp'⟩ | ⟨x, r, rfl, hpos, hx, hr, v', hp', hv'⟩)⟩
  · exact ⟨hk, .inl ⟨rfl, rfl, ⟨v, nx, hp'⟩, ⟨u, boxed_by hb hg o1 o2, hg.own ho n1 n2⟩, boxed_by s.box hg d1 d2, hlow, s.all, s.dom⟩⟩
  · refine ⟨hk, .inr ⟨x, rfl, hpos, ⟨v', nx, hr ▸ hp'⟩, ⟨u, boxed_by hb hg o1 o2, hg.own ho n1 n2⟩, boxed_by s.box hg d1 d2, hlow, ?_, fun e he => s.dom e ((pop_perm (ah := Heap.ahead lt) hpos).mem_iff.1 (List.mem_cons_of_mem _ he))⟩⟩
    rw [← s.all, List.append_assoc]
    congr 1
    obtain ⟨m, hm⟩ : ∃ m, es.length = m + 1 := ⟨es.length - 1, by omega⟩
    rw [pop_len, hm, Nat.add_sub_cancel, popAll, List.map_cons, ← hx]
    rfl
end
theorem sorted_any {D : β → Prop} {lt : β → β → Bool} (W : World) (A : Option Addr) (n c : Nat) (l : List β) (fv : Value) (hr : RV W A (l.flatMap th.cells)) (hA : A = none ∨ ∃ g off, A = some ⟨g, off, none⟩) (hn : n = l.length) (hF : FvOk th W fv lt D) (hD : ∀ x ∈ l, D x) (hl : l.length ≤ 1073741824) :
    Calls Try.prog 23 #[.slice A n c, fv] W fun e W' => ∃ v, e = .returned v ∧ W'.ownsRow W.heap.size 35 2 v l.length ((Heap.sorted lt l).flatMap th.cells) ∧ Below W.heap.size W W' := by
  obtain ⟨h, hh⟩ : ∃ h, h = W.heap.size := ⟨_, rfl⟩
  have cN := new_ok (th := th) W fv hF
  have H0 := Lib.hid (And.intro hr (And.intro hn (And.intro hD (And.intro hl hh))))
  have HA := Lib.hid hA
  clear hA
  clear hr hn hD hl hF
  refine (callsIn_wide (n := 4)).1 ?_
  refine callsIn_of_wp_marks Try.func23 rfl trivial ?_ rfl
  simp only [Try.ntmps23, List.size_toArray, List.length_cons, List.length_nil, Nat.reduceAdd, Nat.reduceSub, Array.replicate_succ, Array.replicate_zero, List.push_toArray, List.append_toArray, List.nil_append, List.cons_append]
  gi_wp2_with (refine ⟨trivial, ?_⟩; gi_at_call 25; refine (callsIn_wide.2 cN).mono ?_; rintro e w1 ⟨rfl, ⟨fv', hP1, hL1⟩, hb1⟩)
  have H1 := Lib.hid (And.intro hP1 (And.intro hL1 hb1))
  clear hP1 hL1 hb1
  rw [← hh] at H1
  simp only [← hh]
  clear hh cN
  gi_loopw [14] (fun v14 wr => ∃ (k : Nat) (v : Value), k ≤ n ∧ v14 = .int .i64 k ∧ PlK th wr h h v fv' (Heap.pushAll lt [] 0 (l.take k)) k ∧ Below h W wr) (fun v _ => n - (intOf v).toNat)
  case atStart => exact ⟨0, _, Nat.zero_le _, rfl, H1.out.1, H1.out.2.2⟩
  case round =>
    obtain ⟨k, v, hk, rfl, hP, hb⟩ := hrel
    by_cases hlt : k < n
    · have hbW : Below W.heap.size W wr := by rw [← H0.out.2.2.2.2]; exact hb
      have hkl : k < l.length := by rw [← H0.out.2.1]; exact hlt
      have hki : (k : Int) < (n : Int) := by omega
      have hk0 : (0 : Int) ≤ (k : Int) := by omega
      obtain ⟨ad, hAd, hcs⟩ := rv_at (th := th) (H0.out.1.below hbW) hkl
      obtain ⟨g, off, hgo⟩ : ∃ g off, A = some ⟨g, off, none⟩ := by
        rcases HA.out with h1 | h1
        · rw [h1] at hAd; cases hAd
        · exact h1
      rw [hgo] at hAd
      injection hAd with hAd
      subst hAd
      have hes : (Heap.pushAll lt [] 0 (l.take k)).length = k := by rw [pushAll_len, List.length_take]; simp; omega
      have hstep : Heap.pushAll lt [] 0 (l.take (k + 1)) = Heap.push (Heap.ahead lt) (Heap.pushAll lt [] 0 (l.take k)) (l[k], k) := by
        rw [take_succ_ hkl, pushAll_app, List.length_take, Nat.min_eq_left (by omega), Nat.zero_add]; rfl
      have hdom : ∀ e ∈ Heap.pushAll lt [] 0 (l.take k), D e.1 := fun e he => by
        have h1 := (pushAll_perm lt (l.take k) [] 0).mem_iff.1 he
        rw [List.nil_append] at h1
        have h2 : e.1 ∈ (tag 0 (l.take k)).map (·.1) := List.mem_map_of_mem h1
        rw [tag_map] at h2
        exact H0.out.2.2.1 _ (List.mem_of_mem_take h2)
      have cP : ∀ w2, Below wr.heap.size wr w2 → Calls Try.prog 14 #[.pointer (some ⟨h, 0, none⟩), vl th l[k]] w2 fun e W' => (∃ u, e = .returned u) ∧ ∃ v', PlK th W' h h v' fv' (Heap.pushAll lt [] 0 (l.take (k + 1))) (k + 1) ∧ Below h W W' := fun w2 hb2 => by
        have hle : h ≤ wr.heap.size := by rw [H0.out.2.2.2.2]; exact hb.size
        have hbb : Below h W w2 := hb.trans (hb2.mono hle)
        refine (push_any w2 (hP.grow hb2) H1.out.2.1 hbb (Nat.le_trans hle hb2.size) (Nat.le_refl _) hdom l[k] (H0.out.2.2.1 _ (List.getElem_mem hkl)) (by rw [hes]; have := H0.out.2.2.2.1; omega) (by have := H0.out.2.2.2.1; omega) (by rw [hes]; have := H0.out.2.2.2.1; omega)).mono ?_
        rintro e W' ⟨he, v', hP', hg, _⟩
        rw [hstep]
        exact ⟨he, v', hP', hg.low hbb (Nat.le_trans hle hb2.size) (fun j hj => by cases hj; exact Nat.le_refl _) (fun j hj => (hP.own.lt j hj).1)⟩
      have CP := Lib.hid cP
      have X := Lib.hid (And.intro hk (And.intro hlt hb))
      obtain ⟨y, hy⟩ : ∃ y, y = l[k] := ⟨_, rfl⟩
      have q7 : wrap64 ((k : Int) + 1) = (k : Int) + 1 := wrap_in (by omega) (by have := H0.out.2.2.2.1; omega)
      have hld := load_rv hkl hcs
      rw [← hy] at hld CP
      subst hgo
      clear hy
      clear hcs hbW hkl hes hstep hdom cP hP hk hlt hb
      gi_wp2_with (first
        | ((with_reducible show wpListIn _ _ _ _ _ (⟨some 17, _, _, _, _, _⟩ :: _) _ _)
           go_must (refine wpListIn_val (o := ⟨some 17, _, _, _, _, _⟩) (w' := wr) (v := vl th y) rfl (by simp [execOp, Act.eval, Act.put, hld, Result.andThen]) (fun _ => trivial) (fun c hc => by cases hc) ?_))
        | ((with_reducible show wpListIn _ _ _ _ _ (⟨some 7, _, _, _, _, _⟩ :: _) _ _)
           go_must (refine wpListIn_val (o := ⟨some 7, _, _, _, _, _⟩) rfl (run_allocT rfl) (fun _ => trivial) (fun c hc => by cases hc) ?_)
           obtain ⟨w3, hr3, hB3, hg3, hz3⟩ := run_storeT (th := th) (b := y) (Blk.new wr 35 [.int .i64 0, .int .i64 0]) rfl)
        | ((with_reducible show wpListIn _ _ _ _ _ (⟨none, .store 35 (.tmp 7) _, _, _, _, _⟩ :: _) _ _)
           go_must (refine wpListIn_skip_ (o := ⟨none, .store 35 (.tmp 7) _, _, _, _, _⟩) (w' := w3) rfl (by simp [execOp, Act.eval, Act.put, hr3, Result.andThen]) (fun _ => trivial) (fun c hc => by cases hc) ?_)
           have hb3 : Below wr.heap.size wr w3 := (ga (gr wr) _).grown hg3 (by simp) (fun k hk => by cases hk; exact Nat.le_refl _))
        | ((with_reducible show wpListIn _ _ _ _ _ (⟨some 19, _, _, _, _, _⟩ :: _) _ _)
           go_must (refine wpListIn_val (o := ⟨some 19, _, _, _, _, _⟩) (w' := w3) (v := vl th y) rfl (by simp [execOp, Act.eval, Act.put, loadT hB3 (whole_of y), Result.andThen]) (fun _ => trivial) (fun c hc => by cases hc) ?_))
        | (refine ⟨trivial, ?_⟩; gi_at_call 14; refine (callsIn_wide.2 (CP.out _ hb3)).mono ?_; rintro e w4 ⟨⟨u, rfl⟩, v', hP4, hb4⟩))
      go_roundw
      case rel => exact ⟨k + 1, v', X.out.2.1, by go_num, hP4, hb4⟩
      case measure =>
        rw [q7]
        exact meas_in X.out.2.1
    · obtain rfl : k = n := by omega
      obtain ⟨ti, tz, hti, htz, hts, htb, htc⟩ := ET.inf
      have hkb : ti.bytes * k ≤ 281474976710656 := by rw [htb]; have := H0.out.2.1; have := H0.out.2.2.2.1; omega
      have hkm : k ≤ maxLen := by have := H0.out.2.1; have := H0.out.2.2.2.1; unfold maxLen; omega
      have hhw : h ≤ wr.heap.size := by rw [H0.out.2.2.2.2]; exact hb.size
      have X := Lib.hid (And.intro hP (And.intro hb hhw))
      clear hP hb hhw hk hlt
      gi_wp2_with (first
        | (gi_at_make; refine wpListIn_make_own _ rfl _ _ 32 rfl h 35 ti tz 2 Try.underlying32 hti htz hts .i64 .i64 k k rfl rfl rfl hkb hkm X.out.2.2 ?_; intro w2 ho2 hg2)
        | (refine ⟨trivial, ?_⟩; gi_at_call 21; refine (callsIn_wide.2 (drain_any _ _ ⟨_, rfl⟩)).mono ?_; rintro e w4 ⟨rfl, hbx4, hw4⟩))
      obtain ⟨bo, hbo⟩ : ∃ bo, bo = w2.heap.size := ⟨_, rfl⟩
      simp only [World.size_alloc, ← hbo] at hbx4
      simp only [← hbo]
      rw [← hw4]
      have hhw := X.out.2.2
      have hhb : h < bo := by rw [hbo]; exact Nat.lt_of_lt_of_le X.out.1.blk.lt hg2.size
      have hP5 : PlK th w4 h h v fv' (Heap.pushAll lt [] 0 l) k := by
        have h1 := X.out.1
        rw [H0.out.2.1, List.take_length] at h1
        rw [← H0.out.2.1] at h1
        have h2 : PlK th w2 h h v fv' (Heap.pushAll lt [] 0 l) k := h1.turned hg2 (fun r e => by cases e)
        rw [hw4]
        exact (h2.grow (ga (gr w2) _)).grow (ga (gr _) _)
      have hs0 : SD th D lt l h bo (bo + 1) fv' W [] [] (Heap.pushAll lt [] 0 l) w4 := by
        refine ⟨⟨v, k, hP5⟩, ⟨.slice (some ⟨wr.heap.size, 0, none⟩) 0 k, ?_, ?_⟩, hbx4, ?_, ?_, fun e he => ?_⟩
        · rw [hw4, hbo]; exact (Boxed.new _ _ _).alloc _
        · rw [hw4]; exact (ho2.alloc _).alloc _
        · have h1 : Below h W w2 := X.out.2.1.grown hg2 hhw (fun j hj => by cases hj)
          rw [hw4]
          exact (h1.alloc (Nat.le_trans hhw hg2.size) _).alloc (by simp; have := hg2.size; omega) _
        · rw [List.nil_append, pushAll_len]; simp [Heap.sorted]
        · have h1 := (pushAll_perm lt l [] 0).mem_iff.1 he
          rw [List.nil_append] at h1
          have h2 : e.1 ∈ (tag 0 l).map (·.1) := List.mem_map_of_mem h1
          rw [tag_map] at h2
          exact H0.out.2.2.1 _ h2
      have h4s : h ≤ w4.heap.size := Nat.le_of_lt hP5.blk.lt
      have hWh : h ≤ W.heap.size := by rw [H0.out.2.2.2.2]; exact Nat.le_refl _
      clear hP5 hw4 hbx4 hbo hg2 ho2
      refine wpIn_range_drain (gf := 47) (lb := #[.pointer (some ⟨bo + 1, 0, none⟩)]) rfl (enters_of Try.func47 (by kernel_rfl) rfl) (drain_seq (th := th) (bo + 1) (.pointer (some ⟨h, 0, none⟩))) rfl
        (fun s : List β × List (β × Nat) => s.2.length) (fun s W' => SD th D lt l h bo (bo + 1) fv' W s.1 s.1 s.2 W') (fun s W' => s.2 = [] ∧ SD th D lt l h bo (bo + 1) fv' W s.1 s.1 s.2 W') (fun _ _ _ => False)
        (fun s x W' => 0 < s.2.length ∧ SD th D lt l h bo (bo + 1) fv' W s.1 (s.1 ++ [x]) (Heap.pop (Heap.ahead lt) s.2) W')
        (SD.own hWh h4s _ _ _) (fun x => OwnFrom.and (ownFrom_pure _ _) (SD.own hWh h4s _ _ _)) (OwnFrom.and (ownFrom_pure _ _) (SD.own hWh h4s _ _ _)) (fun _ _ _ _ _ hs _ _ => hs)
        (fun s W' hs => hs.box) (fun s W' hs => (hs.pop H1.out.2.1 hWh H0.out.2.2.2.1 hhb (by omega)).mono fun e W2 ⟨hk, hor⟩ => ⟨hk, hor⟩) ([], Heap.pushAll lt [] 0 l) hs0
        (fun x a' W' => ∃ b, Blk W' b 35 (th.cells x) ∧ a' = { tmps := #[.slice A k c, fv, undef, undef, .slice none 0 0, .pointer (some ⟨h, 0, none⟩), undef, u7, .pointer (some ⟨bo, 0, none⟩), .pointer (some ⟨b, 0, none⟩), fv, .pointer (some ⟨h, 0, none⟩), .slice A k c, .int .i64 k, .int .i64 k, .bool false, u16, u17, u18, u19, u20, u21, .slice A k c, .int .i64 k, .slice (some ⟨wr.heap.size, 0, none⟩) 0 k, .pointer (some ⟨h, 0, none⟩), .func (.func 47) #[] #[.pointer (some ⟨bo + 1, 0, none⟩)], vl th x, undef, undef, undef, undef, undef], defers := [] }) (fun x a' => fun s W1 W2 row ⟨b, hb, he⟩ hg hr => ⟨b, blk_turned hb hg (fun r e => (hr r e).2), he⟩) ?assign ?body ?done ?stop
      case assign =>
        intro l1 s x W1 K hI hK
        have HI := Lib.hid hI
        clear hI
        gi_wp2_with (first
          | ((with_reducible show wpListIn _ _ _ _ _ (⟨some 9, _, _, _, _, _⟩ :: _) _ _)
             go_must (refine wpListIn_val (o := ⟨some 9, _, _, _, _, _⟩) rfl (run_allocT rfl) (fun _ => trivial) (fun c hc => by cases hc) ?_)
             obtain ⟨w3, hr3, hB3, hg3, hz3⟩ := run_storeT (th := th) (b := x) (Blk.new W1 35 [.int .i64 0, .int .i64 0]) rfl)
          | ((with_reducible show wpListIn _ _ _ _ _ (⟨none, .store 35 (.tmp 9) _, _, _, _, _⟩ :: _) _ _)
             go_must (refine wpListIn_skip_ (o := ⟨none, .store 35 (.tmp 9) _, _, _, _, _⟩) (w' := w3) rfl (by simp [execOp, Act.eval, Act.put, hr3, Result.andThen]) (fun _ => trivial) (fun c hc => by cases hc) ?_)))
        have hb3 : Below W1.heap.size W1 w3 := (ga (gr W1) _).grown hg3 (by simp) (fun k hk => by cases hk; exact Nat.le_refl _)
        exact hK _ _ (keepsOthers_below hb3) ⟨_, hB3, rfl⟩ ⟨HI.out.1, HI.out.2.turned (row := none) h4s hWh ⟨hb3.os, hb3.tape, hb3.output, hb3.size, fun k hk _ => hb3.block k hk⟩ (fun r e => by cases e)⟩
      case body =>
        rintro l1 s x a' W1 ⟨hpos, hS⟩ ⟨b, hbx, rfl⟩
        obtain ⟨vp, nx, hp⟩ := hS.pl
        obtain ⟨u, hbu, hou⟩ := hS.out
        obtain ⟨Au, nu, cu_, rfl, hnu⟩ := own_form hou
        subst hnu
        have cu := hbu.cell
        have hlo : s.1.length < 1073741824 := by
          have h1 := congrArg List.length hS.all
          simp only [List.length_append, List.length_map, popAll_len, sorted_len, List.length_cons, List.length_nil] at h1
          have := H0.out.2.2.2.1
          omega
        have hsz : h ≤ W1.heap.size := Nat.le_trans hWh hS.low.size
        have X1 := Lib.hid (And.intro hpos (And.intro hS (And.intro hp (And.intro hbu (And.intro hou (And.intro hlo hsz))))))
        clear hpos hS hp hbu hou hlo hsz
        gi_wp2_with (first
          | ((with_reducible show wpListIn _ _ _ _ _ (⟨some 29, _, _, _, _, _⟩ :: _) _ _)
             go_must (refine wpListIn_val (o := ⟨some 29, _, _, _, _, _⟩) (w' := W1) (v := vl th x) rfl (by simp [execOp, Act.eval, Act.put, loadT hbx (whole_of x), Result.andThen]) (fun _ => trivial) (fun c hc => by cases hc) ?_))
          | ((with_reducible show wpListIn _ _ _ _ _ (⟨some 30, _, _, _, _, _⟩ :: _) _ _)
             go_must (refine wpListIn_val (o := ⟨some 30, _, _, _, _, _⟩) rfl (run_build1 ET (.tmp 29) rfl (by decide) (th.cells x) (by rw [← vl_cells x]; rfl) (th.len x)) (fun _ => trivial) (fun c hc => by cases hc) ?_))
          | ((with_reducible show wpListIn _ _ _ _ _ (⟨some 31, _, _, _, _, _⟩ :: _) _ _)
             go_must (refine wpListIn_app1 ET (o := ⟨some 31, _, _, _, _, _⟩) rfl (fun _ => trivial) (.tmp 28) (.tmp 30) rfl h (.slice Au s.1.length cu_) s.1.length _ rfl (X1.out.2.2.2.2.1.alloc _) ⟨W1.heap.size, 0, none⟩ 1 1 (th.cells x) rfl (rv_new W1 (th.cells x) 35) (by rw [th.len]; rfl) (th.one x) (by have := X1.out.2.2.2.2.2.1; unfold maxLen; omega) (by have := X1.out.2.2.2.2.2.1; omega) (by simp; have := X1.out.2.2.2.2.2.2; omega) ?_)
             intro v' w3 ho3 hg3 hv3
             obtain ⟨g', cap', rfl⟩ := ownsRow_succ ho3
             obtain ⟨hv1, hv2, hr2, hk2, hb2⟩ := X1.out.2.2.2.1.appended (by decide) X1.out.2.2.2.2.1 X1.out.2.2.2.2.2.2 (Nat.le_of_lt hhb) ho3 hg3
             have hG := Boxed.pushed X1.out.2.2.2.1 (by decide) X1.out.2.2.2.2.1 X1.out.2.2.2.2.2.2 (Nat.le_of_lt hhb) ho3 hg3
             have hc1 := hv1.cell
             have hf1 := hv1.frozen
             have X2 := Lib.hid (And.intro hv2 (And.intro hr2 (And.intro hk2 (And.intro hb2 hG))))
             clear hv1 hv2 hr2 hk2 hb2 hG ho3 hg3 hv3))
        obtain ⟨hv2, hr2, hk2, hb2, hG⟩ := X2.out
        obtain ⟨hpos, hS, hp, hbu, hou, hlo, hsz⟩ := X1.out
        have nb : ∀ {b : Nat} {T : TypeId} {z : Value}, Boxed W1 b T z → T ≠ 35 → b ≠ bo → Boxed (w3.setCell ⟨bo, 0, none⟩ (.slice (some ⟨g', 0, none⟩) (s.1.length + 1) cap')) b T z := fun hbx hT hne => boxed_by hbx hG (fun e => by injection e with e; exact hne e) (hbx.not_row hT hou)
        refine ⟨hk2, (s.1 ++ [x], Heap.pop (Heap.ahead lt) s.2), by show (Heap.pop (Heap.ahead lt) s.2).length < s.2.length; rw [pop_len]; omega, ⟨⟨vp, nx, hp.kept fun k hk hor => hG.block k hk (fun e => ?_) (fun e => ?_)⟩, ⟨_, hv2, ?_⟩, nb hS.box (by decide) (by omega), hS.low.trans hb2, hS.all, hS.dom⟩⟩
        · injection e with e
          rcases hor with h1 | h1
          · omega
          · subst e; exact (hbu.not_row (by decide) hp.own) h1.symm
        · rcases hor with h1 | h1
          · subst h1; exact own_ne_blk hou hp.blk (by decide) e.symm
          · rcases own_ne_own hou hp.own (by decide) with h2 | h2
            · rw [h2] at e; cases e
            · exact h2 (e.symm.trans h1.symm)
        · rw [List.length_append, List.flatMap_append, List.flatMap_cons, List.flatMap_nil, List.append_nil]
          exact hr2
      case done =>
        rintro Dd s W2 hDd ⟨hnil, hS⟩ hK
        obtain ⟨u, hbu, hou⟩ := hS.out
        obtain ⟨Au, nu, cu_, rfl, hnu⟩ := own_form hou
        subst hnu
        have cu := hbu.cell
        have X1 := Lib.hid (And.intro hnil (And.intro hS (And.intro hbu hou)))
        clear hnil hS hbu hou
        gi_wp2
        refine ⟨by simp, .inl ⟨_, _, rfl, run_takeDeferred hK, ?_⟩⟩
        obtain ⟨hnil, hS, hbu, hou⟩ := X1.out
        have hall := hS.all
        rw [hnil] at hall
        simp only [List.length_nil, popAll, List.map_nil, List.append_nil] at hall
        have hlen : s.1.length = l.length := by rw [hall, sorted_len]
        refine ⟨_, by simp [results, Try.results23, go_sem]; rfl, ?_⟩
        refine ⟨_, rfl, ?_, ?_⟩
        · have h1 := ownsRow_putObj hou (.deferred none) hK rfl
          rw [hlen, hall] at h1
          rw [← H0.out.2.2.2.2, ← hlen, hlen]
          exact h1
        · rw [← H0.out.2.2.2.2]
          exact hS.low.trans (belowK_b (w := w4) h4s W2 Dd _ _ hDd hK rfl rfl)
      case stop => exact fun _ _ _ _ _ hs => hs.elim
end
end Go.Proofs.Ytdebokambldbbaa.PileI
