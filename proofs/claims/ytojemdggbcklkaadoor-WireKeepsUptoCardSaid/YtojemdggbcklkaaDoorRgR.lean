/- As YtojemdggbcklkaaDoorRg, the growth of the world told by any relation: so a block that the region made may be stored into within it. Plain theorems over any program. -/
import Derived.Test.YtojemdggbcklkaaDoorRg
namespace Go.Proofs.YtojemdggbcklkaaDoor.Mem
open Go.RowKit

/-- What is asked of operation number i. -/
structure RrOb (R : World → World → Prop) (P : Program) (Q : Exit → Act → World → Prop) (T : Array Value) (df : List Deferred) (w : World) (l : List Oper) (sp : List Sp) (i : Nat) (o : Oper) (s : Sp) : Prop where
  out : ∀ (x : Nat → Value) (w' : World), R w w' →
    (∀ e ∈ o.after.toList, Region.binds .any e = true → ∀ s', sp[e.on]? = some s' → s'.holds x w') →
    (∀ o' ∈ l, predOf o' i = true → ∀ d, o'.dst = some d → x d = T.getD d undef) →
    ∀ K : Act → World → Prop, (∀ v w'', R w' w'' → s.holds (rgUpd x o.dst v) w'' → (∀ b ∈ s.own (rgUpd x o.dst v), w'.heap.size ≤ b ∧ b < w''.heap.size) → K (({ tmps := putMany T (rgDsts l) x, defers := df } : Act).put o.dst v) w'') →
      if Region.wanted o (yielded l.toArray (putMany T (rgDsts l) x)) = true then o.wp P { tmps := putMany T (rgDsts l) x, defers := df } w' K Q
      else K (({ tmps := putMany T (rgDsts l) x, defers := df } : Act).put o.dst undef) w'

def RrObs (R : World → World → Prop) (P : Program) (Q : Exit → Act → World → Prop) (T : Array Value) (df : List Deferred) (w : World) (l : List Oper) (sp : List Sp) : Nat → List Oper → List Sp → Prop
  | i, o :: r, s :: q => RrOb R P Q T df w l sp i o s ∧ RrObs R P Q T df w l sp (i + 1) r q
  | _, _, _ => True


theorem RrObs_at {R : World → World → Prop} {P : Program} {Q : Exit → Act → World → Prop} {T : Array Value} {df : List Deferred} {w : World} {l : List Oper} {sp : List Sp} : ∀ {k : Nat} {r : List Oper} {q : List Sp}, RrObs R P Q T df w l sp k r q →
    ∀ (j : Nat) (o : Oper) (s : Sp), r[j]? = some o → q[j]? = some s → RrOb R P Q T df w l sp (k + j) o s
  | k, o :: r, s :: q, h, 0, o', s', ho, hs => by
    simp at ho hs
    subst ho hs
    exact h.1
  | k, o :: r, s :: q, h, j + 1, o', s', ho, hs => by
    have := RrObs_at h.2 j o' s' (by simpa using ho) (by simpa using hs)
    rw [show k + (j + 1) = k + 1 + j by omega]
    exact this
  | _, [], _, _, _, _, _, ho, _ => by simp at ho
  | _, _ :: _, [], _, _, _, _, _, hs => by simp at hs


section
variable {R : World → World → Prop} {P : Program} {Q : Exit → Act → World → Prop} {T : Array Value} {df : List Deferred} {w : World} {l : List Oper} {sp : List Sp}

structure RrInvT (R : World → World → Prop) (T : Array Value) (w : World) (l : List Oper) (n : Nat) (sp : List Sp) (listed : Array Bool) (x : Nat → Value) (w' : World) : Prop where
  size : listed.size = l.length
  closed : ∀ (j : Nat) (o : Oper), l[j]? = some o → listed.getD j false = true → ∀ e ∈ o.after.toList, Region.binds .any e = true → listed.getD e.on false = true
  tail : ∀ t, n ≤ t → t < l.length → listed.getD t true = false
  grow : R w w'
  held : ∀ (i : Nat) (s : Sp), sp[i]? = some s → listed.getD i false = true → s.holds x w'
  new_ : ∀ (i : Nat) (s : Sp), sp[i]? = some s → listed.getD i false = true → ∀ b ∈ s.own x, b < w'.heap.size
  apart : ∀ (i j : Nat) (s s' : Sp), sp[i]? = some s → sp[j]? = some s' → listed.getD i false = true → listed.getD j false = true → i ≠ j → ∀ b ∈ s.own x, b ∉ s'.own x
  rest : ∀ (i : Nat) (o : Oper) (d : Nat), (l.take n)[i]? = some o → o.dst = some d → listed.getD i false = false → x d = T.getD d undef


theorem rr_anyT {n : Nat} (hRt : ∀ a b c, R a b → R b c → R a c) (hRs : ∀ a b, R a b → a.heap.size ≤ b.heap.size) (hc : rgOk (l.take n) sp = true) (ht : rgTailOk l n = true) (hst : ∀ s ∈ sp, ∀ vs w1 w2, s.φ vs w1 → R w1 w2 → s.φ vs w2) (hob : RrObs R P Q T df w (l.take n) sp 0 (l.take n) sp)
    (hwant : ∀ (i : Nat) (o : Oper) (x : Nat → Value), (l.take n)[i]? = some o → Region.wanted o (yielded l.toArray (putMany T (rgDsts (l.take n)) x)) = Region.wanted o (yielded (l.take n).toArray (putMany T (rgDsts (l.take n)) x)))
    (hfin : ∀ x w', R w w' → RgAll x w' sp → RgApart x sp → wpList P l.toArray Q (l.drop n) { tmps := putMany T (rgDsts (l.take n)) x, defers := df } w') :
    ∀ (m : Nat) (listed : Array Bool) (x : Nat → Value) (w' : World), RrInvT R T w l n sp listed x w' → toCome n listed = m →
      wpAny P .any l.toArray Q (m + (l.length - n)) listed { tmps := putMany T (rgDsts (l.take n)) x, defers := df } w' := by
  simp only [rgTailOk, Bool.and_eq_true, decide_eq_true_eq] at ht
  obtain ⟨⟨⟨hn, hsink⟩, hchain⟩, hseq⟩ := ht
  simp only [rgOk, Bool.and_eq_true, decide_eq_true_eq] at hc
  obtain ⟨⟨⟨hlen, hnd⟩, hback⟩, hdeps⟩ := hc
  have hln : (l.take n).length = n := by simp; omega
  have hget : ∀ i, i < n → (l.take n)[i]? = l[i]? := fun i hi => by rw [List.getElem?_take]; simp [hi]
  have hb : ∀ (i : Nat) (o : Oper), (l.take n)[i]? = some o → ∀ e ∈ o.after.toList, Region.binds .any e = true → e.on < i := by
    intro i o ho e he hbe
    have h1 := List.all_eq_true.1 hback (o, i) (by rw [List.mem_zipIdx_iff_getElem?]; exact ho)
    have h2 := List.all_eq_true.1 h1 e he
    simpa [hbe] using h2
  have hd : ∀ (j : Nat) (o : Oper) (s : Sp), (l.take n)[j]? = some o → sp[j]? = some s → ∀ t ∈ s.deps, o.dst = some t ∨ ∃ k o', (l.take n)[k]? = some o' ∧ o'.dst = some t ∧ predOf o k = true := by
    intro j o s ho hs t ht
    have hm : (o, s) ∈ (l.take n).zip sp := List.mem_of_getElem? (i := j) (by rw [List.getElem?_zip_eq_some]; exact ⟨ho, hs⟩)
    have h1 := List.all_eq_true.1 (List.all_eq_true.1 hdeps (o, s) hm) t ht
    simp only [Bool.or_eq_true, beq_iff_eq] at h1
    rcases h1 with h1 | h1
    · exact .inl h1
    · obtain ⟨⟨o', k⟩, hk, h2⟩ := List.any_eq_true.1 h1
      simp only [Bool.and_eq_true, beq_iff_eq] at h2
      rw [List.mem_zipIdx_iff_getElem?] at hk
      exact .inr ⟨k, o', hk, h2.1, h2.2⟩
  intro m
  induction m with
  | zero =>
    intro listed x w' inv hm
    have hall : ∀ i, i < n → listed.getD i true = true := by
      intro i hi
      cases hl : listed.getD i true with
      | true => rfl
      | false =>
        unfold toCome at hm
        have : i ∈ (List.range n).filter fun i => !listed.getD i true := by
          rw [List.mem_filter, List.mem_range]
          exact ⟨hi, by rw [hl]; rfl⟩
        have := List.length_pos_of_mem this
        omega
    have hL : listed = Array.replicate n true ++ Array.replicate (l.length - n) false := by
      apply Array.ext_getElem?
      intro t
      by_cases htn : t < n
      · have h1 := hall t htn
        have h2 : t < listed.size := by rw [inv.size]; omega
        rw [Array.getElem?_append_left (by simpa using htn)]
        simp [h2] at h1
        simp [h2, htn, h1]
      · by_cases htl : t < l.length
        · have h1 := inv.tail t (by omega) htl
          have h2 : t < listed.size := by rw [inv.size]; omega
          have h3 : listed[t] = false := by simpa [h2] using h1
          rw [Array.getElem?_append_right (by simp; omega), Array.size_replicate, Array.getElem?_eq_getElem h2, h3, Array.getElem?_replicate, if_pos (by omega)]
        · rw [Array.getElem?_eq_none (by rw [inv.size]; omega), Array.getElem?_eq_none (by simp; omega)]
    rw [Nat.zero_add]
    have hlst : (l.drop n).length = l.length - n := by simp
    rw [← hlst]
    refine wpAny_of_seq (l.drop n) n listed _ w' (fun j => by simp [List.getElem?_drop]) (by rw [hlst, hL]; exact hseq) ?_
    have hall' : ∀ (i : Nat) (s : Sp), sp[i]? = some s → listed.getD i false = true := by
      intro i s hs
      have hi : i < n := by have := (List.getElem?_eq_some_iff.1 hs).1; omega
      rw [← listed_cases (by rw [inv.size]; omega)]
      exact hall i hi
    exact hfin x w' inv.grow (RgAll_of fun i s hs => inv.held i s hs (hall' i s hs)) (RgApart_of fun i j s s' h1 h2 hne => inv.apart i j s s' h1 h2 (hall' i s h1) (hall' j s' h2) hne)
  | succ m ih =>
    intro listed x w' inv hm
    have hex : ∃ i, i < n ∧ listed.getD i true = false := by
      unfold toCome at hm
      have hpos : 0 < ((List.range n).filter fun i => !listed.getD i true).length := by omega
      obtain ⟨i, hi⟩ := List.exists_mem_of_length_pos hpos
      rw [List.mem_filter, List.mem_range] at hi
      exact ⟨i, hi.1, by simpa using hi.2⟩
    obtain ⟨i0, hi0, hu0⟩ := hex
    have hinv : HeadInv .any l.toArray n listed := ⟨by simp [inv.size], fun j oj hj hl e he hbe => inv.closed j oj (by simpa using hj) hl e (by simpa using he) hbe, fun t ht ht' => inv.tail t ht (by simpa using ht')⟩
    rw [show m + 1 + (l.length - n) = (m + (l.length - n)) + 1 by omega]
    have hrn : ∀ j ∈ Region.ready .any l.toArray listed, j < n := fun j hj => by
      rcases Nat.lt_or_ge j n with h | h
      · exact h
      · exact absurd hj (tail_waits hsink hchain (by simpa using hn) hinv _ i0 rfl hi0 hu0 j h)
    have hre : ∀ (k : Nat), k < n → listed.getD k true = false → ∃ i, i ∈ Region.ready .any l.toArray listed := by
      intro k
      induction k using Nat.strongRecOn with
      | _ k ihk =>
        intro hk hun
        obtain ⟨o, ho⟩ : ∃ o, l[k]? = some o := ⟨l[k], List.getElem?_eq_getElem (by omega)⟩
        by_cases hall : ∀ e ∈ o.after, Region.binds .any e = true → listed.getD e.on false = true
        · exact ⟨k, mem_ready.2 ⟨hun, o, by simpa using ho, hall⟩⟩
        · simp only [Classical.not_forall] at hall
          obtain ⟨e, he, hbe, hne⟩ := hall
          have hlt := hb k o (by rw [hget k hk]; exact ho) e (by simpa using he) hbe
          refine ihk e.on hlt (by omega) ?_
          rw [listed_cases (by rw [inv.size]; omega)]
          simpa using hne
    refine ⟨fun hr => ?_, fun i hi => ?_⟩
    · obtain ⟨j, hj⟩ := hre i0 hi0 hu0
      rw [hr] at hj
      cases hj
    obtain ⟨h0, o, ho', hall⟩ := mem_ready.1 hi
    have hin := hrn i hi
    have hol : l[i]? = some o := by simpa using ho'
    have ho : (l.take n)[i]? = some o := by rw [hget i hin]; exact hol
    have hil : i < l.length := by omega
    obtain ⟨s, hs⟩ : ∃ s, sp[i]? = some s := ⟨sp[i]'(by omega), List.getElem?_eq_getElem (by omega)⟩
    have h0' : listed.getD i false = false := by rw [← listed_cases (by rw [inv.size]; exact hil)]; exact h0
    have hob' := RrObs_at hob i o s ho hs
    rw [Nat.zero_add] at hob'
    have step := hob'.out x w' inv.grow
      (fun e he hbe s' hs' => inv.held e.on s' hs' (hall e (by simpa using he) hbe))
      (fun o' ho'' hp d hd' => by
        obtain ⟨j, hj⟩ := List.getElem?_of_mem ho''
        refine inv.rest j o' d hj hd' ?_
        cases hl : listed.getD j false with
        | false => rfl
        | true =>
          unfold predOf at hp
          obtain ⟨e, he, hbe⟩ := List.any_eq_true.1 hp
          simp only [Bool.and_eq_true, beq_iff_eq] at hbe
          have hjn : j < n := by have := (List.getElem?_eq_some_iff.1 hj).1; omega
          have := inv.closed j o' (by rw [← hget j hjn]; exact hj) hl e he hbe.1
          rw [hbe.2, h0'] at this
          cases this)
      (wpAny P .any l.toArray Q (m + (l.length - n)) (listed.setIfInBounds i true))
      (fun v w'' hg hφ hfr => by
        rw [putMany_upd T (rgDsts (l.take n)) x hnd o.dst (fun d hd' => List.mem_filterMap.2 ⟨o, List.mem_of_getElem? ho, hd'⟩)]
        have hnot : ∀ (j : Nat) (sj : Sp), sp[j]? = some sj → listed.getD j false = true → i ≠ j → ∀ d, o.dst = some d → d ∉ sj.deps := by
          intro j sj hj hl hij d hd' hdd
          have hjn : j < n := by have := (List.getElem?_eq_some_iff.1 hj).1; omega
          obtain ⟨oj, hoj⟩ : ∃ oj, (l.take n)[j]? = some oj := ⟨(l.take n)[j]'(by omega), List.getElem?_eq_getElem (by omega)⟩
          rcases hd j oj sj hoj hj d hdd with h3 | ⟨k, ok, hok, h3, h4⟩
          · exact hij (dst_inj hnd ho hoj hd' h3)
          · have hki := dst_inj hnd ho hok hd' h3
            subst hki
            unfold predOf at h4
            obtain ⟨e, he, hbe⟩ := List.any_eq_true.1 h4
            simp only [Bool.and_eq_true, beq_iff_eq] at hbe
            have := inv.closed j oj (by rw [← hget j hjn]; exact hoj) hl e he hbe.1
            rw [hbe.2, h0'] at this
            cases this
        refine ih _ _ _ ⟨by simp [inv.size], ?_, ?_, hRt _ _ _ inv.grow hg, ?_, ?_, ?_, ?_⟩ ?_
        · intro j oj hj hl e he hbe
          by_cases hij : i = j
          · subst hij
            have : oj = o := Option.some.inj (hj.symm.trans hol)
            subst this
            exact getD_set_true (hall e (by simpa using he) hbe)
          · rw [getD_set_ne false hij] at hl
            exact getD_set_true (inv.closed j oj hj hl e he hbe)
        · intro t ht1 ht2
          rw [getD_set_ne true (by omega)]
          exact inv.tail t ht1 ht2
        · intro j sj hj hl
          by_cases hij : i = j
          · subst hij
            have : sj = s := Option.some.inj (hj.symm.trans hs)
            subst this
            exact hφ
          · rw [getD_set_ne false hij] at hl
            have h1 := inv.held j sj hj hl
            have h2 : sj.holds x w'' := hst sj (List.mem_of_getElem? hj) _ _ _ h1 hg
            exact holds_upd h2 (hnot j sj hj hl hij)
        · intro j sj hj hl b hbo
          by_cases hij : i = j
          · subst hij
            have : sj = s := Option.some.inj (hj.symm.trans hs)
            subst this
            exact (hfr b hbo).2
          · rw [getD_set_ne false hij] at hl
            rw [own_upd (hnot j sj hj hl hij)] at hbo
            exact Nat.lt_of_lt_of_le (inv.new_ j sj hj hl b hbo) (hRs _ _ hg)
        · intro j k sj sk hj hk hlj hlk hjk b hbo hbk
          by_cases hij : i = j
          · subst hij
            have : sj = s := Option.some.inj (hj.symm.trans hs)
            subst this
            rw [getD_set_ne false hjk] at hlk
            rw [own_upd (hnot k sk hk hlk hjk)] at hbk
            have := inv.new_ k sk hk hlk b hbk
            have := (hfr b hbo).1
            omega
          · rw [getD_set_ne false hij] at hlj
            rw [own_upd (hnot j sj hj hlj hij)] at hbo
            by_cases hik : i = k
            · subst hik
              have : sk = s := Option.some.inj (hk.symm.trans hs)
              subst this
              have := inv.new_ j sj hj hlj b hbo
              have := (hfr b hbk).1
              omega
            · rw [getD_set_ne false hik] at hlk
              rw [own_upd (hnot k sk hk hlk hik)] at hbk
              exact inv.apart j k sj sk hj hk hlj hlk hjk b hbo hbk
        · intro j oj d hj hdj hl
          have hij : i ≠ j := by
            rintro rfl
            have : i < listed.size := by rw [inv.size]; exact hil
            simp [this] at hl
          rw [getD_set_ne false hij] at hl
          have h1 := inv.rest j oj d hj hdj hl
          cases hdo : o.dst with
          | none => exact h1
          | some d' =>
            have : d ≠ d' := by rintro rfl; exact hij (dst_inj hnd ho hj hdo hdj)
            simp [rgUpd, this, h1]
        · have := toCome_setT (n := n) (by rw [inv.size]; omega) hin h0
          omega)
    unfold wpOp
    rw [ho']
    simp only
    rw [hwant i o x ho]
    split
    · rename_i hw
      rw [if_pos hw] at step
      exact .inl step
    · rename_i hw
      rw [if_neg hw] at step
      exact step


/-- .. with the last operations (stores) in one forced order behind the first n. -/
theorem wp_region_rrT {id : Nat} (R : World → World → Prop) (hRt : ∀ a b c, R a b → R b c → R a c) (hRs : ∀ a b, R a b → a.heap.size ≤ b.heap.size) (hRd : ∀ a, R a a.drew) (n : Nat) (sp : List Sp) (hm : P.follows .mixedOrders = true) (hc : rgOk (l.take n) sp = true) (ht : rgTailOk l n = true)
    (hgd : ((l.take n).all fun o => match o.guard with | some (g, _) => decide (g < n) | none => true) = true)
    (hst : ∀ s ∈ sp, ∀ vs w1 w2, s.φ vs w1 → R w1 w2 → s.φ vs w2)
    (hob : RrObs R P Q T df w (l.take n) sp 0 (l.take n) sp)
    (hfin : ∀ x w', R w w' → RgAll x w' sp → RgApart x sp → wpList P l.toArray Q (l.drop n) { tmps := putMany T (rgDsts (l.take n)) x, defers := df } w') : (Code.region id l.toArray true).wp P Q { tmps := T, defers := df } w := by
  refine wp_region_any hm ?_
  have hnd : (rgDsts (l.take n)).Nodup := by
    simp only [rgOk, Bool.and_eq_true, decide_eq_true_eq] at hc
    exact hc.1.1.2
  have hn : n < l.length := by
    simp only [rgTailOk, Bool.and_eq_true, decide_eq_true_eq] at ht
    exact ht.1.1.1
  have e : (⟨T, df⟩ : Act) = { tmps := putMany T (rgDsts (l.take n)) (fun t => T.getD t undef), defers := df } := by
    congr 1
    apply Array.ext_getElem?
    intro t
    rw [putMany_get _ _ _ hnd]
    split
    · rename_i h; simp [h.2]
    · rfl
  rw [e]
  have hwant : ∀ (i : Nat) (o : Oper) (x : Nat → Value), (l.take n)[i]? = some o → Region.wanted o (yielded l.toArray (putMany T (rgDsts (l.take n)) x)) = Region.wanted o (yielded (l.take n).toArray (putMany T (rgDsts (l.take n)) x)) := by
    intro i o x ho
    refine guard_take fun g b hg => ?_
    have := List.all_eq_true.1 hgd o (List.mem_of_getElem? ho)
    rw [hg] at this
    simpa using this
  have := rr_anyT hRt hRs hc ht hst hob hwant hfin n (Array.replicate l.toArray.size false) (fun t => T.getD t undef) { w with drawn := w.drawn + 1 }
    ⟨by simp, fun j o _ hl => (by rw [getD_replicate_false] at hl; cases hl), fun t _ ht' => getD_in (by simpa using ht') (getD_replicate_false _ _), hRd w, fun i s _ hl => (by rw [getD_replicate_false] at hl; cases hl), fun i s _ hl => (by rw [getD_replicate_false] at hl; cases hl), fun i j s s' _ _ hl => (by rw [getD_replicate_false] at hl; cases hl), fun i o d _ _ _ => rfl⟩ (by
      unfold toCome
      rw [List.filter_eq_self.2]
      · simp
      · intro i hi
        have : i < l.length := by have := List.mem_range.1 hi; omega
        simp [this])
  rw [show n + (l.length - n) = l.toArray.size by simp; omega] at this
  exact this

end

section
variable {R : World → World → Prop} {P : Program} {Q : Exit → Act → World → Prop} {T : Array Value} {df : List Deferred} {w : World} {l : List Oper} {sp : List Sp} {i : Nat} {o : Oper} {s : Sp}

theorem rr_val (hn : (rgDsts l).Nodup) (hg : o.guard = none)
    (h : ∀ (x : Nat → Value) (w' : World) (A : Act), R w w' → RgPreds sp x w' o.after.toList → RgHolds A T (rgDsts l) x → ∃ v w'', (execOp A.eval o).run P w' = .ok (.value v) w'' ∧ R w' w'' ∧ s.holds (rgUpd x o.dst v) w'' ∧ (∀ b ∈ s.own (rgUpd x o.dst v), w'.heap.size ≤ b ∧ b < w''.heap.size)) :
    RrOb R P Q T df w l sp i o s := by
  refine ⟨fun x w' hgr hp _ K hK => ?_⟩
  obtain ⟨v, w'', hrun, hb, hh, hf⟩ := h x w' _ hgr (RgPreds_of hp) (holds_frame hn)
  rw [if_pos (by simp [Region.wanted, hg])]
  unfold Oper.wp
  rw [hrun]
  exact hK v w'' hb hh hf

theorem rr_eq {d : Nat} {v : Value} (hRr : ∀ a, R a a) (hn : (rgDsts l).Nodup) (hd : o.dst = some d) (hg : o.guard = none)
    (h : ∀ (x : Nat → Value) (w' : World) (A : Act), R w w' → RgPreds sp x w' o.after.toList → RgHolds A T (rgDsts l) x → (execOp A.eval o).run P w' = .ok (.value v) w') :
    RrOb R P Q T df w l sp i o (Sp.eq d v) :=
  rr_val hn hg fun x w' A h1 h2 h3 => ⟨v, w', h x w' A h1 h2 h3, hRr w', by rw [hd]; simp, by simp⟩

theorem rr_call (hn : (rgDsts l).Nodup) (hg : o.guard = none)
    (h : ∀ (x : Nat → Value) (w' : World) (A : Act), R w w' → RgPreds sp x w' o.after.toList → RgHolds A T (rgDsts l) x → ∃ f args, (execOp A.eval o).run P w' = .ok (.enter f args) w' ∧
      Calls P f args w' fun e w'' => ∃ v, e = .returned v ∧ R w' w'' ∧ s.holds (rgUpd x o.dst v) w'' ∧ (∀ b ∈ s.own (rgUpd x o.dst v), w'.heap.size ≤ b ∧ b < w''.heap.size)) :
    RrOb R P Q T df w l sp i o s := by
  refine ⟨fun x w' hgr hp _ K hK => ?_⟩
  obtain ⟨f, args, hrun, hc⟩ := h x w' _ hgr (RgPreds_of hp) (holds_frame hn)
  rw [if_pos (by simp [Region.wanted, hg])]
  unfold Oper.wp
  rw [hrun]
  refine Calls.mono hc ?_
  rintro e w'' ⟨v, rfl, hb, hh, hf⟩
  exact hK v w'' hb hh hf

end
theorem rr_wp {R : World → World → Prop} {P : Program} {Q : Exit → Act → World → Prop} {T : Array Value} {df : List Deferred} {w : World} {l : List Oper} {sp : List Sp} {i : Nat} {o : Oper} {s : Sp} (hn : (rgDsts l).Nodup) (hg : o.guard = none)
    (h : ∀ (x : Nat → Value) (w' : World) (A : Act), R w w' → RgPreds sp x w' o.after.toList → RgHolds A T (rgDsts l) x → ∀ K : Act → World → Prop, (∀ v w'', R w' w'' → s.holds (rgUpd x o.dst v) w'' → (∀ b ∈ s.own (rgUpd x o.dst v), w'.heap.size ≤ b ∧ b < w''.heap.size) → K (A.put o.dst v) w'') → o.wp P A w' K Q) :
    RrOb R P Q T df w l sp i o s := by
  refine ⟨fun x w' hgr hp _ K hK => ?_⟩
  rw [if_pos (by simp [Region.wanted, hg])]
  exact h x w' _ hgr (RgPreds_of hp) (holds_frame hn) K hK
theorem rrs_cons {R : World → World → Prop} {P : Program} {Q : Exit → Act → World → Prop} {T : Array Value} {df : List Deferred} {w : World} {l : List Oper} {sp : List Sp} {i : Nat} {o : Oper} {s : Sp} {r : List Oper} {q : List Sp}
    (h : RrOb R P Q T df w l sp i o s) (hr : RrObs R P Q T df w l sp (i + 1) r q) : RrObs R P Q T df w l sp i (o :: r) (s :: q) := ⟨h, hr⟩
theorem rrs_nil {R : World → World → Prop} {P : Program} {Q : Exit → Act → World → Prop} {T : Array Value} {df : List Deferred} {w : World} {l : List Oper} {sp : List Sp} {i : Nat} : RrObs R P Q T df w l sp i [] [] := trivial

/-- Growth in which a new block may also turn from what it was made as into what is stored into it. -/
def Turns (B : Nat) (u v : Obj) (a b : World) : Prop :=
  b.os = a.os ∧ b.tape = a.tape ∧ b.output = a.output ∧ a.heap.size ≤ b.heap.size ∧ ∀ k, k < a.heap.size → b.heap[k]? = a.heap[k]? ∨ (B ≤ k ∧ a.heap[k]? = some u ∧ b.heap[k]? = some v)
theorem Turns.trans {B : Nat} {u v : Obj} {a b c : World} (h : Turns B u v a b) (g : Turns B u v b c) : Turns B u v a c := by
  refine ⟨g.1.trans h.1, g.2.1.trans h.2.1, g.2.2.1.trans h.2.2.1, Nat.le_trans h.2.2.2.1 g.2.2.2.1, fun k hk => ?_⟩
  rcases h.2.2.2.2 k hk with h1 | ⟨h0, h1, h2⟩ <;> rcases g.2.2.2.2 k (Nat.lt_of_lt_of_le hk h.2.2.2.1) with g1 | ⟨g0, g1, g2⟩
  · exact .inl (g1.trans h1)
  · exact .inr ⟨g0, h1 ▸ g1, g2⟩
  · exact .inr ⟨h0, h1, g1.trans h2⟩
  · exact .inr ⟨h0, h1, g2⟩
theorem Turns.of_below {B : Nat} {u v : Obj} {a b : World} (h : Below a.heap.size a b) : Turns B u v a b := ⟨h.os, h.tape, h.output, h.size, fun k hk => .inl (h.block k hk)⟩
theorem Turns.below {B : Nat} {u v : Obj} {a b : World} (h : Turns B u v a b) (hB : B ≤ a.heap.size) : Below B a b :=
  ⟨h.1, h.2.1, h.2.2.1, h.2.2.2.1, fun k hk => by
    rcases h.2.2.2.2 k (Nat.lt_of_lt_of_le hk hB) with h1 | ⟨h0, _, _⟩
    · exact h1
    · omega⟩
end Go.Proofs.YtojemdggbcklkaaDoor.Mem
