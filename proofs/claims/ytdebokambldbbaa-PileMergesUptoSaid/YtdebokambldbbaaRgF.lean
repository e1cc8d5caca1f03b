/- The rule for regions that draw their order, with one pure move that floats behind the tail's beginning: it is taken first. Plain theorems over any program. -/
import Derived.Test.YtdebokambldbbaaRgLite
import Derived.Test.YtdebokambldbbaaFloat
namespace Go.Proofs.Ytdebokambldbbaa.Mem
open Go.RowKit
set_option linter.unusedVariables false
def rgTailOkF (fl : List Nat) (l : List Oper) (n : Nat) : Bool :=
  decide (n < l.length) && Float.sinkF .any l.toArray fl n && Region.chainB .any l.toArray n &&
  Region.seqB .any l.toArray (l.length - n) n (Array.replicate n true ++ Array.replicate (l.length - n) false)
section
variable {R : World → World → Prop} {P : Program} {Q : Exit → Act → World → Prop} {T : Array Value} {df : List Deferred} {w : World} {l : List Oper} {sp : List Sp}
structure RrInvF (fl : List Nat) (R : World → World → Prop) (T : Array Value) (w : World) (l : List Oper) (n : Nat) (sp : List Sp) (listed : Array Bool) (x : Nat → Value) (w' : World) : Prop where
  size : listed.size = l.length
  closed : ∀ (j : Nat) (o : Oper), l[j]? = some o → listed.getD j false = true → ∀ e ∈ o.after.toList, Region.binds .any e = true → listed.getD e.on false = true
  tail : ∀ t, n ≤ t → t < l.length → listed.getD t true = false
  grow : R w w'
  flo : ∀ i ∈ fl, listed.getD i false = true
  held : ∀ (i : Nat) (s : Sp), sp[i]? = some s → listed.getD i false = true → s.holds x w'
  new_ : ∀ (i : Nat) (s : Sp), sp[i]? = some s → listed.getD i false = true → ∀ b ∈ s.own x, b < w'.heap.size
  apart : ∀ (i j : Nat) (s s' : Sp), sp[i]? = some s → sp[j]? = some s' → listed.getD i false = true → listed.getD j false = true → i ≠ j → ∀ b ∈ s.own x, b ∉ s'.own x
  rest : ∀ (i : Nat) (o : Oper) (d : Nat), (l.take n)[i]? = some o → o.dst = some d → listed.getD i false = false → x d = T.getD d undef


theorem rr_anyF {fl : List Nat} {n : Nat} (hRt : ∀ a b c, R a b → R b c → R a c) (hRs : ∀ a b, R a b → a.heap.size ≤ b.heap.size) (hc : rgOk (l.take n) sp = true) (ht : rgTailOkF fl l n = true) (hst : ∀ s ∈ sp, ∀ vs w1 w2, s.φ vs w1 → R w1 w2 → s.φ vs w2) (hob : RrObs R P Q T df w (l.take n) sp 0 (l.take n) sp)
    (hwant : ∀ (i : Nat) (o : Oper) (x : Nat → Value), (l.take n)[i]? = some o → Region.wanted o (yielded l.toArray (putMany T (rgDsts (l.take n)) x)) = Region.wanted o (yielded (l.take n).toArray (putMany T (rgDsts (l.take n)) x)))
    (hfin : ∀ x w', R w w' → RgAll x w' sp → RgApart x sp → wpList P l.toArray Q (l.drop n) { tmps := putMany T (rgDsts (l.take n)) x, defers := df } w') :
    ∀ (m : Nat) (listed : Array Bool) (x : Nat → Value) (w' : World), RrInvF fl R T w l n sp listed x w' → toCome n listed = m →
      wpAny P .any l.toArray Q (m + (l.length - n)) listed { tmps := putMany T (rgDsts (l.take n)) x, defers := df } w' := by
  simp only [rgTailOkF, Bool.and_eq_true, decide_eq_true_eq] at ht
  obtain ⟨⟨⟨hn, hsink⟩, hchain⟩, hseq⟩ := ht
  simp only [rgOk, Bool.and_eq_true, decide_eq_true_eq] at hc
  obtain ⟨⟨⟨hlen, hnd⟩, hback⟩, hdeps⟩ := hc
  have hln : (l.take n).length = n := by simp; omega
  have hget : ∀ i, i < n → (l.take n)[i]? = l[i]? := fun i hi => by rw [List.getElem?_take]; simp [hi]
  have hb : ∀ (i : Nat) (o : Oper), (l.take n)[i]? = some o → ∀ e ∈ o.after.toList, Region.binds .any e = true → e.on < i := by
    intro i o ho e he hbe
    have h1 := List.all_eq_true.1 hback (o, i) (by rw [List.mem_zipIdx_iff_getElem?]; exact ho)
    have h2 := List.all_eq_true.1 h1 e he
    simpa [hbe] using h2
  have hd : ∀ (j : Nat) (o : Oper) (s : Sp), (l.take n)[j]? = some o → sp[j]? = some s → ∀ t ∈ s.deps, o.dst = some t ∨ ∃ k o', (l.take n)[k]? = some o' ∧ o'.dst = some t ∧ predOf o k = true := by
    intro j o s ho hs t ht
    have hm : (o, s) ∈ (l.take n).zip sp := List.mem_of_getElem? (i := j) (by rw [List.getElem?_zip_eq_some]; exact ⟨ho, hs⟩)
    have h1 := List.all_eq_true.1 (List.all_eq_true.1 hdeps (o, s) hm) t ht
    simp only [Bool.or_eq_true, beq_iff_eq] at h1
    rcases h1 with h1 | h1
    · exact .inl h1
    · obtain ⟨⟨o', k⟩, hk, h2⟩ := List.any_eq_true.1 h1
      simp only [Bool.and_eq_true, beq_iff_eq] at h2
      rw [List.mem_zipIdx_iff_getElem?] at hk
      exact .inr ⟨k, o', hk, h2.1, h2.2⟩
  intro m
  induction m with
  | zero =>
    intro listed x w' inv hm
    have hall : ∀ i, i < n → listed.getD i true = true := by
      intro i hi
      cases hl : listed.getD i true with
      | true => rfl
      | false =>
        unfold toCome at hm
        have : i ∈ (List.range n).filter fun i => !listed.getD i true := by
          rw [List.mem_filter, List.mem_range]
          exact ⟨hi, by rw [hl]; rfl⟩
        have := List.length_pos_of_mem this
        omega
    have hL : listed = Array.replicate n true ++ Array.replicate (l.length - n) false := by
      apply Array.ext_getElem?
      intro t
      by_cases htn : t < n
      · have h1 := hall t htn
        have h2 : t < listed.size := by rw [inv.size]; omega
        rw [Array.getElem?_append_left (by simpa using htn)]
        simp [h2] at h1
        simp [h2, htn, h1]
      · by_cases htl : t < l.length
        · have h1 := inv.tail t (by omega) htl
          have h2 : t < listed.size := by rw [inv.size]; omega
          have h3 : listed[t] = false := by simpa [h2] using h1
          rw [Array.getElem?_append_right (by simp; omega), Array.size_replicate, Array.getElem?_eq_getElem h2, h3, Array.getElem?_replicate, if_pos (by omega)]
        · rw [Array.getElem?_eq_none (by rw [inv.size]; omega), Array.getElem?_eq_none (by simp; omega)]
    rw [Nat.zero_add]
    have hlst : (l.drop n).length = l.length - n := by simp
    rw [← hlst]
    refine wpAny_of_seq (l.drop n) n listed _ w' (fun j => by simp [List.getElem?_drop]) (by rw [hlst, hL]; exact hseq) ?_
    have hall' : ∀ (i : Nat) (s : Sp), sp[i]? = some s → listed.getD i false = true := by
      intro i s hs
      have hi : i < n := by have := (List.getElem?_eq_some_iff.1 hs).1; omega
      rw [← listed_cases (by rw [inv.size]; omega)]
      exact hall i hi
    exact hfin x w' inv.grow (RgAll_of fun i s hs => inv.held i s hs (hall' i s hs)) (RgApart_of fun i j s s' h1 h2 hne => inv.apart i j s s' h1 h2 (hall' i s h1) (hall' j s' h2) hne)
  | succ m ih =>
    intro listed x w' inv hm
    have hex : ∃ i, i < n ∧ listed.getD i true = false := by
      unfold toCome at hm
      have hpos : 0 < ((List.range n).filter fun i => !listed.getD i true).length := by omega
      obtain ⟨i, hi⟩ := List.exists_mem_of_length_pos hpos
      rw [List.mem_filter, List.mem_range] at hi
      exact ⟨i, hi.1, by simpa using hi.2⟩
    obtain ⟨i0, hi0, hu0⟩ := hex
    have hinv : HeadInv .any l.toArray n listed := ⟨by simp [inv.size], fun j oj hj hl e he hbe => inv.closed j oj (by simpa using hj) hl e (by simpa using he) hbe, fun t ht ht' => inv.tail t ht (by simpa using ht')⟩
    rw [show m + 1 + (l.length - n) = (m + (l.length - n)) + 1 by omega]
    have hrn : ∀ j ∈ Region.ready .any l.toArray listed, j < n := fun j hj => by
      rcases Nat.lt_or_ge j n with h | h
      · exact h
      · exact absurd hj (Float.tail_waitsF hsink hchain (by simpa using hn) ⟨hinv, inv.flo⟩ _ i0 rfl hi0 hu0 j h)
    have hre : ∀ (k : Nat), k < n → listed.getD k true = false → ∃ i, i ∈ Region.ready .any l.toArray listed := by
      intro k
      induction k using Nat.strongRecOn with
      | _ k ihk =>
        intro hk hun
        obtain ⟨o, ho⟩ : ∃ o, l[k]? = some o := ⟨l[k], List.getElem?_eq_getElem (by omega)⟩
        by_cases hall : ∀ e ∈ o.after, Region.binds .any e = true → listed.getD e.on false = true
        · exact ⟨k, mem_ready.2 ⟨hun, o, by simpa using ho, hall⟩⟩
        · simp only [Classical.not_forall] at hall
          obtain ⟨e, he, hbe, hne⟩ := hall
          have hlt := hb k o (by rw [hget k hk]; exact ho) e (by simpa using he) hbe
          refine ihk e.on hlt (by omega) ?_
          rw [listed_cases (by rw [inv.size]; omega)]
          simpa using hne
    refine ⟨fun hr => ?_, fun i hi => ?_⟩
    · obtain ⟨j, hj⟩ := hre i0 hi0 hu0
      rw [hr] at hj
      cases hj
    obtain ⟨h0, o, ho', hall⟩ := mem_ready.1 hi
    have hin := hrn i hi
    have hol : l[i]? = some o := by simpa using ho'
    have ho : (l.take n)[i]? = some o := by rw [hget i hin]; exact hol
    have hil : i < l.length := by omega
    obtain ⟨s, hs⟩ : ∃ s, sp[i]? = some s := ⟨sp[i]'(by omega), List.getElem?_eq_getElem (by omega)⟩
    have h0' : listed.getD i false = false := by rw [← listed_cases (by rw [inv.size]; exact hil)]; exact h0
    have hob' := RrObs_at hob i o s ho hs
    rw [Nat.zero_add] at hob'
    have step := hob'.out x w' inv.grow
      (fun e he hbe s' hs' => inv.held e.on s' hs' (hall e (by simpa using he) hbe))
      (fun o' ho'' hp d hd' => by
        obtain ⟨j, hj⟩ := List.getElem?_of_mem ho''
        refine inv.rest j o' d hj hd' ?_
        cases hl : listed.getD j false with
        | false => rfl
        | true =>
          unfold predOf at hp
          obtain ⟨e, he, hbe⟩ := List.any_eq_true.1 hp
          simp only [Bool.and_eq_true, beq_iff_eq] at hbe
          have hjn : j < n := by have := (List.getElem?_eq_some_iff.1 hj).1; omega
          have := inv.closed j o' (by rw [← hget j hjn]; exact hj) hl e he hbe.1
          rw [hbe.2, h0'] at this
          cases this)
      (wpAny P .any l.toArray Q (m + (l.length - n)) (listed.setIfInBounds i true))
      (fun v w'' hg hφ hfr => by
        rw [putMany_upd T (rgDsts (l.take n)) x hnd o.dst (fun d hd' => List.mem_filterMap.2 ⟨o, List.mem_of_getElem? ho, hd'⟩)]
        have hnot : ∀ (j : Nat) (sj : Sp), sp[j]? = some sj → listed.getD j false = true → i ≠ j → ∀ d, o.dst = some d → d ∉ sj.deps := by
          intro j sj hj hl hij d hd' hdd
          have hjn : j < n := by have := (List.getElem?_eq_some_iff.1 hj).1; omega
          obtain ⟨oj, hoj⟩ : ∃ oj, (l.take n)[j]? = some oj := ⟨(l.take n)[j]'(by omega), List.getElem?_eq_getElem (by omega)⟩
          rcases hd j oj sj hoj hj d hdd with h3 | ⟨k, ok, hok, h3, h4⟩
          · exact hij (dst_inj hnd ho hoj hd' h3)
          · have hki := dst_inj hnd ho hok hd' h3
            subst hki
            unfold predOf at h4
            obtain ⟨e, he, hbe⟩ := List.any_eq_true.1 h4
            simp only [Bool.and_eq_true, beq_iff_eq] at hbe
            have := inv.closed j oj (by rw [← hget j hjn]; exact hoj) hl e he hbe.1
            rw [hbe.2, h0'] at this
            cases this
        refine ih _ _ _ ⟨by simp [inv.size], ?_, ?_, hRt _ _ _ inv.grow hg, fun j hj => getD_set_true (inv.flo j hj), ?_, ?_, ?_, ?_⟩ ?_
        · intro j oj hj hl e he hbe
          by_cases hij : i = j
          · subst hij
            have : oj = o := Option.some.inj (hj.symm.trans hol)
            subst this
            exact getD_set_true (hall e (by simpa using he) hbe)
          · rw [getD_set_ne false hij] at hl
            exact getD_set_true (inv.closed j oj hj hl e he hbe)
        · intro t ht1 ht2
          rw [getD_set_ne true (by omega)]
          exact inv.tail t ht1 ht2
        · intro j sj hj hl
          by_cases hij : i = j
          · subst hij
            have : sj = s := Option.some.inj (hj.symm.trans hs)
            subst this
            exact hφ
          · rw [getD_set_ne false hij] at hl
            have h1 := inv.held j sj hj hl
            have h2 : sj.holds x w'' := hst sj (List.mem_of_getElem? hj) _ _ _ h1 hg
            exact holds_upd h2 (hnot j sj hj hl hij)
        · intro j sj hj hl b hbo
          by_cases hij : i = j
          · subst hij
            have : sj = s := Option.some.inj (hj.symm.trans hs)
            subst this
            exact (hfr b hbo).2
          · rw [getD_set_ne false hij] at hl
            rw [own_upd (hnot j sj hj hl hij)] at hbo
            exact Nat.lt_of_lt_of_le (inv.new_ j sj hj hl b hbo) (hRs _ _ hg)
        · intro j k sj sk hj hk hlj hlk hjk b hbo hbk
          by_cases hij : i = j
          · subst hij
            have : sj = s := Option.some.inj (hj.symm.trans hs)
            subst this
            rw [getD_set_ne false hjk] at hlk
            rw [own_upd (hnot k sk hk hlk hjk)] at hbk
            have := inv.new_ k sk hk hlk b hbk
            have := (hfr b hbo).1
            omega
          · rw [getD_set_ne false hij] at hlj
            rw [own_upd (hnot j sj hj hlj hij)] at hbo
            by_cases hik : i = k
            · subst hik
              have : sk = s := Option.some.inj (hk.symm.trans hs)
              subst this
              have := inv.new_ j sj hj hlj b hbo
              have := (hfr b hbk).1
              omega
            · rw [getD_set_ne false hik] at hlk
              rw [own_upd (hnot k sk hk hlk hik)] at hbk
              exact inv.apart j k sj sk hj hk hlj hlk hjk b hbo hbk
        · intro j oj d hj hdj hl
          have hij : i ≠ j := by
            rintro rfl
            have : i < listed.size := by rw [inv.size]; exact hil
            simp [this] at hl
          rw [getD_set_ne false hij] at hl
          have h1 := inv.rest j oj d hj hdj hl
          cases hdo : o.dst with
          | none => exact h1
          | some d' =>
            have : d ≠ d' := by rintro rfl; exact hij (dst_inj hnd ho hj hdo hdj)
            simp [rgUpd, this, h1]
        · have := toCome_setT (n := n) (by rw [inv.size]; omega) hin h0
          omega)
    unfold wpOp
    rw [ho']
    simp only
    rw [hwant i o x ho]
    split
    · rename_i hw
      rw [if_pos hw] at step
      exact .inl step
    · rename_i hw
      rw [if_neg hw] at step
      exact step



/-- .. with one floating move f (slot d, value v, the same in every world) and a tail behind the first n. -/
theorem wp_region_rrF {id : Nat} (R : World → World → Prop) (hRt : ∀ a b c, R a b → R b c → R a c) (hRs : ∀ a b, R a b → a.heap.size ≤ b.heap.size) (hRd : ∀ a, R a a.drew) (f d : Nat) (v : Value) (n : Nat) (sp : List Sp) (hm : P.follows .mixedOrders = true) (hc : rgOk (l.take n) sp = true) (ht : rgTailOkF [f] l n = true)
    (hff : (decide (f < n) && Region.noSelect l.toArray && (Region.ready .any l.toArray (Array.replicate l.toArray.size false)).contains f && Region.free .any l.toArray (Array.replicate l.toArray.size false) f) = true)
    {o : Oper} (ho : l[f]? = some o) (hod : o.dst = some d) (hog : o.guard = none) (hdT : d < T.size) (hv : ∀ w, (execOp ({ tmps := T, defers := df } : Act).eval o).run P w = .ok (.value v) w) (hsf : sp[f]? = some (Sp.eq d v)) (hQ : ∀ c a w, Q (.panic c) (a.put o.dst v) w → Q (.panic c) a w)
    (hgd : ((l.take n).all fun o => match o.guard with | some (g, _) => decide (g < n) | none => true) = true)
    (hst : ∀ s ∈ sp, ∀ vs w1 w2, s.φ vs w1 → R w1 w2 → s.φ vs w2)
    (hob : RrObs R P Q T df w (l.take n) sp 0 (l.take n) sp)
    (hfin : ∀ x w', R w w' → RgAll x w' sp → RgApart x sp → wpList P l.toArray Q (l.drop n) { tmps := putMany T (rgDsts (l.take n)) x, defers := df } w') : (Code.region id l.toArray true).wp P Q { tmps := T, defers := df } w := by
  refine wp_region_any hm ?_
  have hnd : (rgDsts (l.take n)).Nodup := by
    simp only [rgOk, Bool.and_eq_true, decide_eq_true_eq] at hc
    exact hc.1.1.2
  have hn : n < l.length := by
    simp only [rgTailOkF, Bool.and_eq_true, decide_eq_true_eq] at ht
    exact ht.1.1.1
  simp only [Bool.and_eq_true, decide_eq_true_eq] at hff
  obtain ⟨⟨⟨hfn, hsel⟩, hr⟩, hfr⟩ := hff
  have hr' : f ∈ Region.ready .any l.toArray (Array.replicate l.toArray.size false) := by simpa using hr
  have hof : l.toArray[f]? = some o := by simpa using ho
  have hoft : (l.take n)[f]? = some o := by rw [List.getElem?_take, if_pos hfn]; exact ho
  have hdm : d ∈ rgDsts (l.take n) := List.mem_filterMap.2 ⟨o, List.mem_of_getElem? hoft, hod⟩
  obtain ⟨x0, hx0⟩ : ∃ x0 : Nat → Value, x0 = rgUpd (fun t => T.getD t undef) (some d) v := ⟨_, rfl⟩
  have e : (({ tmps := T, defers := df } : Act).put o.dst v) = { tmps := putMany T (rgDsts (l.take n)) x0, defers := df } := by
    rw [hod, hx0]
    have e0 : (⟨T, df⟩ : Act) = { tmps := putMany T (rgDsts (l.take n)) (fun t => T.getD t undef), defers := df } := by
      congr 1
      apply Array.ext_getElem?
      intro t
      rw [putMany_get _ _ _ hnd]
      split
      · rename_i h; simp [h.2]
      · rfl
    conv => lhs; rw [e0]
    exact putMany_upd T (rgDsts (l.take n)) _ hnd (some d) (fun d' hd' => by cases hd'; exact hdm) v df
  have hwant : ∀ (i : Nat) (o : Oper) (x : Nat → Value), (l.take n)[i]? = some o → Region.wanted o (yielded l.toArray (putMany T (rgDsts (l.take n)) x)) = Region.wanted o (yielded (l.take n).toArray (putMany T (rgDsts (l.take n)) x)) := by
    intro i o x ho
    refine guard_take fun g b hg => ?_
    have := List.all_eq_true.1 hgd o (List.mem_of_getElem? ho)
    rw [hg] at this
    simpa using this
  have inv0 : HeadInv .any l.toArray n (Array.replicate l.toArray.size false) :=
    ⟨by simp, fun j oj _ hl => (by rw [getD_replicate_false] at hl; cases hl), fun t _ ht => getD_in (by simpa using ht) (getD_replicate_false _ _)⟩
  have inv1 := inv0.set hr' hfn
  have hfl : f < l.length := by omega
  have only : ∀ i, ((Array.replicate l.toArray.size false).setIfInBounds f true).getD i false = true → i = f := fun i hi => by
    by_cases hif : f = i
    · exact hif.symm
    · rw [getD_set_ne false hif, getD_replicate_false] at hi; cases hi
  have INV : RrInvF [f] R T w l n sp ((Array.replicate l.toArray.size false).setIfInBounds f true) x0 w.drew := by
    refine ⟨by simp, fun j o hj hl e he hb => inv1.closed j o (by simpa using hj) hl e (by simpa using he) hb, fun t h1 h2 => inv1.tail t h1 (by simpa using h2), hRd w, fun i hi => ?_, fun i s hs hl => ?_, fun i s hs hl b hb => ?_, fun i j s s' _ _ hi hj hij => ?_, fun i o' d' hi hd' hl => ?_⟩
    · obtain rfl := List.mem_singleton.1 hi
      simp [hfl]
    · obtain rfl := only i hl
      rw [hsf] at hs
      obtain rfl := Option.some.inj hs
      rw [holds_eq, hx0]
      simp [rgUpd]
    · obtain rfl := only i hl
      rw [hsf] at hs
      obtain rfl := Option.some.inj hs
      simp [Sp.own, Sp.eq] at hb
    · exact absurd ((only i hi).trans (only j hj).symm) hij
    · have hif : i ≠ f := by
        rintro rfl
        simp [hfl] at hl
      rw [hx0]
      have : d' ≠ d := by
        rintro rfl
        exact hif (dst_inj hnd hi hoft hd' hod)
      simp [rgUpd, this]
  have htc : toCome n ((Array.replicate l.toArray.size false).setIfInBounds f true) = n - 1 := by
    have h1 : toCome n (Array.replicate l.toArray.size false) = n := by
      unfold toCome
      rw [List.filter_eq_self.2]
      · simp
      · intro i hi
        have : i < l.length := by have := List.mem_range.1 hi; omega
        simp [this]
    have h2 := toCome_setT (n := n) (i := f) (listed := Array.replicate l.toArray.size false) (by simp; omega) hfn (by simp [hfl])
    omega
  have := rr_anyF hRt hRs hc ht hst hob hwant hfin (n - 1) _ x0 w.drew INV htc
  rw [← e] at this
  have hwan : Region.wanted o (yielded l.toArray ({ tmps := T, defers := df } : Act).tmps) = true := by simp [Region.wanted, hog]
  have H := wpAny_first (Q := Q) (md := .any) hof (Region.noSelect_spec hsel) hQ (n - 1 + (l.length - n)) _ { tmps := T, defers := df } { w with drawn := w.drawn + 1 } (Region.free_spec hof hfr) hr' (.inl ⟨hwan, hv⟩) this
  rw [show n - 1 + (l.length - n) + 1 = l.toArray.size by simp; omega] at H
  exact H
/-- .. with two floating moves -/
theorem wp_region_rrF2 {id : Nat} (R : World → World → Prop) (hRt : ∀ a b c, R a b → R b c → R a c) (hRs : ∀ a b, R a b → a.heap.size ≤ b.heap.size) (hRd : ∀ a, R a a.drew) (f d : Nat) (v : Value) (f2 d2 : Nat) (v2 : Value) (n : Nat) (sp : List Sp) (hm : P.follows .mixedOrders = true) (hc : rgOk (l.take n) sp = true) (ht : rgTailOkF [f, f2] l n = true)
    (hff : (decide (f < n) && Region.noSelect l.toArray && (Region.ready .any l.toArray (Array.replicate l.toArray.size false)).contains f && Region.free .any l.toArray (Array.replicate l.toArray.size false) f) = true)
    (hff2 : (decide (f2 < n) && decide (f ≠ f2) && decide (d ≠ d2) && (Region.ready .any l.toArray ((Array.replicate l.toArray.size false).setIfInBounds f true)).contains f2 && Region.free .any l.toArray ((Array.replicate l.toArray.size false).setIfInBounds f true) f2) = true)
    {o : Oper} (ho : l[f]? = some o) (hod : o.dst = some d) (hog : o.guard = none) (hdT : d < T.size) (hv : ∀ w, (execOp ({ tmps := T, defers := df } : Act).eval o).run P w = .ok (.value v) w) (hsf : sp[f]? = some (Sp.eq d v)) (hQ : ∀ c a w, Q (.panic c) (a.put o.dst v) w → Q (.panic c) a w)
    {o2 : Oper} (ho2 : l[f2]? = some o2) (hod2 : o2.dst = some d2) (hog2 : o2.guard = none) (hdT2 : d2 < T.size) (hv2 : ∀ w, (execOp (({ tmps := T, defers := df } : Act).put (some d) v).eval o2).run P w = .ok (.value v2) w) (hsf2 : sp[f2]? = some (Sp.eq d2 v2)) (hQ2 : ∀ c a w, Q (.panic c) (a.put o2.dst v2) w → Q (.panic c) a w)
    (hgd : ((l.take n).all fun o => match o.guard with | some (g, _) => decide (g < n) | none => true) = true)
    (hst : ∀ s ∈ sp, ∀ vs w1 w2, s.φ vs w1 → R w1 w2 → s.φ vs w2)
    (hob : RrObs R P Q T df w (l.take n) sp 0 (l.take n) sp)
    (hfin : ∀ x w', R w w' → RgAll x w' sp → RgApart x sp → wpList P l.toArray Q (l.drop n) { tmps := putMany T (rgDsts (l.take n)) x, defers := df } w') : (Code.region id l.toArray true).wp P Q { tmps := T, defers := df } w := by
  refine wp_region_any hm ?_
  have hnd : (rgDsts (l.take n)).Nodup := by
    simp only [rgOk, Bool.and_eq_true, decide_eq_true_eq] at hc
    exact hc.1.1.2
  have hn : n < l.length := by
    simp only [rgTailOkF, Bool.and_eq_true, decide_eq_true_eq] at ht
    exact ht.1.1.1
  simp only [Bool.and_eq_true, decide_eq_true_eq] at hff hff2
  obtain ⟨⟨⟨hfn, hsel⟩, hr⟩, hfr⟩ := hff
  obtain ⟨⟨⟨⟨hfn2, hne⟩, hdd⟩, hr2⟩, hfr2⟩ := hff2
  have hr' : f ∈ Region.ready .any l.toArray (Array.replicate l.toArray.size false) := by simpa using hr
  have hr2' : f2 ∈ Region.ready .any l.toArray ((Array.replicate l.toArray.size false).setIfInBounds f true) := by simpa using hr2
  have hof : l.toArray[f]? = some o := by simpa using ho
  have hof2 : l.toArray[f2]? = some o2 := by simpa using ho2
  have hoft : (l.take n)[f]? = some o := by rw [List.getElem?_take, if_pos hfn]; exact ho
  have hoft2 : (l.take n)[f2]? = some o2 := by rw [List.getElem?_take, if_pos hfn2]; exact ho2
  have hdm : d ∈ rgDsts (l.take n) := List.mem_filterMap.2 ⟨o, List.mem_of_getElem? hoft, hod⟩
  have hdm2 : d2 ∈ rgDsts (l.take n) := List.mem_filterMap.2 ⟨o2, List.mem_of_getElem? hoft2, hod2⟩
  obtain ⟨x0, hx0⟩ : ∃ x0 : Nat → Value, x0 = rgUpd (rgUpd (fun t => T.getD t undef) (some d) v) (some d2) v2 := ⟨_, rfl⟩
  have e1 : (({ tmps := T, defers := df } : Act).put o.dst v) = { tmps := putMany T (rgDsts (l.take n)) (rgUpd (fun t => T.getD t undef) (some d) v), defers := df } := by
    rw [hod]
    have e0 : (⟨T, df⟩ : Act) = { tmps := putMany T (rgDsts (l.take n)) (fun t => T.getD t undef), defers := df } := by
      congr 1
      apply Array.ext_getElem?
      intro t
      rw [putMany_get _ _ _ hnd]
      split
      · rename_i h; simp [h.2]
      · rfl
    conv => lhs; rw [e0]
    exact putMany_upd T (rgDsts (l.take n)) _ hnd (some d) (fun d' hd' => by cases hd'; exact hdm) v df
  have e : ((({ tmps := T, defers := df } : Act).put o.dst v).put o2.dst v2) = { tmps := putMany T (rgDsts (l.take n)) x0, defers := df } := by
    rw [e1, hod2, hx0]
    exact putMany_upd T (rgDsts (l.take n)) _ hnd (some d2) (fun d' hd' => by cases hd'; exact hdm2) v2 df
  have hwant : ∀ (i : Nat) (o : Oper) (x : Nat → Value), (l.take n)[i]? = some o → Region.wanted o (yielded l.toArray (putMany T (rgDsts (l.take n)) x)) = Region.wanted o (yielded (l.take n).toArray (putMany T (rgDsts (l.take n)) x)) := by
    intro i o x ho
    refine guard_take fun g b hg => ?_
    have := List.all_eq_true.1 hgd o (List.mem_of_getElem? ho)
    rw [hg] at this
    simpa using this
  have inv0 : HeadInv .any l.toArray n (Array.replicate l.toArray.size false) :=
    ⟨by simp, fun j oj _ hl => (by rw [getD_replicate_false] at hl; cases hl), fun t _ ht => getD_in (by simpa using ht) (getD_replicate_false _ _)⟩
  have inv1 := inv0.set hr' hfn
  have inv2 := inv1.set hr2' hfn2
  have hfl : f < l.length := by omega
  have hfl2 : f2 < l.length := by omega
  have only : ∀ i, (((Array.replicate l.toArray.size false).setIfInBounds f true).setIfInBounds f2 true).getD i false = true → i = f ∨ i = f2 := fun i hi => by
    by_cases hif2 : f2 = i
    · exact .inr hif2.symm
    · rw [getD_set_ne false hif2] at hi
      by_cases hif : f = i
      · exact .inl hif.symm
      · rw [getD_set_ne false hif, getD_replicate_false] at hi; cases hi
  have INV : RrInvF [f, f2] R T w l n sp (((Array.replicate l.toArray.size false).setIfInBounds f true).setIfInBounds f2 true) x0 w.drew := by
    refine ⟨by simp, fun j o hj hl e he hb => inv2.closed j o (by simpa using hj) hl e (by simpa using he) hb, fun t h1 h2 => inv2.tail t h1 (by simpa using h2), hRd w, fun i hi => ?_, fun i s hs hl => ?_, fun i s hs hl b hb => ?_, fun i j s s' hs hs' hi hj hij => ?_, fun i o' d' hi hd' hl => ?_⟩
    · simp only [List.mem_cons, List.not_mem_nil, or_false] at hi
      rcases hi with rfl | rfl
      · rw [getD_set_ne false (Ne.symm hne)]; simp [hfl]
      · simp [hfl2]
    · rcases only i hl with rfl | rfl
      · rw [hsf] at hs
        obtain rfl := Option.some.inj hs
        rw [holds_eq, hx0]
        simp [rgUpd, hdd]
      · rw [hsf2] at hs
        obtain rfl := Option.some.inj hs
        rw [holds_eq, hx0]
        simp [rgUpd]
    · rcases only i hl with rfl | rfl
      · rw [hsf] at hs
        obtain rfl := Option.some.inj hs
        simp [Sp.own, Sp.eq] at hb
      · rw [hsf2] at hs
        obtain rfl := Option.some.inj hs
        simp [Sp.own, Sp.eq] at hb
    · intro b hb
      rcases only i hi with rfl | rfl
      · rw [hsf] at hs
        obtain rfl := Option.some.inj hs
        simp [Sp.own, Sp.eq] at hb
      · rw [hsf2] at hs
        obtain rfl := Option.some.inj hs
        simp [Sp.own, Sp.eq] at hb
    · have hif : i ≠ f := by
        rintro rfl
        rw [getD_set_ne false (Ne.symm hne)] at hl
        simp [hfl] at hl
      have hif2 : i ≠ f2 := by
        rintro rfl
        simp [hfl2] at hl
      rw [hx0]
      have h1 : d' ≠ d := by
        rintro rfl
        exact hif (dst_inj hnd hi hoft hd' hod)
      have h2 : d' ≠ d2 := by
        rintro rfl
        exact hif2 (dst_inj hnd hi hoft2 hd' hod2)
      simp [rgUpd, h1, h2]
  have htc : toCome n (((Array.replicate l.toArray.size false).setIfInBounds f true).setIfInBounds f2 true) = n - 2 := by
    have h1 : toCome n (Array.replicate l.toArray.size false) = n := by
      unfold toCome
      rw [List.filter_eq_self.2]
      · simp
      · intro i hi
        have : i < l.length := by have := List.mem_range.1 hi; omega
        simp [this]
    have h2 := toCome_setT (n := n) (i := f) (listed := Array.replicate l.toArray.size false) (by simp; omega) hfn (by simp [hfl])
    have h3 := toCome_setT (n := n) (i := f2) (listed := (Array.replicate l.toArray.size false).setIfInBounds f true) (by simp; omega) hfn2 (by rw [getD_set_ne true hne]; simp [hfl2])
    omega
  have := rr_anyF hRt hRs hc ht hst hob hwant hfin (n - 2) _ x0 w.drew INV htc
  rw [← e] at this
  have hwan : Region.wanted o (yielded l.toArray ({ tmps := T, defers := df } : Act).tmps) = true := by simp [Region.wanted, hog]
  have hwan2 : Region.wanted o2 (yielded l.toArray (({ tmps := T, defers := df } : Act).put o.dst v).tmps) = true := by simp [Region.wanted, hog2]
  have H2 := wpAny_first (Q := Q) (md := .any) hof2 (Region.noSelect_spec hsel) hQ2 (n - 2 + (l.length - n)) _ (({ tmps := T, defers := df } : Act).put o.dst v) { w with drawn := w.drawn + 1 } (Region.free_spec hof2 hfr2) hr2' (.inl ⟨hwan2, by rw [hod]; exact hv2⟩) this
  have H := wpAny_first (Q := Q) (md := .any) hof (Region.noSelect_spec hsel) hQ (n - 2 + (l.length - n) + 1) _ { tmps := T, defers := df } { w with drawn := w.drawn + 1 } (Region.free_spec hof hfr) hr' (.inl ⟨hwan, hv⟩) H2
  rw [show n - 2 + (l.length - n) + 1 + 1 = l.toArray.size by simp; omega] at H
  exact H
end
end Go.Proofs.Ytdebokambldbbaa.Mem
