/- A region that draws its order, by what each operation leaves: one obligation an operation, whatever the order. Plain theorems over any program. -/
import Derived.Test.YtojemdggbcklkaaDoorMem
import Derived.StillTail
namespace Go.Proofs.YtojemdggbcklkaaDoor.Mem
open Go.RowKit

/-- What an operation leaves: said of the values of the slots 'deps' and of the world. It must stay true while the world grows. -/
structure Sp where
  deps : List Nat
  φ : List Value → World → Prop
  fresh : Bool

/-- the block that a value points to -/
def blockOf : Value → List Nat
  | .pointer (some a) => [a.block]
  | .slice (some a) _ _ => [a.block]
  | .agg xs => match xs.toList with
    | .slice (some a) _ _ :: _ => [a.block]
    | .pointer (some a) :: _ => [a.block]
    | _ => []
  | _ => []

/-- the blocks that are new with this operation (where it says so) -/
def Sp.own (s : Sp) (x : Nat → Value) : List Nat := if s.fresh then s.deps.flatMap fun t => blockOf (x t) else []

def Sp.holds (s : Sp) (x : Nat → Value) (w : World) : Prop := s.φ (s.deps.map x) w

def rgUpd (x : Nat → Value) : Option Nat → Value → Nat → Value
  | some d, v => fun t => if t = d then v else x t
  | none, _ => x

def putMany (T : Array Value) (ds : List Nat) (x : Nat → Value) : Array Value := ds.foldl (fun T d => T.setIfInBounds d (x d)) T

def rgDsts (l : List Oper) : List Nat := l.filterMap (·.dst)

def predOf (o : Oper) (i : Nat) : Bool := o.after.toList.any fun e => Region.binds .any e && e.on == i

def rgOk (l : List Oper) (sp : List Sp) : Bool :=
  decide (sp.length = l.length) && decide (rgDsts l).Nodup &&
  (l.zipIdx.all fun (o, i) => o.after.toList.all fun e => !Region.binds .any e || decide (e.on < i)) &&
  ((l.zip sp).all fun (o, s) => s.deps.all fun t => o.dst == some t || l.zipIdx.any fun (o', k) => o'.dst == some t && predOf o k)

/-- What is asked of operation number i. -/
structure RgOb (P : Program) (Q : Exit → Act → World → Prop) (T : Array Value) (df : List Deferred) (w : World) (l : List Oper) (sp : List Sp) (i : Nat) (o : Oper) (s : Sp) : Prop where
  out : ∀ (x : Nat → Value) (w' : World), Below w.heap.size w w' →
    (∀ e ∈ o.after.toList, Region.binds .any e = true → ∀ s', sp[e.on]? = some s' → s'.holds x w') →
    (∀ o' ∈ l, predOf o' i = true → ∀ d, o'.dst = some d → x d = T.getD d undef) →
    ∀ K : Act → World → Prop, (∀ v w'', Below w'.heap.size w' w'' → s.holds (rgUpd x o.dst v) w'' → (∀ b ∈ s.own (rgUpd x o.dst v), w'.heap.size ≤ b ∧ b < w''.heap.size) → K (({ tmps := putMany T (rgDsts l) x, defers := df } : Act).put o.dst v) w'') →
      if Region.wanted o (yielded l.toArray (putMany T (rgDsts l) x)) = true then o.wp P { tmps := putMany T (rgDsts l) x, defers := df } w' K Q
      else K (({ tmps := putMany T (rgDsts l) x, defers := df } : Act).put o.dst undef) w'

def RgObs (P : Program) (Q : Exit → Act → World → Prop) (T : Array Value) (df : List Deferred) (w : World) (l : List Oper) (sp : List Sp) : Nat → List Oper → List Sp → Prop
  | i, o :: r, s :: q => RgOb P Q T df w l sp i o s ∧ RgObs P Q T df w l sp (i + 1) r q
  | _, _, _ => True

def RgAll (x : Nat → Value) (w : World) : List Sp → Prop
  | [] => True
  | s :: r => s.holds x w ∧ RgAll x w r

def RgApart (x : Nat → Value) : List Sp → Prop
  | [] => True
  | s :: r => (∀ b ∈ s.own x, ∀ s' ∈ r, b ∉ s'.own x) ∧ RgApart x r

theorem RgApart_of {x : Nat → Value} : ∀ {sp : List Sp}, (∀ (i j : Nat) (s s' : Sp), sp[i]? = some s → sp[j]? = some s' → i ≠ j → ∀ b ∈ s.own x, b ∉ s'.own x) → RgApart x sp
  | [], _ => trivial
  | s :: r, h => ⟨fun b hb s' hs' => by
      obtain ⟨j, hj⟩ := List.getElem?_of_mem hs'
      exact h 0 (j + 1) s s' (by simp) (by simpa using hj) (by omega) b hb, RgApart_of fun i j s1 s2 h1 h2 hne => h (i + 1) (j + 1) s1 s2 (by simpa using h1) (by simpa using h2) (by omega)⟩

theorem own_upd {s : Sp} {x : Nat → Value} {o : Option Nat} {v : Value} (hn : ∀ d, o = some d → d ∉ s.deps) : s.own (rgUpd x o v) = s.own x := by
  unfold Sp.own
  split
  · have e : ∀ t ∈ s.deps, rgUpd x o v t = x t := by
      intro t ht
      cases o with
      | none => rfl
      | some d =>
        have : t ≠ d := fun e => hn d rfl (e ▸ ht)
        simp [rgUpd, this]
    have : ∀ l : List Nat, (∀ t ∈ l, rgUpd x o v t = x t) → (l.flatMap fun t => blockOf (rgUpd x o v t)) = l.flatMap fun t => blockOf (x t) := by
      intro l
      induction l with
      | nil => intro _; rfl
      | cons t r ih =>
        intro h
        simp only [List.flatMap_cons]
        rw [h t (by simp), ih fun t' ht' => h t' (by simp [ht'])]
    exact this _ e
  · rfl

theorem RgAll_of {x : Nat → Value} {w : World} : ∀ {sp : List Sp}, (∀ (i : Nat) (s : Sp), sp[i]? = some s → s.holds x w) → RgAll x w sp
  | [], _ => trivial
  | s :: _, h => ⟨h 0 s (by simp), RgAll_of fun i s' hs => h (i + 1) s' (by simpa using hs)⟩

theorem RgObs_at {P : Program} {Q : Exit → Act → World → Prop} {T : Array Value} {df : List Deferred} {w : World} {l : List Oper} {sp : List Sp} : ∀ {k : Nat} {r : List Oper} {q : List Sp}, RgObs P Q T df w l sp k r q →
    ∀ (j : Nat) (o : Oper) (s : Sp), r[j]? = some o → q[j]? = some s → RgOb P Q T df w l sp (k + j) o s
  | k, o :: r, s :: q, h, 0, o', s', ho, hs => by
    simp at ho hs
    subst ho hs
    exact h.1
  | k, o :: r, s :: q, h, j + 1, o', s', ho, hs => by
    have := RgObs_at h.2 j o' s' (by simpa using ho) (by simpa using hs)
    rw [show k + (j + 1) = k + 1 + j by omega]
    exact this
  | _, [], _, _, _, _, _, ho, _ => by simp at ho
  | _, _ :: _, [], _, _, _, _, _, hs => by simp at hs

theorem putMany_size (T : Array Value) (ds : List Nat) (x : Nat → Value) : (putMany T ds x).size = T.size := by
  induction ds generalizing T with
  | nil => rfl
  | cons d r ih => unfold putMany at *; simp only [List.foldl_cons]; rw [ih]; simp

theorem putMany_get (T : Array Value) (ds : List Nat) (x : Nat → Value) (hn : ds.Nodup) (t : Nat) : (putMany T ds x)[t]? = if t ∈ ds ∧ t < T.size then some (x t) else T[t]? := by
  induction ds generalizing T with
  | nil => simp [putMany]
  | cons d r ih =>
    rw [List.nodup_cons] at hn
    have h := ih (T.setIfInBounds d (x d)) hn.2
    have e : putMany T (d :: r) x = putMany (T.setIfInBounds d (x d)) r x := rfl
    rw [e, h, Array.getElem?_setIfInBounds]
    simp only [Array.size_setIfInBounds, List.mem_cons]
    by_cases htr : t ∈ r
    · by_cases hts : t < T.size
      · simp [htr, hts]
      · have : d ≠ t := by rintro rfl; exact hn.1 htr
        simp [hts, this]
    · by_cases htd : t = d
      · subst htd
        by_cases hts : t < T.size
        · simp [htr, hts]
        · simp [htr, hts]
      · have : d ≠ t := fun e => htd e.symm
        simp [htr, htd, this]

theorem putMany_upd (T : Array Value) (ds : List Nat) (x : Nat → Value) (hn : ds.Nodup) (o : Option Nat) (ho : ∀ d, o = some d → d ∈ ds) (v : Value) (df : List Deferred) :
    (({ tmps := putMany T ds x, defers := df } : Act).put o v) = { tmps := putMany T ds (rgUpd x o v), defers := df } := by
  cases o with
  | none => rfl
  | some d =>
    have hd := ho d rfl
    simp only [Act.put, Act.mk.injEq, and_true]
    apply Array.ext_getElem?
    intro t
    rw [Array.getElem?_setIfInBounds, putMany_get _ _ _ hn, putMany_get _ _ _ hn, putMany_size]
    by_cases htd : t = d
    · subst htd
      by_cases hts : t < T.size
      · simp [hts, hd, rgUpd]
      · simp [hts]
    · have : d ≠ t := fun e => htd e.symm
      simp [this, rgUpd, htd]

theorem holds_upd {s : Sp} {x : Nat → Value} {w : World} {o : Option Nat} {v : Value} (h : s.holds x w) (hn : ∀ d, o = some d → d ∉ s.deps) : s.holds (rgUpd x o v) w := by
  unfold Sp.holds at *
  have e : s.deps.map (rgUpd x o v) = s.deps.map x := by
    apply List.map_congr_left
    intro t ht
    cases o with
    | none => rfl
    | some d =>
      have : t ≠ d := fun e => hn d rfl (e ▸ ht)
      simp [rgUpd, this]
  rw [e]
  exact h

section
variable {P : Program} {Q : Exit → Act → World → Prop} {T : Array Value} {df : List Deferred} {w : World} {l : List Oper} {sp : List Sp}

/-- how many are still to come -/
def toCome (n : Nat) (listed : Array Bool) : Nat := ((List.range n).filter fun i => !listed.getD i true).length

structure RgInv (T : Array Value) (w : World) (l : List Oper) (sp : List Sp) (listed : Array Bool) (x : Nat → Value) (w' : World) : Prop where
  size : listed.size = l.length
  closed : ∀ (j : Nat) (o : Oper), l[j]? = some o → listed.getD j false = true → ∀ e ∈ o.after.toList, Region.binds .any e = true → listed.getD e.on false = true
  grow : Below w.heap.size w w'
  held : ∀ (i : Nat) (s : Sp), sp[i]? = some s → listed.getD i false = true → s.holds x w'
  new_ : ∀ (i : Nat) (s : Sp), sp[i]? = some s → listed.getD i false = true → ∀ b ∈ s.own x, b < w'.heap.size
  apart : ∀ (i j : Nat) (s s' : Sp), sp[i]? = some s → sp[j]? = some s' → listed.getD i false = true → listed.getD j false = true → i ≠ j → ∀ b ∈ s.own x, b ∉ s'.own x
  rest : ∀ (i : Nat) (o : Oper) (d : Nat), l[i]? = some o → o.dst = some d → listed.getD i false = false → x d = T.getD d undef

theorem listed_cases {listed : Array Bool} {i : Nat} (hi : i < listed.size) : listed.getD i true = listed.getD i false := by
  simp [hi]

theorem dst_inj {l : List Oper} (hn : (rgDsts l).Nodup) : ∀ {i j : Nat} {a b : Oper} {d : Nat}, l[i]? = some a → l[j]? = some b → a.dst = some d → b.dst = some d → i = j := by
  induction l with
  | nil => intro i j a b d h; simp at h
  | cons o r ih =>
    have hr : (rgDsts r).Nodup := by
      unfold rgDsts at hn ⊢
      rw [List.filterMap_cons] at hn
      split at hn
      · exact hn
      · exact (List.nodup_cons.1 hn).2
    have key : ∀ (j : Nat) (b : Oper) (d : Nat), o.dst = some d → r[j]? = some b → b.dst = some d → False := by
      intro j b d ho hb hbd
      unfold rgDsts at hn
      rw [List.filterMap_cons, ho] at hn
      exact (List.nodup_cons.1 hn).1 (List.mem_filterMap.2 ⟨b, List.mem_of_getElem? hb, hbd⟩)
    intro i j a b d hi hj ha hb
    cases i with
    | zero =>
      cases j with
      | zero => rfl
      | succ j =>
        simp at hi hj
        subst hi
        exact (key j b d ha hj hb).elim
    | succ i =>
      cases j with
      | zero =>
        simp at hi hj
        subst hj
        exact (key i a d hb hi ha).elim
      | succ j =>
        simp at hi hj
        rw [ih hr hi hj ha hb]

theorem toCome_set {n i : Nat} {listed : Array Bool} (hs : listed.size = n) (hi : i < n) (hl : listed.getD i true = false) : toCome n listed = toCome n (listed.setIfInBounds i true) + 1 := by
  unfold toCome
  have h1 : ((List.range n).filter fun j => !(listed.setIfInBounds i true).getD j true) = ((List.range n).filter fun j => !listed.getD j true).filter fun j => j != i := by
    rw [List.filter_filter]
    apply List.filter_congr
    intro j _
    by_cases hji : j = i
    · subst hji
      have : j < listed.size := by omega
      simp [this]
    · have hne : i ≠ j := fun e => hji e.symm
      rw [getD_set_ne true hne]
      simp [hji]
  rw [h1]
  have hmem : i ∈ (List.range n).filter fun j => !listed.getD j true := by
    rw [List.mem_filter, List.mem_range]
    exact ⟨hi, by rw [hl]; rfl⟩
  have hnd : ((List.range n).filter fun j => !listed.getD j true).Nodup := List.Pairwise.filter _ List.nodup_range
  generalize ((List.range n).filter fun j => !listed.getD j true) = L at hmem hnd
  have : L.filter (fun j => j != i) = L.erase i := by rw [List.Nodup.erase_eq_filter hnd]
  rw [this, List.length_erase_of_mem hmem]
  have := List.length_pos_of_mem hmem
  omega

theorem toCome_setT {n i : Nat} {listed : Array Bool} (hs : n ≤ listed.size) (hi : i < n) (hl : listed.getD i true = false) : toCome n listed = toCome n (listed.setIfInBounds i true) + 1 := by
  unfold toCome
  have h1 : ((List.range n).filter fun j => !(listed.setIfInBounds i true).getD j true) = ((List.range n).filter fun j => !listed.getD j true).filter fun j => j != i := by
    rw [List.filter_filter]
    apply List.filter_congr
    intro j _
    by_cases hji : j = i
    · subst hji
      have : j < listed.size := by omega
      simp [this]
    · have hne : i ≠ j := fun e => hji e.symm
      rw [getD_set_ne true hne]
      simp [hji]
  rw [h1]
  have hmem : i ∈ (List.range n).filter fun j => !listed.getD j true := by
    rw [List.mem_filter, List.mem_range]
    exact ⟨hi, by rw [hl]; rfl⟩
  have hnd : ((List.range n).filter fun j => !listed.getD j true).Nodup := List.Pairwise.filter _ List.nodup_range
  generalize ((List.range n).filter fun j => !listed.getD j true) = L at hmem hnd
  have : L.filter (fun j => j != i) = L.erase i := by rw [List.Nodup.erase_eq_filter hnd]
  rw [this, List.length_erase_of_mem hmem]
  have := List.length_pos_of_mem hmem
  omega

/-- a first one that has not come up yet may come up -/
theorem ready_exists {listed : Array Bool} (hb : ∀ (i : Nat) (o : Oper), l[i]? = some o → ∀ e ∈ o.after.toList, Region.binds .any e = true → e.on < i) (hs : listed.size = l.length) :
    ∀ (k : Nat), k < l.length → listed.getD k true = false → ∃ i, i ∈ Region.ready .any l.toArray listed := by
  intro k
  induction k using Nat.strongRecOn with
  | _ k ih =>
    intro hk hun
    obtain ⟨o, ho⟩ : ∃ o, l[k]? = some o := ⟨l[k], List.getElem?_eq_getElem hk⟩
    by_cases hall : ∀ e ∈ o.after, Region.binds .any e = true → listed.getD e.on false = true
    · exact ⟨k, mem_ready.2 ⟨hun, o, by simpa using ho, hall⟩⟩
    · simp only [Classical.not_forall] at hall
      obtain ⟨e, he, hbe, hne⟩ := hall
      have hlt := hb k o ho e (by simpa using he) hbe
      refine ih e.on hlt (by omega) ?_
      rw [listed_cases (by omega)]
      simpa using hne

theorem rg_any (hc : rgOk l sp = true) (hst : ∀ s ∈ sp, ∀ vs w1 w2, s.φ vs w1 → Below w1.heap.size w1 w2 → s.φ vs w2) (hob : RgObs P Q T df w l sp 0 l sp)
    (hfin : ∀ x w', Below w.heap.size w w' → RgAll x w' sp → RgApart x sp → Q .normal { tmps := putMany T (rgDsts l) x, defers := df } w') :
    ∀ (fuel : Nat) (listed : Array Bool) (x : Nat → Value) (w' : World), RgInv T w l sp listed x w' → toCome l.length listed = fuel →
      wpAny P .any l.toArray Q fuel listed { tmps := putMany T (rgDsts l) x, defers := df } w' := by
  simp only [rgOk, Bool.and_eq_true, decide_eq_true_eq] at hc
  obtain ⟨⟨⟨hlen, hnd⟩, hback⟩, hdeps⟩ := hc
  have hb : ∀ (i : Nat) (o : Oper), l[i]? = some o → ∀ e ∈ o.after.toList, Region.binds .any e = true → e.on < i := by
    intro i o ho e he hbe
    have h1 := List.all_eq_true.1 hback (o, i) (by rw [List.mem_zipIdx_iff_getElem?]; exact ho)
    have h2 := List.all_eq_true.1 h1 e he
    simpa [hbe] using h2
  have hd : ∀ (j : Nat) (o : Oper) (s : Sp), l[j]? = some o → sp[j]? = some s → ∀ t ∈ s.deps, o.dst = some t ∨ ∃ k o', l[k]? = some o' ∧ o'.dst = some t ∧ predOf o k = true := by
    intro j o s ho hs t ht
    have hm : (o, s) ∈ l.zip sp := List.mem_of_getElem? (i := j) (by rw [List.getElem?_zip_eq_some]; exact ⟨ho, hs⟩)
    have h1 := List.all_eq_true.1 (List.all_eq_true.1 hdeps (o, s) hm) t ht
    simp only [Bool.or_eq_true, beq_iff_eq] at h1
    rcases h1 with h1 | h1
    · exact .inl h1
    · obtain ⟨⟨o', k⟩, hk, h2⟩ := List.any_eq_true.1 h1
      simp only [Bool.and_eq_true, beq_iff_eq] at h2
      rw [List.mem_zipIdx_iff_getElem?] at hk
      exact .inr ⟨k, o', hk, h2.1, h2.2⟩
  have done : ∀ (listed : Array Bool) (x : Nat → Value) (w' : World), RgInv T w l sp listed x w' → Region.ready .any l.toArray listed = [] → Q .normal { tmps := putMany T (rgDsts l) x, defers := df } w' := by
    intro listed x w' inv hr
    have hall : ∀ (i : Nat) (s : Sp), sp[i]? = some s → listed.getD i false = true := by
      intro i s hs
      have hi : i < l.length := by have := (List.getElem?_eq_some_iff.1 hs).1; omega
      cases hl : listed.getD i false with
      | true => rfl
      | false =>
        obtain ⟨j, hj⟩ := ready_exists hb inv.size i hi (by rw [listed_cases (by rw [inv.size]; exact hi)]; exact hl)
        rw [hr] at hj
        cases hj
    exact hfin x w' inv.grow (RgAll_of fun i s hs => inv.held i s hs (hall i s hs)) (RgApart_of fun i j s s' h1 h2 hne => inv.apart i j s s' h1 h2 (hall i s h1) (hall j s' h2) hne)
  intro fuel
  induction fuel with
  | zero =>
    intro listed x w' inv ht
    have hr : Region.ready .any l.toArray listed = [] := by
      cases hr : Region.ready .any l.toArray listed with
      | nil => rfl
      | cons i r =>
        have hi : i ∈ Region.ready .any l.toArray listed := by rw [hr]; exact List.mem_cons_self
        obtain ⟨h0, o, ho, _⟩ := mem_ready.1 hi
        have hil : i < l.length := by have := (Array.getElem?_eq_some_iff.1 ho).1; simpa using this
        rw [toCome_set inv.size hil h0] at ht
        omega
    exact ⟨hr, done listed x w' inv hr⟩
  | succ fuel ih =>
    intro listed x w' inv ht
    refine ⟨fun hr => done listed x w' inv hr, fun i hi => ?_⟩
    obtain ⟨h0, o, ho', hall⟩ := mem_ready.1 hi
    have hil : i < l.length := by have := (Array.getElem?_eq_some_iff.1 ho').1; simpa using this
    have ho : l[i]? = some o := by simpa using ho'
    obtain ⟨s, hs⟩ : ∃ s, sp[i]? = some s := ⟨sp[i]'(by omega), List.getElem?_eq_getElem (by omega)⟩
    have h0' : listed.getD i false = false := by rw [← listed_cases (by rw [inv.size]; exact hil)]; exact h0
    have hob' := RgObs_at hob i o s ho hs
    rw [Nat.zero_add] at hob'
    have step := hob'.out x w' inv.grow
      (fun e he hbe s' hs' => inv.held e.on s' hs' (hall e (by simpa using he) hbe))
      (fun o' ho'' hp d hd' => by
        obtain ⟨j, hj⟩ := List.getElem?_of_mem ho''
        refine inv.rest j o' d hj hd' ?_
        cases hl : listed.getD j false with
        | false => rfl
        | true =>
          unfold predOf at hp
          obtain ⟨e, he, hbe⟩ := List.any_eq_true.1 hp
          simp only [Bool.and_eq_true, beq_iff_eq] at hbe
          have := inv.closed j o' hj hl e he hbe.1
          rw [hbe.2, h0'] at this
          cases this)
      (wpAny P .any l.toArray Q fuel (listed.setIfInBounds i true))
      (fun v w'' hg hφ hfr => by
        rw [putMany_upd T (rgDsts l) x hnd o.dst (fun d hd' => List.mem_filterMap.2 ⟨o, List.mem_of_getElem? ho, hd'⟩)]
        have hnot : ∀ (j : Nat) (sj : Sp), sp[j]? = some sj → listed.getD j false = true → i ≠ j → ∀ d, o.dst = some d → d ∉ sj.deps := by
          intro j sj hj hl hij d hd' hdd
          obtain ⟨oj, hoj⟩ : ∃ oj, l[j]? = some oj := by
            have : j < l.length := by have := (List.getElem?_eq_some_iff.1 hj).1; omega
            exact ⟨l[j], List.getElem?_eq_getElem this⟩
          rcases hd j oj sj hoj hj d hdd with h3 | ⟨k, ok, hok, h3, h4⟩
          · exact hij (dst_inj hnd ho hoj hd' h3)
          · have hki := dst_inj hnd ho hok hd' h3
            subst hki
            unfold predOf at h4
            obtain ⟨e, he, hbe⟩ := List.any_eq_true.1 h4
            simp only [Bool.and_eq_true, beq_iff_eq] at hbe
            have := inv.closed j oj hoj hl e he hbe.1
            rw [hbe.2, h0'] at this
            cases this
        refine ih _ _ _ ⟨by simp [inv.size], ?_, inv.grow.trans (hg.mono inv.grow.size), ?_, ?_, ?_, ?_⟩ (by rw [toCome_set inv.size hil h0] at ht; omega)
        · intro j oj hj hl e he hbe
          by_cases hij : i = j
          · subst hij
            have : oj = o := Option.some.inj (hj.symm.trans ho)
            subst this
            exact getD_set_true (hall e (by simpa using he) hbe)
          · rw [getD_set_ne false hij] at hl
            exact getD_set_true (inv.closed j oj hj hl e he hbe)
        · intro j sj hj hl
          by_cases hij : i = j
          · subst hij
            have : sj = s := Option.some.inj (hj.symm.trans hs)
            subst this
            exact hφ
          · rw [getD_set_ne false hij] at hl
            have h1 := inv.held j sj hj hl
            have h2 : sj.holds x w'' := hst sj (List.mem_of_getElem? hj) _ _ _ h1 hg
            exact holds_upd h2 (hnot j sj hj hl hij)
        · intro j sj hj hl b hbo
          by_cases hij : i = j
          · subst hij
            have : sj = s := Option.some.inj (hj.symm.trans hs)
            subst this
            exact (hfr b hbo).2
          · rw [getD_set_ne false hij] at hl
            rw [own_upd (hnot j sj hj hl hij)] at hbo
            exact Nat.lt_of_lt_of_le (inv.new_ j sj hj hl b hbo) hg.size
        · intro j k sj sk hj hk hlj hlk hjk b hbo hbk
          by_cases hij : i = j
          · subst hij
            have : sj = s := Option.some.inj (hj.symm.trans hs)
            subst this
            rw [getD_set_ne false hjk] at hlk
            rw [own_upd (hnot k sk hk hlk hjk)] at hbk
            have := inv.new_ k sk hk hlk b hbk
            have := (hfr b hbo).1
            omega
          · rw [getD_set_ne false hij] at hlj
            rw [own_upd (hnot j sj hj hlj hij)] at hbo
            by_cases hik : i = k
            · subst hik
              have : sk = s := Option.some.inj (hk.symm.trans hs)
              subst this
              have := inv.new_ j sj hj hlj b hbo
              have := (hfr b hbk).1
              omega
            · rw [getD_set_ne false hik] at hlk
              rw [own_upd (hnot k sk hk hlk hik)] at hbk
              exact inv.apart j k sj sk hj hk hlj hlk hjk b hbo hbk
        · intro j oj d hj hdj hl
          have hij : i ≠ j := by
            rintro rfl
            have : i < listed.size := by rw [inv.size]; exact hil
            simp [this] at hl
          rw [getD_set_ne false hij] at hl
          have h1 := inv.rest j oj d hj hdj hl
          cases hdo : o.dst with
          | none => exact h1
          | some d' =>
            have : d ≠ d' := by rintro rfl; exact hij (dst_inj hnd ho hj hdo hdj)
            simp [rgUpd, this, h1])
    unfold wpOp
    rw [ho']
    simp only
    split
    · rename_i hw
      rw [if_pos hw] at step
      exact .inl step
    · rename_i hw
      rw [if_neg hw] at step
      exact step

/-- **A REGION THAT DRAWS ITS ORDER, BY WHAT EACH OPERATION LEAVES.** -/
theorem wp_region_rg {id : Nat} (sp : List Sp) (hm : P.follows .mixedOrders = true) (hc : rgOk l sp = true) (hst : ∀ s ∈ sp, ∀ vs w1 w2, s.φ vs w1 → Below w1.heap.size w1 w2 → s.φ vs w2)
    (hob : RgObs P Q T df w l sp 0 l sp)
    (hfin : ∀ x w', Below w.heap.size w w' → RgAll x w' sp → RgApart x sp → Q .normal { tmps := putMany T (rgDsts l) x, defers := df } w') : (Code.region id l.toArray true).wp P Q { tmps := T, defers := df } w := by
  refine wp_region_any hm ?_
  have hnd : (rgDsts l).Nodup := by
    simp only [rgOk, Bool.and_eq_true, decide_eq_true_eq] at hc
    exact hc.1.1.2
  have e : (⟨T, df⟩ : Act) = { tmps := putMany T (rgDsts l) (fun t => T.getD t undef), defers := df } := by
    congr 1
    apply Array.ext_getElem?
    intro t
    rw [putMany_get _ _ _ hnd]
    split
    · rename_i h; simp [h.2]
    · rfl
  rw [e]
  refine rg_any hc hst hob hfin _ _ _ _ ⟨by simp, fun j o _ hl => (by rw [getD_replicate_false] at hl; cases hl), (Below.refl _ _).drew, fun i s _ hl => (by rw [getD_replicate_false] at hl; cases hl), fun i s _ hl => (by rw [getD_replicate_false] at hl; cases hl), fun i j s s' _ _ hl => (by rw [getD_replicate_false] at hl; cases hl), fun i o d _ _ _ => rfl⟩ ?_
  unfold toCome
  rw [List.filter_eq_self.2]
  · simp
  · intro i hi
    have : i < l.length := by simpa using hi
    simp [this]

/-! ### The last operations in one forced order (stores): the tail -/

def rgTailOk (l : List Oper) (n : Nat) : Bool :=
  decide (n < l.length) && Region.sinkB .any l.toArray n && Region.chainB .any l.toArray n &&
  Region.seqB .any l.toArray (l.length - n) n (Array.replicate n true ++ Array.replicate (l.length - n) false)

structure RgInvT (T : Array Value) (w : World) (l : List Oper) (n : Nat) (sp : List Sp) (listed : Array Bool) (x : Nat → Value) (w' : World) : Prop where
  size : listed.size = l.length
  closed : ∀ (j : Nat) (o : Oper), l[j]? = some o → listed.getD j false = true → ∀ e ∈ o.after.toList, Region.binds .any e = true → listed.getD e.on false = true
  tail : ∀ t, n ≤ t → t < l.length → listed.getD t true = false
  grow : Below w.heap.size w w'
  held : ∀ (i : Nat) (s : Sp), sp[i]? = some s → listed.getD i false = true → s.holds x w'
  new_ : ∀ (i : Nat) (s : Sp), sp[i]? = some s → listed.getD i false = true → ∀ b ∈ s.own x, b < w'.heap.size
  apart : ∀ (i j : Nat) (s s' : Sp), sp[i]? = some s → sp[j]? = some s' → listed.getD i false = true → listed.getD j false = true → i ≠ j → ∀ b ∈ s.own x, b ∉ s'.own x
  rest : ∀ (i : Nat) (o : Oper) (d : Nat), (l.take n)[i]? = some o → o.dst = some d → listed.getD i false = false → x d = T.getD d undef

theorem rg_anyT {n : Nat} (hc : rgOk (l.take n) sp = true) (ht : rgTailOk l n = true) (hst : ∀ s ∈ sp, ∀ vs w1 w2, s.φ vs w1 → Below w1.heap.size w1 w2 → s.φ vs w2) (hob : RgObs P Q T df w (l.take n) sp 0 (l.take n) sp)
    (hwant : ∀ (i : Nat) (o : Oper) (x : Nat → Value), (l.take n)[i]? = some o → Region.wanted o (yielded l.toArray (putMany T (rgDsts (l.take n)) x)) = Region.wanted o (yielded (l.take n).toArray (putMany T (rgDsts (l.take n)) x)))
    (hfin : ∀ x w', Below w.heap.size w w' → RgAll x w' sp → RgApart x sp → wpList P l.toArray Q (l.drop n) { tmps := putMany T (rgDsts (l.take n)) x, defers := df } w') :
    ∀ (m : Nat) (listed : Array Bool) (x : Nat → Value) (w' : World), RgInvT T w l n sp listed x w' → toCome n listed = m →
      wpAny P .any l.toArray Q (m + (l.length - n)) listed { tmps := putMany T (rgDsts (l.take n)) x, defers := df } w' := by
  simp only [rgTailOk, Bool.and_eq_true, decide_eq_true_eq] at ht
  obtain ⟨⟨⟨hn, hsink⟩, hchain⟩, hseq⟩ := ht
  simp only [rgOk, Bool.and_eq_true, decide_eq_true_eq] at hc
  obtain ⟨⟨⟨hlen, hnd⟩, hback⟩, hdeps⟩ := hc
  have hln : (l.take n).length = n := by simp; omega
  have hget : ∀ i, i < n → (l.take n)[i]? = l[i]? := fun i hi => by rw [List.getElem?_take]; simp [hi]
  have hb : ∀ (i : Nat) (o : Oper), (l.take n)[i]? = some o → ∀ e ∈ o.after.toList, Region.binds .any e = true → e.on < i := by
    intro i o ho e he hbe
    have h1 := List.all_eq_true.1 hback (o, i) (by rw [List.mem_zipIdx_iff_getElem?]; exact ho)
    have h2 := List.all_eq_true.1 h1 e he
    simpa [hbe] using h2
  have hd : ∀ (j : Nat) (o : Oper) (s : Sp), (l.take n)[j]? = some o → sp[j]? = some s → ∀ t ∈ s.deps, o.dst = some t ∨ ∃ k o', (l.take n)[k]? = some o' ∧ o'.dst = some t ∧ predOf o k = true := by
    intro j o s ho hs t ht
    have hm : (o, s) ∈ (l.take n).zip sp := List.mem_of_getElem? (i := j) (by rw [List.getElem?_zip_eq_some]; exact ⟨ho, hs⟩)
    have h1 := List.all_eq_true.1 (List.all_eq_true.1 hdeps (o, s) hm) t ht
    simp only [Bool.or_eq_true, beq_iff_eq] at h1
    rcases h1 with h1 | h1
    · exact .inl h1
    · obtain ⟨⟨o', k⟩, hk, h2⟩ := List.any_eq_true.1 h1
      simp only [Bool.and_eq_true, beq_iff_eq] at h2
      rw [List.mem_zipIdx_iff_getElem?] at hk
      exact .inr ⟨k, o', hk, h2.1, h2.2⟩
  intro m
  induction m with
  | zero =>
    intro listed x w' inv hm
    have hall : ∀ i, i < n → listed.getD i true = true := by
      intro i hi
      cases hl : listed.getD i true with
      | true => rfl
      | false =>
        unfold toCome at hm
        have : i ∈ (List.range n).filter fun i => !listed.getD i true := by
          rw [List.mem_filter, List.mem_range]
          exact ⟨hi, by rw [hl]; rfl⟩
        have := List.length_pos_of_mem this
        omega
    have hL : listed = Array.replicate n true ++ Array.replicate (l.length - n) false := by
      apply Array.ext_getElem?
      intro t
      by_cases htn : t < n
      · have h1 := hall t htn
        have h2 : t < listed.size := by rw [inv.size]; omega
        rw [Array.getElem?_append_left (by simpa using htn)]
        simp [h2] at h1
        simp [h2, htn, h1]
      · by_cases htl : t < l.length
        · have h1 := inv.tail t (by omega) htl
          have h2 : t < listed.size := by rw [inv.size]; omega
          have h3 : listed[t] = false := by simpa [h2] using h1
          rw [Array.getElem?_append_right (by simp; omega), Array.size_replicate, Array.getElem?_eq_getElem h2, h3, Array.getElem?_replicate, if_pos (by omega)]
        · rw [Array.getElem?_eq_none (by rw [inv.size]; omega), Array.getElem?_eq_none (by simp; omega)]
    rw [Nat.zero_add]
    have hlst : (l.drop n).length = l.length - n := by simp
    rw [← hlst]
    refine wpAny_of_seq (l.drop n) n listed _ w' (fun j => by simp [List.getElem?_drop]) (by rw [hlst, hL]; exact hseq) ?_
    have hall' : ∀ (i : Nat) (s : Sp), sp[i]? = some s → listed.getD i false = true := by
      intro i s hs
      have hi : i < n := by have := (List.getElem?_eq_some_iff.1 hs).1; omega
      rw [← listed_cases (by rw [inv.size]; omega)]
      exact hall i hi
    exact hfin x w' inv.grow (RgAll_of fun i s hs => inv.held i s hs (hall' i s hs)) (RgApart_of fun i j s s' h1 h2 hne => inv.apart i j s s' h1 h2 (hall' i s h1) (hall' j s' h2) hne)
  | succ m ih =>
    intro listed x w' inv hm
    have hex : ∃ i, i < n ∧ listed.getD i true = false := by
      unfold toCome at hm
      have hpos : 0 < ((List.range n).filter fun i => !listed.getD i true).length := by omega
      obtain ⟨i, hi⟩ := List.exists_mem_of_length_pos hpos
      rw [List.mem_filter, List.mem_range] at hi
      exact ⟨i, hi.1, by simpa using hi.2⟩
    obtain ⟨i0, hi0, hu0⟩ := hex
    have hinv : HeadInv .any l.toArray n listed := ⟨by simp [inv.size], fun j oj hj hl e he hbe => inv.closed j oj (by simpa using hj) hl e (by simpa using he) hbe, fun t ht ht' => inv.tail t ht (by simpa using ht')⟩
    rw [show m + 1 + (l.length - n) = (m + (l.length - n)) + 1 by omega]
    have hrn : ∀ j ∈ Region.ready .any l.toArray listed, j < n := fun j hj => by
      rcases Nat.lt_or_ge j n with h | h
      · exact h
      · exact absurd hj (tail_waits hsink hchain (by simpa using hn) hinv _ i0 rfl hi0 hu0 j h)
    have hre : ∀ (k : Nat), k < n → listed.getD k true = false → ∃ i, i ∈ Region.ready .any l.toArray listed := by
      intro k
      induction k using Nat.strongRecOn with
      | _ k ihk =>
        intro hk hun
        obtain ⟨o, ho⟩ : ∃ o, l[k]? = some o := ⟨l[k], List.getElem?_eq_getElem (by omega)⟩
        by_cases hall : ∀ e ∈ o.after, Region.binds .any e = true → listed.getD e.on false = true
        · exact ⟨k, mem_ready.2 ⟨hun, o, by simpa using ho, hall⟩⟩
        · simp only [Classical.not_forall] at hall
          obtain ⟨e, he, hbe, hne⟩ := hall
          have hlt := hb k o (by rw [hget k hk]; exact ho) e (by simpa using he) hbe
          refine ihk e.on hlt (by omega) ?_
          rw [listed_cases (by rw [inv.size]; omega)]
          simpa using hne
    refine ⟨fun hr => ?_, fun i hi => ?_⟩
    · obtain ⟨j, hj⟩ := hre i0 hi0 hu0
      rw [hr] at hj
      cases hj
    obtain ⟨h0, o, ho', hall⟩ := mem_ready.1 hi
    have hin := hrn i hi
    have hol : l[i]? = some o := by simpa using ho'
    have ho : (l.take n)[i]? = some o := by rw [hget i hin]; exact hol
    have hil : i < l.length := by omega
    obtain ⟨s, hs⟩ : ∃ s, sp[i]? = some s := ⟨sp[i]'(by omega), List.getElem?_eq_getElem (by omega)⟩
    have h0' : listed.getD i false = false := by rw [← listed_cases (by rw [inv.size]; exact hil)]; exact h0
    have hob' := RgObs_at hob i o s ho hs
    rw [Nat.zero_add] at hob'
    have step := hob'.out x w' inv.grow
      (fun e he hbe s' hs' => inv.held e.on s' hs' (hall e (by simpa using he) hbe))
      (fun o' ho'' hp d hd' => by
        obtain ⟨j, hj⟩ := List.getElem?_of_mem ho''
        refine inv.rest j o' d hj hd' ?_
        cases hl : listed.getD j false with
        | false => rfl
        | true =>
          unfold predOf at hp
          obtain ⟨e, he, hbe⟩ := List.any_eq_true.1 hp
          simp only [Bool.and_eq_true, beq_iff_eq] at hbe
          have hjn : j < n := by have := (List.getElem?_eq_some_iff.1 hj).1; omega
          have := inv.closed j o' (by rw [← hget j hjn]; exact hj) hl e he hbe.1
          rw [hbe.2, h0'] at this
          cases this)
      (wpAny P .any l.toArray Q (m + (l.length - n)) (listed.setIfInBounds i true))
      (fun v w'' hg hφ hfr => by
        rw [putMany_upd T (rgDsts (l.take n)) x hnd o.dst (fun d hd' => List.mem_filterMap.2 ⟨o, List.mem_of_getElem? ho, hd'⟩)]
        have hnot : ∀ (j : Nat) (sj : Sp), sp[j]? = some sj → listed.getD j false = true → i ≠ j → ∀ d, o.dst = some d → d ∉ sj.deps := by
          intro j sj hj hl hij d hd' hdd
          have hjn : j < n := by have := (List.getElem?_eq_some_iff.1 hj).1; omega
          obtain ⟨oj, hoj⟩ : ∃ oj, (l.take n)[j]? = some oj := ⟨(l.take n)[j]'(by omega), List.getElem?_eq_getElem (by omega)⟩
          rcases hd j oj sj hoj hj d hdd with h3 | ⟨k, ok, hok, h3, h4⟩
          · exact hij (dst_inj hnd ho hoj hd' h3)
          · have hki := dst_inj hnd ho hok hd' h3
            subst hki
            unfold predOf at h4
            obtain ⟨e, he, hbe⟩ := List.any_eq_true.1 h4
            simp only [Bool.and_eq_true, beq_iff_eq] at hbe
            have := inv.closed j oj (by rw [← hget j hjn]; exact hoj) hl e he hbe.1
            rw [hbe.2, h0'] at this
            cases this
        refine ih _ _ _ ⟨by simp [inv.size], ?_, ?_, inv.grow.trans (hg.mono inv.grow.size), ?_, ?_, ?_, ?_⟩ ?_
        · intro j oj hj hl e he hbe
          by_cases hij : i = j
          · subst hij
            have : oj = o := Option.some.inj (hj.symm.trans hol)
            subst this
            exact getD_set_true (hall e (by simpa using he) hbe)
          · rw [getD_set_ne false hij] at hl
            exact getD_set_true (inv.closed j oj hj hl e he hbe)
        · intro t ht1 ht2
          rw [getD_set_ne true (by omega)]
          exact inv.tail t ht1 ht2
        · intro j sj hj hl
          by_cases hij : i = j
          · subst hij
            have : sj = s := Option.some.inj (hj.symm.trans hs)
            subst this
            exact hφ
          · rw [getD_set_ne false hij] at hl
            have h1 := inv.held j sj hj hl
            have h2 : sj.holds x w'' := hst sj (List.mem_of_getElem? hj) _ _ _ h1 hg
            exact holds_upd h2 (hnot j sj hj hl hij)
        · intro j sj hj hl b hbo
          by_cases hij : i = j
          · subst hij
            have : sj = s := Option.some.inj (hj.symm.trans hs)
            subst this
            exact (hfr b hbo).2
          · rw [getD_set_ne false hij] at hl
            rw [own_upd (hnot j sj hj hl hij)] at hbo
            exact Nat.lt_of_lt_of_le (inv.new_ j sj hj hl b hbo) hg.size
        · intro j k sj sk hj hk hlj hlk hjk b hbo hbk
          by_cases hij : i = j
          · subst hij
            have : sj = s := Option.some.inj (hj.symm.trans hs)
            subst this
            rw [getD_set_ne false hjk] at hlk
            rw [own_upd (hnot k sk hk hlk hjk)] at hbk
            have := inv.new_ k sk hk hlk b hbk
            have := (hfr b hbo).1
            omega
          · rw [getD_set_ne false hij] at hlj
            rw [own_upd (hnot j sj hj hlj hij)] at hbo
            by_cases hik : i = k
            · subst hik
              have : sk = s := Option.some.inj (hk.symm.trans hs)
              subst this
              have := inv.new_ j sj hj hlj b hbo
              have := (hfr b hbk).1
              omega
            · rw [getD_set_ne false hik] at hlk
              rw [own_upd (hnot k sk hk hlk hik)] at hbk
              exact inv.apart j k sj sk hj hk hlj hlk hjk b hbo hbk
        · intro j oj d hj hdj hl
          have hij : i ≠ j := by
            rintro rfl
            have : i < listed.size := by rw [inv.size]; exact hil
            simp [this] at hl
          rw [getD_set_ne false hij] at hl
          have h1 := inv.rest j oj d hj hdj hl
          cases hdo : o.dst with
          | none => exact h1
          | some d' =>
            have : d ≠ d' := by rintro rfl; exact hij (dst_inj hnd ho hj hdo hdj)
            simp [rgUpd, this, h1]
        · have := toCome_setT (n := n) (by rw [inv.size]; omega) hin h0
          omega)
    unfold wpOp
    rw [ho']
    simp only
    rw [hwant i o x ho]
    split
    · rename_i hw
      rw [if_pos hw] at step
      exact .inl step
    · rename_i hw
      rw [if_neg hw] at step
      exact step

theorem guard_take {l : List Oper} {n : Nat} {o : Oper} {t : Array Value} (h : ∀ g b, o.guard = some (g, b) → g < n) : Region.wanted o (yielded l.toArray t) = Region.wanted o (yielded (l.take n).toArray t) := by
  unfold Region.wanted
  cases hg : o.guard with
  | none => rfl
  | some p =>
    obtain ⟨g, b⟩ := p
    have := h g b hg
    have e : yielded l.toArray t g = yielded (l.take n).toArray t g := by
      unfold yielded
      simp [this]
    simp only [e]

/-- .. with the last operations (stores) in one forced order behind the first n. -/
theorem wp_region_rgT {id : Nat} (n : Nat) (sp : List Sp) (hm : P.follows .mixedOrders = true) (hc : rgOk (l.take n) sp = true) (ht : rgTailOk l n = true)
    (hgd : ((l.take n).all fun o => match o.guard with | some (g, _) => decide (g < n) | none => true) = true)
    (hst : ∀ s ∈ sp, ∀ vs w1 w2, s.φ vs w1 → Below w1.heap.size w1 w2 → s.φ vs w2)
    (hob : RgObs P Q T df w (l.take n) sp 0 (l.take n) sp)
    (hfin : ∀ x w', Below w.heap.size w w' → RgAll x w' sp → RgApart x sp → wpList P l.toArray Q (l.drop n) { tmps := putMany T (rgDsts (l.take n)) x, defers := df } w') : (Code.region id l.toArray true).wp P Q { tmps := T, defers := df } w := by
  refine wp_region_any hm ?_
  have hnd : (rgDsts (l.take n)).Nodup := by
    simp only [rgOk, Bool.and_eq_true, decide_eq_true_eq] at hc
    exact hc.1.1.2
  have hn : n < l.length := by
    simp only [rgTailOk, Bool.and_eq_true, decide_eq_true_eq] at ht
    exact ht.1.1.1
  have e : (⟨T, df⟩ : Act) = { tmps := putMany T (rgDsts (l.take n)) (fun t => T.getD t undef), defers := df } := by
    congr 1
    apply Array.ext_getElem?
    intro t
    rw [putMany_get _ _ _ hnd]
    split
    · rename_i h; simp [h.2]
    · rfl
  rw [e]
  have hwant : ∀ (i : Nat) (o : Oper) (x : Nat → Value), (l.take n)[i]? = some o → Region.wanted o (yielded l.toArray (putMany T (rgDsts (l.take n)) x)) = Region.wanted o (yielded (l.take n).toArray (putMany T (rgDsts (l.take n)) x)) := by
    intro i o x ho
    refine guard_take fun g b hg => ?_
    have := List.all_eq_true.1 hgd o (List.mem_of_getElem? ho)
    rw [hg] at this
    simpa using this
  have := rg_anyT hc ht hst hob hwant hfin n (Array.replicate l.toArray.size false) (fun t => T.getD t undef) { w with drawn := w.drawn + 1 }
    ⟨by simp, fun j o _ hl => (by rw [getD_replicate_false] at hl; cases hl), fun t _ ht' => getD_in (by simpa using ht') (getD_replicate_false _ _), (Below.refl _ _).drew, fun i s _ hl => (by rw [getD_replicate_false] at hl; cases hl), fun i s _ hl => (by rw [getD_replicate_false] at hl; cases hl), fun i j s s' _ _ hl => (by rw [getD_replicate_false] at hl; cases hl), fun i o d _ _ _ => rfl⟩ (by
      unfold toCome
      rw [List.filter_eq_self.2]
      · simp
      · intro i hi
        have : i < l.length := by have := List.mem_range.1 hi; omega
        simp [this])
  rw [show n + (l.length - n) = l.toArray.size by simp; omega] at this
  exact this
end

/-! ### Words for what an operation leaves -/
def Sp.eq (d : Nat) (v : Value) : Sp := ⟨[d], fun vs _ => vs = [v], false⟩
def Sp.one (d : Nat) (φ : Value → World → Prop) : Sp := ⟨[d], fun vs w => ∃ v, vs = [v] ∧ φ v w, false⟩
/-- .. whose block is new -/
def Sp.new (d : Nat) (φ : Value → World → Prop) : Sp := ⟨[d], fun vs w => ∃ v, vs = [v] ∧ φ v w, true⟩
def Sp.any_ : Sp := ⟨[], fun _ _ => True, false⟩
@[simp] theorem holds_eq (d : Nat) (v : Value) (x : Nat → Value) (w : World) : (Sp.eq d v).holds x w ↔ x d = v := by simp [Sp.holds, Sp.eq]
@[simp] theorem holds_one (d : Nat) (φ : Value → World → Prop) (x : Nat → Value) (w : World) : (Sp.one d φ).holds x w ↔ φ (x d) w := by simp [Sp.holds, Sp.one]
@[simp] theorem holds_new (d : Nat) (φ : Value → World → Prop) (x : Nat → Value) (w : World) : (Sp.new d φ).holds x w ↔ φ (x d) w := by simp [Sp.holds, Sp.new]
@[simp] theorem own_eq (d : Nat) (v : Value) (x : Nat → Value) : (Sp.eq d v).own x = [] := rfl
@[simp] theorem own_one (d : Nat) (φ : Value → World → Prop) (x : Nat → Value) : (Sp.one d φ).own x = [] := rfl
@[simp] theorem own_any (x : Nat → Value) : Sp.any_.own x = [] := rfl
@[simp] theorem own_new (d : Nat) (φ : Value → World → Prop) (x : Nat → Value) : (Sp.new d φ).own x = blockOf (x d) := by simp [Sp.own, Sp.new]
@[simp] theorem holds_any (x : Nat → Value) (w : World) : Sp.any_.holds x w ↔ True := by simp [Sp.holds, Sp.any_]
@[simp] theorem upd_same (x : Nat → Value) (d : Nat) (v : Value) : rgUpd x (some d) v d = v := by simp [rgUpd]
def Stable (s : Sp) : Prop := ∀ vs w1 w2, s.φ vs w1 → Below w1.heap.size w1 w2 → s.φ vs w2
theorem st_eq (d : Nat) (v : Value) : Stable (Sp.eq d v) := fun _ _ _ h _ => h
theorem st_any : Stable Sp.any_ := fun _ _ _ h _ => h
theorem st_one {d : Nat} {φ : Value → World → Prop} (h : ∀ v w1 w2, φ v w1 → Below w1.heap.size w1 w2 → φ v w2) : Stable (Sp.one d φ) := fun _ w1 w2 ⟨v, e, hv⟩ hb => ⟨v, e, h v w1 w2 hv hb⟩
theorem st_new {d : Nat} {φ : Value → World → Prop} (h : ∀ v w1 w2, φ v w1 → Below w1.heap.size w1 w2 → φ v w2) : Stable (Sp.new d φ) := fun _ w1 w2 ⟨v, e, hv⟩ hb => ⟨v, e, h v w1 w2 hv hb⟩
theorem stables_nil : ∀ s ∈ ([] : List Sp), Stable s := by simp
theorem stables_cons {s : Sp} {r : List Sp} (h : Stable s) (hr : ∀ s ∈ r, Stable s) : ∀ s' ∈ s :: r, Stable s' := by
  intro s' hs
  rcases List.mem_cons.1 hs with rfl | hs
  · exact h
  · exact hr _ hs

/-! ### One obligation, by the operation's run -/

/-- what is known of the operations that this one waits for -/
def RgPreds (sp : List Sp) (x : Nat → Value) (w : World) : List Edge → Prop
  | [] => True
  | e :: r => (Region.binds .any e = true → match sp[e.on]? with | some s => s.holds x w | none => True) ∧ RgPreds sp x w r

theorem RgPreds_of {sp : List Sp} {x : Nat → Value} {w : World} : ∀ {l : List Edge}, (∀ e ∈ l, Region.binds .any e = true → ∀ s', sp[e.on]? = some s' → s'.holds x w) → RgPreds sp x w l
  | [], _ => trivial
  | e :: r, h => ⟨fun hb => by
      cases hs : sp[e.on]? with
      | none => trivial
      | some s => exact h e (by simp) hb s hs, RgPreds_of fun e' he' => h e' (List.mem_cons_of_mem _ he')⟩

/-- what the frame holds -/
def RgHolds (A : Act) (T : Array Value) (ds : List Nat) (x : Nat → Value) : Prop := ∀ t : Nat, A.tmps[t]?.getD undef = if t ∈ ds ∧ t < T.size then x t else T.getD t undef

theorem holds_frame {T : Array Value} {ds : List Nat} {x : Nat → Value} {df : List Deferred} (hn : ds.Nodup) : RgHolds { tmps := putMany T ds x, defers := df } T ds x := fun t => by
  have := putMany_get T ds x hn t
  simp only [Array.getD_eq_getD_getElem?]
  rw [this]
  split <;> rfl

section
variable {P : Program} {Q : Exit → Act → World → Prop} {T : Array Value} {df : List Deferred} {w : World} {l : List Oper} {sp : List Sp} {i : Nat} {o : Oper} {s : Sp}

theorem rg_val (hn : (rgDsts l).Nodup) (hg : o.guard = none)
    (h : ∀ (x : Nat → Value) (w' : World) (A : Act), Below w.heap.size w w' → RgPreds sp x w' o.after.toList → RgHolds A T (rgDsts l) x → ∃ v w'', (execOp A.eval o).run P w' = .ok (.value v) w'' ∧ Below w'.heap.size w' w'' ∧ s.holds (rgUpd x o.dst v) w'' ∧ (∀ b ∈ s.own (rgUpd x o.dst v), w'.heap.size ≤ b ∧ b < w''.heap.size)) :
    RgOb P Q T df w l sp i o s := by
  refine ⟨fun x w' hgr hp _ K hK => ?_⟩
  obtain ⟨v, w'', hrun, hb, hh, hf⟩ := h x w' _ hgr (RgPreds_of hp) (holds_frame hn)
  rw [if_pos (by simp [Region.wanted, hg])]
  unfold Oper.wp
  rw [hrun]
  exact hK v w'' hb hh hf

theorem rg_eq {d : Nat} {v : Value} (hn : (rgDsts l).Nodup) (hd : o.dst = some d) (hg : o.guard = none)
    (h : ∀ (x : Nat → Value) (w' : World) (A : Act), Below w.heap.size w w' → RgPreds sp x w' o.after.toList → RgHolds A T (rgDsts l) x → (execOp A.eval o).run P w' = .ok (.value v) w') :
    RgOb P Q T df w l sp i o (Sp.eq d v) :=
  rg_val hn hg fun x w' A h1 h2 h3 => ⟨v, w', h x w' A h1 h2 h3, Below.refl _ _, by rw [hd]; simp, by simp⟩

theorem rg_call (hn : (rgDsts l).Nodup) (hg : o.guard = none)
    (h : ∀ (x : Nat → Value) (w' : World) (A : Act), Below w.heap.size w w' → RgPreds sp x w' o.after.toList → RgHolds A T (rgDsts l) x → ∃ f args, (execOp A.eval o).run P w' = .ok (.enter f args) w' ∧
      Calls P f args w' fun e w'' => ∃ v, e = .returned v ∧ Below w'.heap.size w' w'' ∧ s.holds (rgUpd x o.dst v) w'' ∧ (∀ b ∈ s.own (rgUpd x o.dst v), w'.heap.size ≤ b ∧ b < w''.heap.size)) :
    RgOb P Q T df w l sp i o s := by
  refine ⟨fun x w' hgr hp _ K hK => ?_⟩
  obtain ⟨f, args, hrun, hc⟩ := h x w' _ hgr (RgPreds_of hp) (holds_frame hn)
  rw [if_pos (by simp [Region.wanted, hg])]
  unfold Oper.wp
  rw [hrun]
  refine Calls.mono hc ?_
  rintro e w'' ⟨v, rfl, hb, hh, hf⟩
  exact hK v w'' hb hh hf
end

theorem rgs_cons {P : Program} {Q : Exit → Act → World → Prop} {T : Array Value} {df : List Deferred} {w : World} {l : List Oper} {sp : List Sp} {i : Nat} {o : Oper} {s : Sp} {r : List Oper} {q : List Sp}
    (h : RgOb P Q T df w l sp i o s) (hr : RgObs P Q T df w l sp (i + 1) r q) : RgObs P Q T df w l sp i (o :: r) (s :: q) := ⟨h, hr⟩
theorem rgs_nil {P : Program} {Q : Exit → Act → World → Prop} {T : Array Value} {df : List Deferred} {w : World} {l : List Oper} {sp : List Sp} {i : Nat} : RgObs P Q T df w l sp i [] [] := trivial
end Go.Proofs.YtojemdggbcklkaaDoor.Mem
