/- A region that draws its order and only reads, ahead of a forced tail, where some pure moves may float behind the tail's beginning: these are taken first. Plain theorems over any program. -/
import Derived.StillTail
import Derived.StillTailTactics
namespace Go.Proofs.Ytdebokambldbbaa.Float
open Go
set_option linter.unusedVariables false

section
variable {P : Program} {ops : Array Oper} {md : Region.Mode} {w : World}
def sinkF (md : Region.Mode) (ops : Array Oper) (fl : List Nat) (n : Nat) : Bool :=
  (List.range n).all fun i => fl.contains i || (List.range (n + 1)).any fun j => decide (i < j) && Region.waitsFor md ops j i
structure HeadF (md : Region.Mode) (ops : Array Oper) (fl : List Nat) (n : Nat) (listed : Array Bool) : Prop where
  inv : HeadInv md ops n listed
  fl : ∀ i ∈ fl, listed.getD i false = true
theorem getD_of_both {listed : Array Bool} {i : Nat} (h : listed.getD i false = true) : listed.getD i true = true := by
  rcases Nat.lt_or_ge i listed.size with h' | h'
  · simp [h'] at h ⊢; exact h
  · simp [Array.getElem?_eq_none h'] at h
theorem HeadF.set {fl : List Nat} {n i : Nat} {listed : Array Bool} (h : HeadF md ops fl n listed) (hi : i ∈ Region.ready md ops listed) (hin : i < n) : HeadF md ops fl n (listed.setIfInBounds i true) :=
  ⟨h.inv.set hi hin, fun j hj => getD_set_true (h.fl j hj)⟩
theorem tail_waitsF {fl : List Nat} {n : Nat} {listed : Array Bool} (hs : sinkF md ops fl n = true) (hc : Region.chainB md ops n = true) (hn : n < ops.size) (hF : HeadF md ops fl n listed) :
    ∀ (d i : Nat), n - i = d → i < n → listed.getD i true = false → ∀ t, n ≤ t → t ∉ Region.ready md ops listed := by
  have inv := hF.inv
  intro d
  induction d using Nat.strongRecOn with
  | _ d ih =>
    intro i hd hi hun t ht hr
    obtain ⟨_, ot, hot, hall⟩ := mem_ready.1 hr
    have htlt : t < ops.size := (Array.getElem?_eq_some_iff.1 hot).1
    by_cases htn : t = n
    · subst htn
      have h1 := List.all_eq_true.1 hs i (List.mem_range.2 hi)
      have hnf : fl.contains i = false := by
        cases h : fl.contains i with
        | false => rfl
        | true =>
          have := getD_of_both (hF.fl i (by simpa using h))
          rw [hun] at this; cases this
      rw [hnf, Bool.false_or] at h1
      obtain ⟨j, hj, hj2⟩ := List.any_eq_true.1 h1
      simp only [Bool.and_eq_true, decide_eq_true_eq] at hj2
      obtain ⟨oj, hoj, e, he, hb, hon⟩ := Region.waitsFor_spec hj2.2
      have hjle : j ≤ t := by have := List.mem_range.1 hj; omega
      by_cases hjt : j = t
      · subst hjt
        have : oj = ot := Option.some.inj (hoj.symm.trans hot)
        subst this
        have h2 := hall e he hb
        rw [hon, getD_both hun] at h2
        cases h2
      · cases hl : listed.getD j false with
        | true =>
          have h2 := inv.closed j oj hoj hl e he hb
          rw [hon, getD_both hun] at h2
          cases h2
        | false =>
          have hjs : j < listed.size := by rw [inv.size]; omega
          exact ih (t - j) (by omega) j rfl (by omega) (getD_in hjs hl) t (Nat.le_refl _) hr
    · have h1 := List.all_eq_true.1 hc t (List.mem_range.2 htlt)
      simp only [Bool.or_eq_true, decide_eq_true_eq] at h1
      rcases h1 with h1 | h1
      · omega
      · obtain ⟨o', ho', e, he, hb, hon⟩ := Region.waitsFor_spec h1
        have : o' = ot := Option.some.inj (ho'.symm.trans hot)
        subst this
        have h2 := hall e he hb
        rw [hon, getD_both (inv.tail (t - 1) (by omega) (by omega))] at h2
        cases h2

theorem wpAnyL_firstF {fl : List Nat} {n i : Nat} {oi : Oper} {v : Value} {L : Array Bool → Act → Prop} (hi : ops[i]? = some oi) (hsel : ∀ (j : Nat) (o : Oper) cs b, ops[j]? = some o → o.op ≠ .select cs b)
    (hs : sinkF md ops fl n = true) (hc : Region.chainB md ops n = true) (hn : n < ops.size) (hin : i < n)
    (hdone : ∀ listed a, L listed a → ∀ j ∈ Region.ready md ops listed, n ≤ j) :
    ∀ (f : Nat) (listed : Array Bool) (a : Act), HeadF md ops fl n listed →
      (∀ j oj, ops[j]? = some oj → j ≠ i → listed.getD j true = false → (∀ e ∈ oj.after, Region.binds md e = true → e.on ≠ i) → oi.apart ops oj = true) →
      i ∈ Region.ready md ops listed → YieldsAt P ops w oi v a →
      wpAnyL P md ops w n L f (listed.setIfInBounds i true) (a.put oi.dst v) → wpAnyL P md ops w n L (f + 1) listed a := by
  intro f
  induction f with
  | zero =>
    intro listed a inv _ hr hy H
    have hun := (mem_ready.1 hr).1
    refine ⟨fun h => (by rw [h] at hr; cases hr), fun j hj => ?_⟩
    have hjn : j < n := by
      rcases Nat.lt_or_ge j n with h | h
      · exact h
      · exact absurd hj (tail_waitsF hs hc hn inv _ i rfl hin hun j h)
    refine ⟨hjn, ?_⟩
    by_cases hji : j = i
    · subst hji; exact hy.stOp hi H
    · have := hdone _ _ H j (ready_mono hj hji)
      omega
  | succ f ih =>
    intro listed a inv hfree hr hy H
    have hun := (mem_ready.1 hr).1
    refine ⟨fun h => (by rw [h] at hr; cases hr), fun j hj => ?_⟩
    have hjn : j < n := by
      rcases Nat.lt_or_ge j n with h | h
      · exact h
      · exact absurd hj (tail_waitsF hs hc hn inv _ i rfl hin hun j h)
    refine ⟨hjn, ?_⟩
    by_cases hji : j = i
    · subst hji; exact hy.stOp hi H
    · have h1 := (H.2 j (ready_mono hj hji)).2
      obtain ⟨hjun, oj, hoj, hall⟩ := mem_ready.1 hj
      have hnot : ∀ e ∈ oj.after, Region.binds md e = true → e.on ≠ i := fun e he hb heq => by
        have h1 := hall e he hb
        rw [heq, getD_both hun] at h1
        cases h1
      have h2 := stOp_put hoj (hfree j oj hoj hji hjun hnot) (fun cs b => hsel i oi cs b hi) (fun cs b => hsel j oj cs b hoj) hy h1
      have hfree' : ∀ k ok, ops[k]? = some ok → k ≠ i → (listed.setIfInBounds j true).getD k true = false →
          (∀ e ∈ ok.after, Region.binds md e = true → e.on ≠ i) → oi.apart ops ok = true := fun k ok hk hki hun hno => by
        refine hfree k ok hk hki ?_ hno
        by_cases hjk : j = k
        · subst hjk; exact hjun
        · rw [getD_set_ne true hjk] at hun; exact hun
      refine stOp_mono (fun a' h3 => ih (listed.setIfInBounds j true) a' (inv.set hj hjn) hfree' (ready_mono hr (Ne.symm hji)) h3.1 ?_) h2
      rw [Array.setIfInBounds_comm _ _ hji]
      exact h3.2

def lexF (md : Region.Mode) (ops : Array Oper) (g n : Nat) : List Nat → Array Bool → Bool
  | [], listed => Region.seqB md ops g n listed
  | k :: r, listed => decide (k < n) && (Region.ready md ops listed).contains k && Region.free md ops listed k && lexF md ops g n r (listed.setIfInBounds k true)
theorem wpAnyL_lexF {fl : List Nat} {n g : Nat} {Lq : Act → Prop} (hsel : Region.noSelect ops = true) (hs : sinkF md ops fl n = true) (hc : Region.chainB md ops n = true) (hn : n < ops.size) :
    ∀ (ks : List Nat) (l : List Oper) (listed : Array Bool) (a : Act), ks.map (fun k => ops[k]?) = l.map some → HeadF md ops fl n listed →
    lexF md ops g n ks listed = true → wpStill P ops w Lq l a →
    wpAnyL P md ops w n (fun listed' a' => Region.seqB md ops g n listed' = true ∧ Lq a') l.length listed a
  | [], [], listed, a, _, inv, hB, h => ⟨by simpa [lexF] using hB, h⟩
  | [], _ :: _, _, _, hl, _, _, _ => by cases hl
  | _ :: _, [], _, _, hl, _, _, _ => by cases hl
  | k :: ks, o :: l, listed, a, hl, inv, hB, h => by
    simp only [List.map_cons, List.cons.injEq] at hl
    obtain ⟨h0, hl⟩ := hl
    simp only [lexF, Bool.and_eq_true, decide_eq_true_eq] at hB
    obtain ⟨⟨⟨hkn, hr⟩, hf⟩, hB'⟩ := hB
    have hr' : k ∈ Region.ready md ops listed := by simpa using hr
    have hst : stOp P ops w k (wpStill P ops w Lq l) a := by unfold stOp; simp only [h0]; exact h
    obtain ⟨v, hy, hK⟩ := yieldsAt_of_stOp h0 hst
    exact wpAnyL_firstF h0 (Region.noSelect_spec hsel) hs hc hn hkn (fun listed' a' hL => seqB_ready hL.1) l.length listed a inv (Region.free_spec h0 hf) hr' hy
      (wpAnyL_lexF hsel hs hc hn ks l _ _ hl (inv.set hr' hkn) hB' hK)

/-- one float f, then the head without it, then the tail -/
def floatB (md : Region.Mode) (ops : Array Oper) (f : Nat) (ks : List Nat) (n : Nat) : Bool :=
  Region.noSelect ops && decide (n < ops.size) && decide (f < n) && decide (ks.length + 1 = n) && sinkF md ops [f] n && Region.chainB md ops n && (Region.ready md ops (Array.replicate ops.size false)).contains f && Region.free md ops (Array.replicate ops.size false) f &&
    lexF md ops (ops.size - n) n ks ((Array.replicate ops.size false).setIfInBounds f true)
end

theorem wp_region_floatL {P : Program} {id : Nat} {Q : Exit → Act → World → Prop} {a : Act} {w : World} {l : List Oper} (f : Nat) (ks : List Nat) (n : Nat) (hm : P.follows .mixedOrders = true)
    (hB : floatB .any l.toArray f ks n = true) {o : Oper} {v : Value} (hQ : ∀ c a w, Q (.panic c) (a.put o.dst v) w → Q (.panic c) a w) (ho : l[f]? = some o) (hg : o.guard = none) (hv : ∀ w, (execOp a.eval o).run P w = .ok (.value v) w) (hl : List Oper) (hks : ks.map (fun k => l[k]?) = hl.map some)
    (h : wpStill P l.toArray { w with drawn := w.drawn + 1 } (fun a' => wpList P l.toArray Q (l.drop n) a' { w with drawn := w.drawn + 1 }) hl (a.put o.dst v)) : (Code.region id l.toArray true).wp P Q a w := by
  simp only [floatB, Bool.and_eq_true, decide_eq_true_eq] at hB
  obtain ⟨⟨⟨⟨⟨⟨⟨⟨hsel, hn⟩, hfn⟩, hkl⟩, hs⟩, hc⟩, hr⟩, hfr⟩, hlex⟩ := hB
  have hn' : n < l.length := by simpa using hn
  have hdl : (l.drop n).length = l.toArray.size - n := by simp
  have hr' : f ∈ Region.ready .any l.toArray (Array.replicate l.toArray.size false) := by simpa using hr
  have hof : l.toArray[f]? = some o := by simpa using ho
  have inv0 : HeadInv .any l.toArray n (Array.replicate l.toArray.size false) :=
    ⟨by simp, fun j oj _ hl => (by rw [getD_replicate_false] at hl; cases hl), fun t _ ht => getD_in (by simpa using ht) (getD_replicate_false _ _)⟩
  have hF : HeadF .any l.toArray [f] n ((Array.replicate l.toArray.size false).setIfInBounds f true) :=
    ⟨inv0.set hr' hfn, fun i hi => by
      obtain rfl := List.mem_singleton.1 hi
      have : i < l.length := by omega
      simp [this]⟩
  have hll : hl.length = ks.length := by have := congrArg List.length hks; simpa using this.symm
  have H := wpAnyL_lexF (md := .any) (g := l.toArray.size - n) hsel hs hc hn ks hl _ _ (by simpa using hks) hF hlex h
  refine wp_region_any hm ?_
  have H2 := wpAny_of_head (Q' := Q) (g := l.toArray.size - n) (fun listed a' hL => by
    have := wpAny_of_seq (md := .any) (Q' := Q) (l.drop n) n listed a' { w with drawn := w.drawn + 1 } (fun j => by simp [List.getElem?_drop]) (by rw [hdl]; exact hL.1) hL.2
    rwa [hdl] at this) _ _ _ H
  have hwant : Region.wanted o (yielded l.toArray a.tmps) = true := by simp [Region.wanted, hg]
  have := wpAny_first (Q := Q) (md := .any) hof (Region.noSelect_spec hsel) hQ (hl.length + (l.toArray.size - n)) _ a { w with drawn := w.drawn + 1 } (Region.free_spec hof hfr) hr' (.inl ⟨hwant, hv⟩) H2
  rw [show hl.length + (l.toArray.size - n) + 1 = l.toArray.size by omega] at this
  exact this

def ksOf (f n : Nat) : List Nat := List.range f ++ (List.range (n - 1 - f)).map (· + (f + 1))
theorem map_range_get {α : Type} (l : List α) (k : Nat) (h : k ≤ l.length) : (List.range k).map (fun i => l[i]?) = (l.take k).map some := by
  apply List.ext_getElem (by simp; omega)
  intro i h1 h2
  simp at h1
  simp [List.getElem?_eq_getElem (show i < l.length by omega)]
theorem ksOf_get {α : Type} (l : List α) (f n : Nat) (hf : f < n) (hn : n ≤ l.length) : (ksOf f n).map (fun k => l[k]?) = (l.take f ++ (l.drop (f + 1)).take (n - 1 - f)).map some := by
  unfold ksOf
  rw [List.map_append, List.map_append, map_range_get l f (by omega), List.map_map]
  congr 1
  have := map_range_get (l.drop (f + 1)) (n - 1 - f) (by rw [List.length_drop]; omega)
  rw [← this]
  apply List.map_congr_left
  intro i _
  simp [List.getElem?_drop, Nat.add_comm]
theorem wp_region_float {P : Program} {id : Nat} {Q : Exit → Act → World → Prop} {a : Act} {w : World} {l : List Oper} (f : Nat) (n : Nat) (hm : P.follows .mixedOrders = true)
    (hB : floatB .any l.toArray f (ksOf f n) n = true) {o : Oper} {v : Value} (hQ : ∀ c a w, Q (.panic c) (a.put o.dst v) w → Q (.panic c) a w) (ho : l[f]? = some o) (hg : o.guard = none) (hv : ∀ w, (execOp a.eval o).run P w = .ok (.value v) w)
    (h : wpStill P l.toArray { w with drawn := w.drawn + 1 } (fun a' => wpList P l.toArray Q (l.drop n) a' { w with drawn := w.drawn + 1 }) (l.take f ++ (l.drop (f + 1)).take (n - 1 - f)) (a.put o.dst v)) : (Code.region id l.toArray true).wp P Q a w := by
  have hB' := hB
  simp only [floatB, Bool.and_eq_true, decide_eq_true_eq] at hB'
  obtain ⟨⟨⟨⟨⟨⟨⟨⟨hsel, hn⟩, hfn⟩, hkl⟩, hs⟩, hc⟩, hr⟩, hfr⟩, hlex⟩ := hB'
  exact wp_region_floatL f (ksOf f n) n hm hB hQ ho hg hv _ (ksOf_get l f n hfn (by simp at hn; omega)) h
end Go.Proofs.Ytdebokambldbbaa.Float
