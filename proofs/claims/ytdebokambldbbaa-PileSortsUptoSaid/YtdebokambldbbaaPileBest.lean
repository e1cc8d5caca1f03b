/- The first k by a pile of the worst; merging by a pile of heads: in plain words. Plain Lean. -/
import Derived.Test.YtdebokambldbbaaPileSort
namespace Go.Proofs.Ytdebokambldbbaa.Heap
set_option linter.unusedVariables false
set_option linter.unusedSectionVars false

section
variable {α : Type} [Inhabited α] {lt : α → α → Bool}
theorem swo_ahead (o : Swo lt) : Swo (ahead lt) := by
  have tr : ∀ u v w, lt u v = true → lt v w = true → lt u w = true := fun u v w huv hvw => by
    cases h : lt u w with
    | true => rfl
    | false => have := o.ntr u w v h (o.asym _ _ hvw); rw [huv] at this; cases this
  refine ⟨fun a => ?_, fun a b c h1 h2 => ?_, fun a b h => ?_⟩
  · rw [ahead_false o]; exact ⟨o.irr _, .inr (Nat.le_refl _)⟩
  · rw [ahead_false o] at h1 h2 ⊢
    refine ⟨o.ntr _ _ _ h1.1 h2.1, ?_⟩
    rcases h1.2 with h3 | h3
    · left
      cases h : lt c.1 a.1 with
      | true => rfl
      | false => have := o.ntr _ _ _ h2.1 h; rw [h3] at this; cases this
    · rcases h2.2 with h4 | h4
      · left
        cases h : lt c.1 a.1 with
        | true => rfl
        | false => have := o.ntr _ _ _ h h1.1; rw [h4] at this; cases this
      · exact .inr (by omega)
  · rw [ahead_true] at h
    rw [ahead_false o]
    rcases h with h | ⟨h1, h2, h3⟩
    · exact ⟨o.asym _ _ h, .inl h⟩
    · exact ⟨h1, .inr (by omega)⟩
theorem swo_pull {β : Type} (o : Swo lt) (f : β → α) : Swo (fun x y => lt (f x) (f y)) := ⟨fun _ => o.irr _, fun _ _ _ h1 h2 => o.ntr _ _ _ h1 h2, fun _ _ h => o.asym _ _ h⟩
theorem swo_rev (o : Swo lt) : Swo (fun x y => lt y x) := ⟨fun _ => o.irr _, fun a b c h1 h2 => o.ntr c b a h2 h1, fun _ _ h => o.asym _ _ h⟩
theorem ahead_tot (o : Swo lt) {a b : α × Nat} (h : a.2 ≠ b.2) (h2 : ahead lt b a = false) : ahead lt a b = true := by
  rw [ahead_false o] at h2
  rw [ahead_true]
  cases h1 : lt a.1 b.1 with
  | true => exact .inl rfl
  | false =>
    rcases h2.2 with h3 | h3
    · rw [h1] at h3; cases h3
    · exact .inr ⟨h2.1, rfl, by omega⟩
theorem ahead_tr (o : Swo lt) {a b c : α × Nat} (h1 : ahead lt a b = true) (h2 : ahead lt b c = true) : ahead lt a c = true := by
  have oo := swo_ahead o
  cases h : ahead lt a c with
  | true => rfl
  | false => have := oo.ntr a c b h (oo.asym _ _ h2); rw [h1] at this; cases this

/-! ### Best -/
/-- the worst first: of places -/
def wlt (lt : α → α → Bool) (x y : α × Nat) : Bool := ahead lt y x
theorem swo_wlt (o : Swo lt) : Swo (wlt lt) := swo_rev (swo_ahead o)
def bestStep (lt : α → α → Bool) (k : Nat) (es : List ((α × Nat) × Nat)) (x : α) (i nx : Nat) : List ((α × Nat) × Nat) :=
  if k < (push (ahead (wlt lt)) es ((x, i), nx)).length then pop (ahead (wlt lt)) (push (ahead (wlt lt)) es ((x, i), nx)) else push (ahead (wlt lt)) es ((x, i), nx)
def bestAll (lt : α → α → Bool) (k : Nat) : List ((α × Nat) × Nat) → Nat → List α → List ((α × Nat) × Nat)
  | es, _, [] => es
  | es, n, x :: l => bestAll lt k (bestStep lt k es x n n) (n + 1) l
theorem bestStep_len (k : Nat) (es : List ((α × Nat) × Nat)) (x : α) (i nx : Nat) : (bestStep lt k es x i nx).length = if k < es.length + 1 then es.length else es.length + 1 := by
  unfold bestStep
  rw [push_len]
  split
  · rw [pop_len, push_len]; omega
  · rw [push_len]
/-- what is kept, what is left -/
structure Kept (lt : α → α → Bool) (k : Nat) (es : List ((α × Nat) × Nat)) (n : Nat) (seen : List α) : Prop where
  book : ∃ L D, Book (wlt lt) es L n ∧ (L.map (·.1) ++ D).Perm (tag 0 seen) ∧ (∀ x ∈ L.map (·.1), ∀ y ∈ D, ahead lt x y = true) ∧ es.length = min k n ∧ n = seen.length
theorem mem_tag : ∀ {l : List α} {m : Nat} {e : α × Nat}, e ∈ tag m l → m ≤ e.2 ∧ e.2 < m + l.length
  | [], _, _, h => by simp [tag] at h
  | x :: l, m, e, h => by
    rw [tag] at h
    rcases List.mem_cons.1 h with rfl | h
    · simp
    · have := mem_tag h; rw [List.length_cons]; omega
theorem tag_rise : ∀ (l : List α) (m : Nat), (tag m l).Pairwise fun a b => a.2 < b.2
  | [], _ => .nil
  | x :: l, m => by
    rw [tag, List.pairwise_cons]
    exact ⟨fun e he => by have := mem_tag he; simp only; omega, tag_rise l (m + 1)⟩
theorem tag_inj {l : List α} {m : Nat} {a b : α × Nat} (ha : a ∈ tag m l) (hb : b ∈ tag m l) (h : a.2 = b.2) : a = b := by
  obtain ⟨i, hi, rfl⟩ := List.mem_iff_getElem.1 ha
  obtain ⟨j, hj, rfl⟩ := List.mem_iff_getElem.1 hb
  have hr := List.pairwise_iff_getElem.1 (tag_rise l m)
  rcases Nat.lt_trichotomy i j with h1 | h1 | h1
  · have := hr i j hi hj h1; omega
  · subst h1; rfl
  · have := hr j i hj hi h1; omega
theorem map_eraseIdx {β γ : Type} (f : β → γ) : ∀ (l : List β) (i : Nat), (l.eraseIdx i).map f = (l.map f).eraseIdx i
  | [], _ => by simp
  | x :: l, 0 => by simp
  | x :: l, i + 1 => by simp [map_eraseIdx f l i]
theorem Kept.step (o : Swo lt) {k : Nat} {es : List ((α × Nat) × Nat)} {n : Nat} {seen : List α} (h : Kept lt k es n seen) (x : α) : Kept lt k (bestStep lt k es x n n) (n + 1) (seen ++ [x]) := by
  obtain ⟨L, D, b, hp, hlt, hl, hn⟩ := h.book
  have b1 := b.push (swo_wlt o) (x, n)
  have hp1 : ((L ++ [((x, n), n)]).map (·.1) ++ D).Perm (tag 0 (seen ++ [x])) := by
    rw [tag_app, List.map_append]
    simp only [List.map_cons, List.map_nil, tag, Nat.zero_add, ← hn]
    rw [List.append_assoc]
    refine (List.Perm.append_left _ (List.perm_append_comm (l₁ := [(x, n)]) (l₂ := D))).trans ?_
    rw [← List.append_assoc]
    exact hp.append_right _
  have hlen := b.len
  have hlen2 : L.length + D.length = n := by
    have := hp.length_eq
    rw [List.length_append, List.length_map, tag_len] at this
    omega
  refine ⟨?_⟩
  unfold bestStep
  rw [push_len]
  by_cases hk : k < es.length + 1
  · rw [if_pos hk]
    obtain ⟨m, hm1, hm2, hm3, b2⟩ := b1.pop (swo_wlt o) (by rw [push_len]; omega)
    obtain ⟨L1, hL1⟩ : ∃ L1, L1 = L ++ [((x, n), n)] := ⟨_, rfl⟩
    rw [← hL1] at hm1 hm2 hm3 b2 hp1
    have hmz : (L1.map (·.1))[m]'(by rw [List.length_map]; exact hm2) = (L1[m]).1 := List.getElem_map ..
    have spec := first_some (swo_wlt o) (l := L1.map (·.1)) (by rw [List.length_map]; omega)
    obtain ⟨m', e1, e2, e3, _⟩ := spec
    rw [hm1] at e1
    obtain rfl := Option.some.inj e1
    rw [nth_map hm2, nth_eq hm2] at e3
    have hmem : ∀ y ∈ L1.map (·.1), y ∈ tag 0 (seen ++ [x]) := fun y hy => hp1.mem_iff.1 (List.mem_append_left _ hy)
    -- every other one stands ahead of the one that goes
    have key : ∀ y ∈ (L1.eraseIdx m).map (·.1), ahead lt y L1[m].1 = true := fun y hy => by
      rw [map_eraseIdx] at hy
      obtain ⟨j, hj, hjm, hje⟩ := List.mem_eraseIdx_iff_getElem.1 hy
      have h1 := e3 j hj
      rw [nth_eq hj, hje] at h1
      have hd : (L1.map (·.1)).Nodup := by
        have := (hp1.nodup_iff.2 (rise_nodup (tag_rise _ _)))
        exact (List.nodup_append.1 this).1
      have hne : y.2 ≠ (L1[m].1).2 := fun e => by
        rw [← hje, ← hmz] at e
        have := tag_inj (hmem _ (List.getElem_mem hj)) (hmem _ (List.getElem_mem _)) e
        have hd' := List.pairwise_iff_getElem.1 hd
        have hm' : m < (L1.map (·.1)).length := by rw [List.length_map]; exact hm2
        rcases Nat.lt_or_gt_of_ne hjm with h2 | h2
        · exact hd' j m hj hm' h2 this
        · exact hd' m j hm' hj h2 this.symm
      exact ahead_tot o hne h1
    refine ⟨L1.eraseIdx m, L1[m].1 :: D, b2, ?_, ?_, by rw [pop_len, push_len]; omega, by simp; omega⟩
    · refine List.Perm.trans ?_ hp1
      refine (List.perm_middle (l₁ := (L1.eraseIdx m).map (·.1)) (l₂ := D) (a := L1[m].1)).trans ?_
      have := ((erase_perm L1 hm2).map (·.1)).append_right D
      simpa using this
    · intro y hy z hz
      rcases List.mem_cons.1 hz with rfl | hz
      · exact key y hy
      · have hy1 : y ∈ L1.map (·.1) := by rw [map_eraseIdx] at hy; exact List.mem_of_mem_eraseIdx hy
        rw [hL1, List.map_append] at hy1
        rcases List.mem_append.1 hy1 with h1 | h1
        · exact hlt y h1 z hz
        · have hyx : y = (x, n) := by simpa using h1
          have hm1' : L1[m] ∈ L ++ [((x, n), n)] := by rw [← hL1]; exact List.getElem_mem hm2
          rcases List.mem_append.1 hm1' with h2 | h2
          · exact ahead_tr o (key y hy) (hlt _ (List.mem_map.2 ⟨_, h2, rfl⟩) z hz)
          · have h2 : L1[m].1 = (x, n) := by rw [List.mem_singleton.1 h2]
            have := key y hy
            rw [h2, hyx, (swo_ahead o).irr] at this
            cases this
  · rw [if_neg hk]
    have hD : D = [] := List.eq_nil_of_length_eq_zero (by omega)
    subst hD
    exact ⟨_, [], b1, hp1, fun y _ z hz => by simp at hz, by rw [push_len]; omega, by simp; omega⟩
theorem Kept.all (o : Swo lt) {k : Nat} : ∀ (l : List α) {es : List ((α × Nat) × Nat)} {n : Nat} {seen : List α}, Kept lt k es n seen → Kept lt k (bestAll lt k es n l) (n + l.length) (seen ++ l)
  | [], es, n, seen, h => by simpa [bestAll] using h
  | x :: l, es, n, seen, h => by
    have := Kept.all o l (h.step o x)
    rw [bestAll, List.length_cons, show n + (l.length + 1) = n + 1 + l.length by omega]
    simpa using this
theorem Kept.nil (k : Nat) : Kept lt k [] 0 [] := ⟨⟨[], [], Book.nil _ _, by simp [tag], fun x hx => by simp at hx, by simp, rfl⟩⟩
def bestOut (lt : α → α → Bool) (k : Nat) (l : List α) : List α := ((popAll (ahead (wlt lt)) (bestAll lt k [] 0 l).length (bestAll lt k [] 0 l)).map (·.1.1)).reverse
theorem best_eq (o : Swo lt) (k : Nat) (l : List α) : bestOut lt k l = (msort lt l).take k := by
  obtain ⟨L, D, b, hp, hlt, hl, hn⟩ := (Kept.all o l (Kept.nil k)).book
  unfold bestOut
  obtain ⟨es, hes⟩ : ∃ es, es = bestAll lt k [] 0 l := ⟨_, rfl⟩
  rw [← hes] at b hl ⊢
  simp only [List.nil_append, Nat.zero_add] at hp hl hn
  have hall := b.all (swo_wlt o)
  have hs := tsort_sorted (swo_wlt o) b.rise
  have hpp : (popAll (ahead (wlt lt)) es.length es).Perm L := by rw [hall]; exact tsort_perm _ _
  rw [← hall] at hs
  obtain ⟨out, hout⟩ : ∃ out, out = ((popAll (ahead (wlt lt)) es.length es).map (·.1)).reverse := ⟨_, rfl⟩
  have hperm : out.Perm (L.map (·.1)) := by rw [hout]; exact (List.reverse_perm _).trans (hpp.map _)
  have hnd : (L.map (·.1)).Nodup := by
    have := hp.nodup_iff.2 (rise_nodup (tag_rise _ _))
    exact (List.nodup_append.1 this).1
  have hsorted : out.Pairwise fun x y => ahead lt x y = true := by
    rw [hout, List.pairwise_reverse, List.pairwise_map]
    have hnd2 : ((popAll (ahead (wlt lt)) es.length es).map (·.1)).Nodup := (hpp.map _).nodup_iff.2 hnd
    have hnd3 : (popAll (ahead (wlt lt)) es.length es).Pairwise fun a b => a.1 ≠ b.1 := List.pairwise_map.1 hnd2
    have hboth := hs.and hnd3
    refine List.Pairwise.imp_of_mem ?_ hboth
    intro a c ha hc hac
    obtain ⟨h1, h2⟩ := hac
    rw [ahead_true] at h1
    rcases h1 with h1 | ⟨h1, h3, _⟩
    · exact h1
    · exfalso
      have ma : a.1 ∈ tag 0 l := hp.mem_iff.1 (List.mem_append_left _ ((hpp.map (·.1)).mem_iff.1 (List.mem_map_of_mem ha)))
      have mc : c.1 ∈ tag 0 l := hp.mem_iff.1 (List.mem_append_left _ ((hpp.map (·.1)).mem_iff.1 (List.mem_map_of_mem hc)))
      have hne : a.1.2 ≠ c.1.2 := fun e => h2 (tag_inj ma mc e)
      have h5 := ahead_tot o hne h3
      rw [show ahead lt a.1 c.1 = false from h1] at h5
      cases h5
  -- behind it the rest, sorted
  have hT := tsort_perm lt (tag 0 l)
  have hTs := tsort_sorted o (tag_rise l 0)
  obtain ⟨R, hRp, hRs⟩ : ∃ R : List (α × Nat), R.Perm D ∧ R.Pairwise fun x y => ahead lt x y = true := by
    classical
    refine ⟨(tsort lt (tag 0 l)).filter fun e => decide (e ∈ D), ?_, hTs.filter _⟩
    have hndT : (tsort lt (tag 0 l)).Nodup := hT.nodup_iff.2 (rise_nodup (tag_rise _ _))
    have hndD : D.Nodup := by
      have := hp.nodup_iff.2 (rise_nodup (tag_rise _ _))
      exact (List.nodup_append.1 this).2.1
    rw [List.perm_ext_iff_of_nodup (hndT.filter _) hndD]
    intro e
    rw [List.mem_filter]
    simp only [decide_eq_true_eq]
    exact ⟨fun h => h.2, fun h => ⟨hT.mem_iff.2 (hp.mem_iff.1 (List.mem_append_right _ h)), h⟩⟩
  have hall2 : out ++ R = tsort lt (tag 0 l) := by
    refine tsort_uniq o (tag_rise l 0) ((hperm.append hRp).trans hp) ?_
    rw [List.pairwise_append]
    exact ⟨hsorted, hRs, fun x hx y hy => hlt x (hperm.mem_iff.1 hx) y (hRp.mem_iff.1 hy)⟩
  have hol : out.length = min k l.length := by rw [hperm.length_eq, List.length_map, ← b.len]; exact hl
  have e1 : ((popAll (ahead (wlt lt)) es.length es).map (·.1.1)).reverse = out.map (·.1) := by rw [hout, List.map_reverse, List.map_map]; rfl
  have e2 : msort lt l = (tsort lt (tag 0 l)).map (·.1) := by rw [tsort_map, tag_map]
  rw [e1, e2, ← hall2, List.map_append]
  by_cases hk : k ≤ l.length
  · rw [List.take_append_of_le_length (by rw [List.length_map]; omega), List.take_of_length_le (by rw [List.length_map]; omega)]
  · have hR0 : R = [] := List.eq_nil_of_length_eq_zero (by
      have h1 := congrArg List.length hall2
      rw [List.length_append, hT.length_eq, tag_len] at h1
      omega)
    rw [hR0, List.map_nil, List.append_nil, List.take_of_length_le (by rw [List.length_map]; omega)]
end
end Go.Proofs.Ytdebokambldbbaa.Heap
