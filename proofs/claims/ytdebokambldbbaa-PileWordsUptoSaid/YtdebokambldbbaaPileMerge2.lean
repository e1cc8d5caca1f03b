/- Merging: how much is left. Plain Lean. -/
import Derived.Test.YtdebokambldbbaaPileMerge
namespace Go.Proofs.Ytdebokambldbbaa.Heap
set_option linter.unusedVariables false
set_option linter.unusedSectionVars false
section
variable {α : Type} [Inhabited α] {lt : α → α → Bool}
/-- how many things are left -/
def rem : List (List α) → List Nat → Nat
  | l :: ls, a :: ats => (l.length - a) + rem ls ats
  | _, _ => 0
theorem nth_zero {ε : Type} [Inhabited ε] (x : ε) (l : List ε) : nth (x :: l) 0 = x := rfl
theorem nth_succ {ε : Type} [Inhabited ε] (x : ε) (l : List ε) (k : Nat) : nth (x :: l) (k + 1) = nth l k := by unfold nth; rw [List.getElem?_cons_succ]
theorem rem_set : ∀ (ls : List (List α)) (ats : List Nat) (b : Nat), b < ls.length → b < ats.length → nth ats b < (nth ls b).length → rem ls (ats.set b (nth ats b + 1)) + 1 = rem ls ats
  | [], _, b, h, _, _ => by simp at h
  | _ :: _, [], b, _, h, _ => by simp at h
  | l :: ls, a :: ats, 0, _, _, h => by
    rw [nth_zero, nth_zero] at h
    rw [nth_zero, List.set_cons_zero, rem, rem]
    omega
  | l :: ls, a :: ats, b + 1, h1, h2, h => by
    rw [nth_succ, nth_succ] at h
    rw [nth_succ, List.set_cons_succ, rem, rem]
    have := rem_set ls ats b (by simpa using h1) (by simpa using h2) h
    omega
theorem rem_pos : ∀ (ls : List (List α)) (ats : List Nat) (b : Nat), b < ls.length → b < ats.length → nth ats b < (nth ls b).length → 0 < rem ls ats := fun ls ats b h1 h2 h => by
  have := rem_set ls ats b h1 h2 h
  omega
theorem rem_zero : ∀ (ls : List (List α)), rem ls (List.replicate ls.length 0) = total ls
  | [] => rfl
  | l :: ls => by
    rw [List.length_cons, List.replicate_succ, rem, rem_zero ls]
    unfold total
    simp
theorem headsF_len (ls : List (List α)) : ∀ k, (headsF lt ls k).1.length ≤ k ∧ (headsF lt ls k).2 ≤ k
  | 0 => ⟨Nat.le_refl _, Nat.le_refl _⟩
  | k + 1 => by
    have ih := headsF_len ls k
    rw [headsF]
    split
    · simp only; rw [push_len]; omega
    · omega
theorem headsF_dom (o : Swo lt) (ls : List (List α)) {k : Nat} (hk : k ≤ ls.length) : ∀ e ∈ (headsF lt ls k).1, e.1.1 < ls.length ∧ e.1.2 < (nth ls e.1.1).length := fun e he => by
  obtain ⟨L, hb, hm, _⟩ := headsF_heads o ls k hk
  have := (hm e.1.1 e.1.2).1 (List.mem_map_of_mem (hb.perm.mem_iff.1 he))
  exact ⟨by omega, this.2.2⟩
/-- the lengths of the first k lists -/
def tot (ls : List (List α)) (k : Nat) : Nat := total (ls.take k)
theorem tot_zero (ls : List (List α)) : tot ls 0 = 0 := rfl
theorem tot_succ (ls : List (List α)) {k : Nat} (h : k < ls.length) : tot ls (k + 1) = tot ls k + (nth ls k).length := by
  unfold tot total
  rw [List.take_succ_eq_append_getElem h, nth_eq h, List.map_append, List.sum_append, List.map_cons, List.map_nil, List.sum_cons, List.sum_nil, Nat.add_zero]
theorem tot_all (ls : List (List α)) : tot ls ls.length = total ls := by unfold tot; rw [List.take_length]
theorem tot_le (ls : List (List α)) : ∀ k, tot ls k ≤ total ls := fun k => by
  unfold tot total
  conv => rhs; rw [← List.take_append_drop k ls]
  rw [List.map_append, List.sum_append]
  omega
/-- the state of a merge -/
structure MG (lt : α → α → Bool) (ls : List (List α)) (o : List α) (es : List ((Nat × Nat) × Nat)) (nx : Nat) : Prop where
  hd : ∃ ats, Heads lt ls es nx ats ∧ o.length + rem ls ats = total ls
  all : o ++ mergeP lt ls (total ls - o.length) es nx = merged lt ls
  len : es.length ≤ ls.length
  num : nx ≤ ls.length + o.length
theorem MG.start (o : Swo lt) (ls : List (List α)) : MG lt ls [] (headsF lt ls ls.length).1 (headsF lt ls ls.length).2 :=
  ⟨⟨_, headsF_ok o ls, by rw [rem_zero]; simp⟩, by simp only [List.nil_append, List.length_nil, Nat.sub_zero]; exact merged_eq o ls, (headsF_len ls _).1, by simpa using (headsF_len ls _).2⟩
theorem MG.dom {ls : List (List α)} {o : List α} {es : List ((Nat × Nat) × Nat)} {nx : Nat} (h : MG lt ls o es nx) : ∀ e ∈ es, e.1.1 < ls.length ∧ e.1.2 < (nth ls e.1.1).length := fun e he => by
  obtain ⟨ats, ⟨⟨L, hb, hm, _⟩, _⟩, _⟩ := h.hd
  have := (hm e.1.1 e.1.2).1 (List.mem_map_of_mem (hb.perm.mem_iff.1 he))
  exact ⟨this.1, this.2.2⟩
theorem MG.step (w : Swo lt) {ls : List (List α)} {o : List α} {es : List ((Nat × Nat) × Nat)} {nx : Nat} (h : MG lt ls o es nx) (hpos : 0 < es.length) :
    o.length < total ls ∧ MG lt ls (o ++ [cellAt ls (nth es 0).1.1 (nth es 0).1.2]) (mergeStep lt ls es nx) (mergeNext ls es nx) := by
  obtain ⟨ats, hh, hr⟩ := h.hd
  obtain ⟨h1, h2, h3, _, h5⟩ := hh.step w hpos
  have hs := rem_set ls ats (nth es 0).1.1 h1 (by rw [hh.len]; exact h1) (by rw [← h2]; exact h3)
  have hlt : o.length < total ls := by omega
  refine ⟨hlt, ⟨_, h5, by rw [List.length_append, List.length_cons, List.length_nil]; omega⟩, ?_, ?_, ?_⟩
  · have ha := h.all
    obtain ⟨n, hn⟩ : ∃ n, total ls - o.length = n + 1 := ⟨total ls - o.length - 1, by omega⟩
    rw [hn, mergeP, if_neg (by omega)] at ha
    rw [← ha, List.length_append, List.length_cons, List.length_nil, show total ls - (o.length + (0 + 1)) = n by omega, List.append_assoc]
    rfl
  · have := h.len
    unfold mergeStep
    split
    · rw [push_len, pop_len]; omega
    · rw [pop_len]; omega
  · have := h.num
    unfold mergeNext
    rw [List.length_append, List.length_cons, List.length_nil]
    split <;> omega
theorem MG.done {ls : List (List α)} {o : List α} {nx : Nat} (h : MG lt ls o [] nx) : o = merged lt ls := by
  have := h.all
  have e : ∀ n, mergeP lt ls n [] nx = [] := fun n => by cases n <;> rfl
  rw [e, List.append_nil] at this
  exact this
end
end Go.Proofs.Ytdebokambldbbaa.Heap
