/- Taking all out of a pile is sorting; the document's Sorted, Best, Merge in plain words. Plain Lean. -/
import Derived.Test.YtdebokambldbbaaHeapSpec
namespace Go.Proofs.Ytdebokambldbbaa.Heap
set_option linter.unusedVariables false
set_option linter.unusedSectionVars false

section
variable {ε : Type} [Inhabited ε] {ah : ε → ε → Bool} {S : ε → Prop}
/-- the things in the order in which they come out -/
def popAll (ah : ε → ε → Bool) : Nat → List ε → List ε
  | 0, _ => []
  | n + 1, es => nth es 0 :: popAll ah n (pop ah es)
theorem popAll_len : ∀ (n : Nat) (es : List ε), (popAll ah n es).length = n
  | 0, _ => rfl
  | n + 1, es => by rw [popAll, List.length_cons, popAll_len n]
theorem popAll_perm : ∀ (n : Nat) (es : List ε), n = es.length → (popAll ah n es).Perm es
  | 0, es, h => by
    have : es = [] := List.eq_nil_of_length_eq_zero h.symm
    subst this; exact .refl _
  | n + 1, es, h => by
    rw [popAll]
    exact ((popAll_perm n (pop ah es) (by rw [pop_len]; omega)).cons _).trans (pop_perm (by omega))
theorem popAll_sorted : ∀ (n : Nat) (es : List ε), n = es.length → (∀ e ∈ es, S e) → Ord ah S → es.Nodup → Heap ah es → (popAll ah n es).Pairwise fun a b => ah a b = true
  | 0, es, h, _, _, _, _ => .nil
  | n + 1, es, h, hS, o, hd, hh => by
    have hpos : 0 < es.length := by omega
    have hp := pop_perm (ah := ah) hpos
    have hd2 := hp.nodup_iff.2 hd
    have hS2 : ∀ e ∈ pop ah es, S e := fun e he => hS e (hp.mem_iff.1 (List.mem_cons_of_mem _ he))
    rw [popAll, List.pairwise_cons]
    refine ⟨fun b hb => ?_, popAll_sorted n _ (by rw [pop_len]; omega) hS2 o (List.nodup_cons.1 hd2).2 (pop_heap hS o hpos hh)⟩
    have hb' : b ∈ pop ah es := (popAll_perm n _ (by rw [pop_len]; omega)).mem_iff.1 hb
    have hbe : b ∈ es := hp.mem_iff.1 (List.mem_cons_of_mem _ hb')
    obtain ⟨k, hk, rfl⟩ := List.mem_iff_getElem.1 hbe
    have ht := heap_top k hS o hh hk
    rw [nth_eq hk] at ht
    cases h1 : ah (nth es 0) es[k] with
    | true => rfl
    | false =>
      have := o.tot _ _ (hS _ (nth_mem hpos)) (hS _ hbe) h1 ht
      exact absurd (this ▸ hb') (List.nodup_cons.1 hd2).1
theorem sort_uniq (o : Ord ah S) : ∀ (a b : List ε), (∀ x ∈ a, S x) → a.Perm b → (a.Pairwise fun x y => ah x y = true) → (b.Pairwise fun x y => ah x y = true) → a = b
  | [], b, _, hp, _, _ => (List.nil_perm.1 hp).symm
  | x :: a, [], _, hp, _, _ => absurd hp.length_eq (by simp)
  | x :: a, y :: b, hS, hp, ha, hb => by
    rw [List.pairwise_cons] at ha hb
    have hxy : x = y := by
      rcases List.mem_cons.1 (hp.mem_iff.1 (List.mem_cons_self (a := x))) with h | h
      · exact h
      · have h1 := hb.1 x h
        rcases List.mem_cons.1 (hp.mem_iff.2 (List.mem_cons_self (a := y))) with h2 | h2
        · exact h2.symm
        · have h3 := ha.1 y h2
          have := o.asym (hS x List.mem_cons_self) (hS y (List.mem_cons_of_mem _ h2)) h3
          rw [h1] at this; cases this
    subst hxy
    rw [sort_uniq o a b (fun z hz => hS z (List.mem_cons_of_mem _ hz)) hp.cons_inv ha.2 hb.2]
end

/-! ### the document's Sorted -/
section
variable {α : Type} [Inhabited α]
def mrg (lt : α → α → Bool) : List α → List α → List α
  | [], b => b
  | x :: a, [] => x :: a
  | x :: a, y :: b => if lt y x then y :: mrg lt (x :: a) b else x :: mrg lt a (y :: b)
termination_by a b => a.length + b.length
def msortF (lt : α → α → Bool) : Nat → List α → List α
  | 0, l => l
  | n + 1, l => if l.length < 2 then l else mrg lt (msortF lt n (l.take (l.length / 2))) (msortF lt n (l.drop (l.length / 2)))
def msort (lt : α → α → Bool) (l : List α) : List α := msortF lt l.length l
theorem mrg_nil (lt : α → α → Bool) (a : List α) : mrg lt a [] = a := by cases a <;> rw [mrg]
theorem mrg_perm (lt : α → α → Bool) : ∀ (a b : List α), (mrg lt a b).Perm (a ++ b)
  | [], b => by rw [mrg]; exact .refl _
  | x :: a, [] => by rw [mrg, List.append_nil]
  | x :: a, y :: b => by
    rw [mrg]
    split
    · exact ((mrg_perm lt (x :: a) b).cons y).trans (List.perm_middle (a := y) (l₁ := x :: a) (l₂ := b)).symm
    · exact (mrg_perm lt a (y :: b)).cons x
termination_by a b => a.length + b.length
theorem mrg_len (lt : α → α → Bool) (a b : List α) : (mrg lt a b).length = a.length + b.length := by rw [(mrg_perm lt a b).length_eq, List.length_append]
theorem msortF_perm (lt : α → α → Bool) : ∀ (n : Nat) (l : List α), (msortF lt n l).Perm l
  | 0, l => .refl _
  | n + 1, l => by
    rw [msortF]
    split
    · exact .refl _
    · refine (mrg_perm _ _ _).trans (((msortF_perm lt n _).append (msortF_perm lt n _)).trans ?_)
      rw [List.take_append_drop]
theorem msort_perm (lt : α → α → Bool) (l : List α) : (msort lt l).Perm l := msortF_perm lt _ l
theorem msort_len (lt : α → α → Bool) (l : List α) : (msort lt l).length = l.length := (msort_perm lt l).length_eq
theorem msortF_fuel (lt : α → α → Bool) : ∀ (n m : Nat) (l : List α), l.length ≤ n → l.length ≤ m → msortF lt n l = msortF lt m l
  | 0, 0, l, _, _ => rfl
  | 0, m + 1, l, h, _ => by rw [msortF, msortF, if_pos (by omega)]
  | n + 1, 0, l, _, h => by rw [msortF, msortF, if_pos (by omega)]
  | n + 1, m + 1, l, h1, h2 => by
    rw [msortF, msortF]
    split
    · rfl
    · rw [msortF_fuel lt n m _ (by rw [List.length_take]; omega) (by rw [List.length_take]; omega), msortF_fuel lt n m _ (by rw [List.length_drop]; omega) (by rw [List.length_drop]; omega)]
theorem msort_step (lt : α → α → Bool) {l : List α} (h : 2 ≤ l.length) : msort lt l = mrg lt (msort lt (l.take (l.length / 2))) (msort lt (l.drop (l.length / 2))) := by
  unfold msort
  obtain ⟨n, hn⟩ : ∃ n, l.length = n + 1 := ⟨l.length - 1, by omega⟩
  rw [hn, msortF, if_neg (by omega), hn]
  rw [msortF_fuel lt n (l.take ((n + 1) / 2)).length _ (by rw [List.length_take]; omega) (Nat.le_refl _), msortF_fuel lt n (l.drop ((n + 1) / 2)).length _ (by rw [List.length_drop]; omega) (Nat.le_refl _)]
theorem msort_short (lt : α → α → Bool) {l : List α} (h : l.length < 2) : msort lt l = l := by
  unfold msort
  match l, h with
  | [], _ => rfl
  | [x], _ => rfl

/-- with the number of coming beside -/
def lt2 (lt : α → α → Bool) (a b : α × Nat) : Bool := lt a.1 b.1
theorem mrg_map (lt : α → α → Bool) : ∀ (a b : List (α × Nat)), (mrg (lt2 lt) a b).map (·.1) = mrg lt (a.map (·.1)) (b.map (·.1))
  | [], b => by simp [mrg]
  | x :: a, [] => by simp [mrg]
  | x :: a, y :: b => by
    simp only [List.map_cons]
    rw [mrg, mrg]
    have e : lt2 lt y x = lt y.1 x.1 := rfl
    rw [e]
    split
    · rw [List.map_cons, mrg_map lt (x :: a) b]; rfl
    · rw [List.map_cons, mrg_map lt a (y :: b)]; rfl
termination_by a b => a.length + b.length
theorem msortF_map (lt : α → α → Bool) : ∀ (n : Nat) (l : List (α × Nat)), (msortF (lt2 lt) n l).map (·.1) = msortF lt n (l.map (·.1))
  | 0, l => rfl
  | n + 1, l => by
    rw [msortF, msortF, List.length_map]
    split
    · rfl
    · rw [mrg_map, msortF_map lt n, msortF_map lt n, List.map_take, List.map_drop]
theorem mrg_sorted {lt : α → α → Bool} (o : Swo lt) : ∀ (a b : List (α × Nat)), (a.Pairwise fun x y => ahead lt x y = true) → (b.Pairwise fun x y => ahead lt x y = true) → (∀ x ∈ a, ∀ y ∈ b, x.2 < y.2) →
    (mrg (lt2 lt) a b).Pairwise fun x y => ahead lt x y = true
  | [], b, _, hb, _ => by rw [mrg]; exact hb
  | x :: a, [], ha, _, _ => by rw [mrg]; exact ha
  | x :: a, y :: b, ha, hb, hlt => by
    have tr : ∀ p q r, ahead lt p q = true → ahead lt q r = true → ahead lt p r = true := fun p q r h1 h2 => by
      rw [ahead_true] at h1 h2 ⊢
      have tr' : ∀ u v w, lt u v = true → lt v w = true → lt u w = true := fun u v w huv hvw => by
        cases h : lt u w with
        | true => rfl
        | false => have := o.ntr u w v h (o.asym _ _ hvw); rw [huv] at this; cases this
      rcases h1 with h1 | ⟨h1, h1', h1''⟩ <;> rcases h2 with h2 | ⟨h2, h2', h2''⟩
      · exact .inl (tr' _ _ _ h1 h2)
      · left
        cases h : lt p.1 r.1 with
        | true => rfl
        | false => have := o.ntr _ _ _ h h2; rw [h1] at this; cases this
      · left
        cases h : lt p.1 r.1 with
        | true => rfl
        | false => have := o.ntr _ _ _ h1 h; rw [h2] at this; cases this
      · exact .inr ⟨o.ntr _ _ _ h2 h1, o.ntr _ _ _ h1' h2', by omega⟩
    rw [mrg]
    rw [List.pairwise_cons] at ha hb
    split
    · rename_i h
      have hyx : ahead lt y x = true := ahead_true.2 (.inl h)
      rw [List.pairwise_cons]
      refine ⟨fun z hz => ?_, mrg_sorted o (x :: a) b (List.pairwise_cons.2 ha) hb.2 (fun p hp q hq => hlt p hp q (List.mem_cons_of_mem _ hq))⟩
      rcases List.mem_append.1 ((mrg_perm _ _ _).mem_iff.1 hz) with hz | hz
      · rcases List.mem_cons.1 hz with rfl | hz
        · exact hyx
        · exact tr _ _ _ hyx (ha.1 z hz)
      · exact hb.1 z hz
    · rename_i h
      have h : lt y.1 x.1 = false := by simpa [lt2] using h
      have hxy : ahead lt x y = true := by
        rw [ahead_true]
        cases h1 : lt x.1 y.1 with
        | true => exact .inl rfl
        | false => exact .inr ⟨h, rfl, hlt x List.mem_cons_self y List.mem_cons_self⟩
      rw [List.pairwise_cons]
      refine ⟨fun z hz => ?_, mrg_sorted o a (y :: b) ha.2 (List.pairwise_cons.2 hb) (fun p hp q hq => hlt p (List.mem_cons_of_mem _ hp) q hq)⟩
      rcases List.mem_append.1 ((mrg_perm _ _ _).mem_iff.1 hz) with hz | hz
      · exact ha.1 z hz
      · rcases List.mem_cons.1 hz with rfl | hz
        · exact hxy
        · exact tr _ _ _ hxy (hb.1 z hz)
termination_by a b => a.length + b.length
theorem msortF_sorted {lt : α → α → Bool} (o : Swo lt) : ∀ (n : Nat) (l : List (α × Nat)), l.length ≤ n → (l.Pairwise fun a b => a.2 < b.2) → (msortF (lt2 lt) n l).Pairwise fun x y => ahead lt x y = true
  | 0, l, h, _ => by
    have : l = [] := List.eq_nil_of_length_eq_zero (by omega)
    subst this; exact .nil
  | n + 1, l, h, hr => by
    rw [msortF]
    split
    · rename_i hs
      rcases l with _ | ⟨x, _ | ⟨y, r⟩⟩
      · exact .nil
      · exact List.pairwise_singleton _ _
      · exact absurd hs (by simp)
    · have hta := hr.sublist (List.take_sublist (l.length / 2) l)
      have htd := hr.sublist (List.drop_sublist (l.length / 2) l)
      refine mrg_sorted o _ _ (msortF_sorted o n _ (by rw [List.length_take]; omega) hta) (msortF_sorted o n _ (by rw [List.length_drop]; omega) htd) fun x hx y hy => ?_
      have hx := (msortF_perm _ _ _).mem_iff.1 hx
      have hy := (msortF_perm _ _ _).mem_iff.1 hy
      rw [← List.take_append_drop (l.length / 2) l] at hr
      exact (List.pairwise_append.1 hr).2.2 x hx y hy
theorem rise_nodup {L : List (α × Nat)} (h : L.Pairwise fun a b => a.2 < b.2) : L.Nodup := h.imp fun {a b} hab e => by subst e; exact absurd hab (Nat.lt_irrefl _)
/-- the list with its numbers, sorted -/
def tsort (lt : α → α → Bool) (L : List (α × Nat)) : List (α × Nat) := msortF (lt2 lt) L.length L
theorem tsort_map (lt : α → α → Bool) (L : List (α × Nat)) : (tsort lt L).map (·.1) = msort lt (L.map (·.1)) := by
  unfold tsort msort
  rw [msortF_map, List.length_map]
theorem tsort_perm (lt : α → α → Bool) (L : List (α × Nat)) : (tsort lt L).Perm L := msortF_perm _ _ _
theorem tsort_sorted {lt : α → α → Bool} (o : Swo lt) {L : List (α × Nat)} (h : L.Pairwise fun a b => a.2 < b.2) : (tsort lt L).Pairwise fun x y => ahead lt x y = true := msortF_sorted o _ _ (Nat.le_refl _) h
theorem tsort_uniq {lt : α → α → Bool} (o : Swo lt) {L out : List (α × Nat)} (h : L.Pairwise fun a b => a.2 < b.2) (hp : out.Perm L) (hs : out.Pairwise fun x y => ahead lt x y = true) : out = tsort lt L :=
  sort_uniq (ahead_ord o h) out (tsort lt L) (fun x hx => hp.mem_iff.1 hx) (hp.trans (tsort_perm lt L).symm) hs (tsort_sorted o h)
/-- what comes out of a pile -/
theorem Book.all {lt : α → α → Bool} (o : Swo lt) {es L : List (α × Nat)} {nx : Nat} (b : Book lt es L nx) : popAll (ahead lt) es.length es = tsort lt L := by
  have hp := popAll_perm (ah := ahead lt) es.length es rfl
  exact tsort_uniq o b.rise (hp.trans b.perm) (popAll_sorted es.length es rfl (fun e he => b.perm.mem_iff.1 he) (ahead_ord o b.rise) (b.perm.nodup_iff.2 (rise_nodup b.rise)) b.heap)
theorem Book.all_map {lt : α → α → Bool} (o : Swo lt) {es L : List (α × Nat)} {nx : Nat} (b : Book lt es L nx) : (popAll (ahead lt) es.length es).map (·.1) = msort lt (L.map (·.1)) := by rw [b.all o, tsort_map]

/-! ### all pushed, one by one -/
def pushAll (lt : α → α → Bool) : List (α × Nat) → Nat → List α → List (α × Nat)
  | es, _, [] => es
  | es, nx, x :: l => pushAll lt (push (ahead lt) es (x, nx)) (nx + 1) l
def tag (nx : Nat) : List α → List (α × Nat)
  | [] => []
  | x :: l => (x, nx) :: tag (nx + 1) l
theorem tag_map : ∀ (nx : Nat) (l : List α), (tag nx l).map (·.1) = l
  | _, [] => rfl
  | nx, x :: l => by rw [tag, List.map_cons, tag_map]
theorem tag_len (nx : Nat) (l : List α) : (tag nx l).length = l.length := by rw [← List.length_map (f := (·.1)), tag_map]
theorem tag_app : ∀ (nx : Nat) (a b : List α), tag nx (a ++ b) = tag nx a ++ tag (nx + a.length) b
  | nx, [], b => by simp [tag]
  | nx, x :: a, b => by rw [List.cons_append, tag, tag, tag_app, List.cons_append, List.length_cons]; congr 3; omega
theorem Book.pushAll {lt : α → α → Bool} (o : Swo lt) : ∀ (l : List α) {es L : List (α × Nat)} {nx : Nat}, Book lt es L nx → Book lt (Heap.pushAll lt es nx l) (L ++ tag nx l) (nx + l.length)
  | [], es, L, nx, b => by simpa [Heap.pushAll, tag] using b
  | x :: l, es, L, nx, b => by
    have := Book.pushAll o l (b.push o x)
    rw [List.append_assoc] at this
    rw [Heap.pushAll, tag, List.length_cons, show nx + (l.length + 1) = nx + 1 + l.length by omega]
    exact this
theorem pushAll_app (lt : α → α → Bool) : ∀ (a b : List α) (es : List (α × Nat)) (nx : Nat), pushAll lt es nx (a ++ b) = pushAll lt (pushAll lt es nx a) (nx + a.length) b
  | [], b, es, nx => by simp [pushAll]
  | x :: a, b, es, nx => by rw [List.cons_append, pushAll, pushAll_app lt a b, pushAll, List.length_cons]; congr 1; omega
theorem pushAll_len (lt : α → α → Bool) : ∀ (l : List α) (es : List (α × Nat)) (nx : Nat), (pushAll lt es nx l).length = es.length + l.length
  | [], es, nx => rfl
  | x :: l, es, nx => by rw [pushAll, pushAll_len lt l, push_len, List.length_cons]; omega
theorem pushAll_perm (lt : α → α → Bool) : ∀ (l : List α) (es : List (α × Nat)) (nx : Nat), (pushAll lt es nx l).Perm (es ++ tag nx l)
  | [], es, nx => by simp [pushAll, tag]
  | x :: l, es, nx => by
    rw [pushAll, tag]
    refine (pushAll_perm lt l _ _).trans ?_
    have := (push_perm (ah := ahead lt) es (x, nx)).append_right (tag (nx + 1) l)
    rwa [List.append_assoc] at this
/-- Sorted, as the program reckons it -/
def sorted (lt : α → α → Bool) (l : List α) : List α := (popAll (ahead lt) l.length (pushAll lt [] 0 l)).map (·.1)
theorem sorted_eq {lt : α → α → Bool} (o : Swo lt) (l : List α) : sorted lt l = msort lt l := by
  have b := Book.pushAll o l (Book.nil lt 0)
  have h := b.all_map o
  rw [pushAll_len, List.nil_append, tag_map] at h
  simpa [sorted] using h
theorem sorted_perm (lt : α → α → Bool) (l : List α) : (sorted lt l).Perm l := by
  have h1 := popAll_perm (ah := ahead lt) l.length (pushAll lt [] 0 l) (by rw [pushAll_len]; simp)
  have h2 := (h1.trans (pushAll_perm lt l [] 0)).map (·.1)
  rw [List.nil_append, tag_map] at h2
  exact h2
theorem sorted_len (lt : α → α → Bool) (l : List α) : (sorted lt l).length = l.length := (sorted_perm lt l).length_eq
theorem swo_flat : Swo (fun _ _ : α => false) := ⟨fun _ => rfl, fun _ _ _ _ _ => rfl, fun _ _ h => by cases h⟩
theorem mrg_flat : ∀ (a b : List α), mrg (fun _ _ => false) a b = a ++ b
  | [], b => by rw [mrg]; rfl
  | x :: a, [] => by rw [mrg, List.append_nil]
  | x :: a, y :: b => by rw [mrg, if_neg (by simp), mrg_flat a (y :: b)]; rfl
theorem msortF_flat : ∀ (n : Nat) (l : List α), msortF (fun _ _ => false) n l = l
  | 0, l => rfl
  | n + 1, l => by
    rw [msortF]
    split
    · rfl
    · rw [mrg_flat, msortF_flat n, msortF_flat n, List.take_append_drop]
theorem msort_flat (l : List α) : msort (fun _ _ => false) l = l := msortF_flat _ l
end
end Go.Proofs.Ytdebokambldbbaa.Heap
