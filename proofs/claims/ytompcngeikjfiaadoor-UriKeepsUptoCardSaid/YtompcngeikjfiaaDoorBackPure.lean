/- What is escaped is read back; forms are read back; two forms. No program. -/
import Derived.Test.YtompcngeikjfiaaDoorQueryPure
namespace Go.Proofs.YtompcngeikjfiaaDoor.Uri
open Go.RowKit Go.Proofs.YtompcngeikjfiaaDoor.Mem Go.Proofs.YtompcngeikjfiaaDoor.Strs Go.Proofs.YtompcngeikjfiaaDoor.Split

theorem byte_all {f : UInt8 → Bool} (h : ((List.range 256).all fun n => f (UInt8.ofNat n)) = true) (c : UInt8) : f c = true := by
  have := below h (show c.toNat < 256 from c.toNat_lt)
  rwa [show UInt8.ofNat c.toNat = c from UInt8.ofNat_toNat] at this
theorem plain_ok (c : UInt8) : (if plainB c.toNat = true then (c != 37 && c != 43 && c != 38 && c != 61) else (hexN (dig (c.toNat / 16)).toNat != 16 && hexN (dig (c.toNat % 16)).toNat != 16 && hexs (dig (c.toNat / 16)) (dig (c.toNat % 16)) == c &&
    dig (c.toNat / 16) != 38 && dig (c.toNat / 16) != 61 && dig (c.toNat % 16) != 38 && dig (c.toNat % 16) != 61 && plainB (dig (c.toNat / 16)).toNat && plainB (dig (c.toNat % 16)).toNat)) = true :=
  byte_all (f := fun c => (if plainB c.toNat = true then (c != 37 && c != 43 && c != 38 && c != 61) else (hexN (dig (c.toNat / 16)).toNat != 16 && hexN (dig (c.toNat % 16)).toNat != 16 && hexs (dig (c.toNat / 16)) (dig (c.toNat % 16)) == c &&
    dig (c.toNat / 16) != 38 && dig (c.toNat / 16) != 61 && dig (c.toNat % 16) != 38 && dig (c.toNat % 16) != 61 && plainB (dig (c.toNat / 16)).toNat && plainB (dig (c.toNat % 16)).toNat))) (by decide +kernel) c
theorem esc_cons (c : UInt8) (r : List UInt8) : esc (c :: r) = escOne c ++ esc r := by unfold esc; rw [List.flatMap_cons]
theorem unesc_esc (plus : Bool) : ∀ s : List UInt8, unesc plus (esc s) = some s
  | [] => rfl
  | c :: r => by
    have h := plain_ok c
    rw [esc_cons]
    unfold escOne
    by_cases hp : plainB c.toNat = true
    · rw [if_pos hp] at h ⊢
      simp only [Bool.and_eq_true, bne_iff_ne, ne_eq] at h
      rw [List.singleton_append, unesc_plain h.1.1.1, unesc_esc plus r]
      unfold conv
      rw [if_neg (fun hh => h.1.1.2 hh.1)]
      rfl
    · rw [if_neg hp] at h ⊢
      simp only [Bool.and_eq_true, bne_iff_ne, ne_eq, beq_iff_eq] at h
      obtain ⟨⟨⟨⟨⟨⟨⟨⟨h1, h2⟩, h3⟩, _⟩, _⟩, _⟩, _⟩, _⟩, _⟩ := h
      rw [show [37, dig (c.toNat / 16), dig (c.toNat % 16)] ++ esc r = 37 :: dig (c.toNat / 16) :: dig (c.toNat % 16) :: esc r from rfl, unesc_hex, if_neg (fun hh => hh.elim h1 h2), unesc_esc plus r, h3]
      rfl
theorem esc_mem : ∀ (s : List UInt8) (x : UInt8), x ∈ esc s → (plainB x.toNat = true ∨ x = 37) ∧ x ≠ 38 ∧ x ≠ 61
  | [], x, h => by cases h
  | c :: r, x, h => by
    have ho := plain_ok c
    rw [esc_cons] at h
    rcases List.mem_append.1 h with h | h
    · unfold escOne at h
      by_cases hp : plainB c.toNat = true
      · rw [if_pos hp] at h ho
        obtain rfl := List.mem_singleton.1 h
        simp only [Bool.and_eq_true, bne_iff_ne, ne_eq] at ho
        exact ⟨.inl hp, ho.1.2, ho.2⟩
      · rw [if_neg hp] at h ho
        simp only [Bool.and_eq_true, bne_iff_ne, ne_eq, beq_iff_eq] at ho
        obtain ⟨⟨⟨⟨⟨⟨⟨⟨h1, h2⟩, h3⟩, h4⟩, h5⟩, h6⟩, h7⟩, h8⟩, h9⟩ := ho
        simp only [List.mem_cons, List.not_mem_nil, or_false] at h
        rcases h with rfl | rfl | rfl
        · exact ⟨.inr rfl, by decide, by decide⟩
        · exact ⟨.inl h8, h4, h5⟩
        · exact ⟨.inl h9, h6, h7⟩
    · exact esc_mem r x h
theorem pair_38 (p : PD) : (38 : UInt8) ∉ pair p := by
  unfold pair
  simp only [List.mem_append, List.mem_singleton]
  rintro ((h | h) | h)
  · exact (esc_mem _ _ h).2.1 rfl
  · cases h
  · exact (esc_mem _ _ h).2.1 rfl
theorem pair_ne (p : PD) : pair p ≠ [] := by
  intro h
  have := congrArg List.length h
  unfold pair at this
  simp at this
theorem pairOf_pair (p : PD) : pairOf (pair p) = some p := by
  have h : cutR 61 (pair p) = (esc p.1, esc p.2) := by
    unfold cutR pair
    rw [List.append_assoc, List.singleton_append, cutL_of (fun hh => (esc_mem _ _ hh).2.2 rfl)]
  exact pairOf_some (n := p.1) (v := p.2) (by rw [h]; exact unesc_esc true _) (by rw [h]; exact unesc_esc true _)
theorem form_two (p q : PD) (r : List PD) : form (p :: q :: r) = pair p ++ 38 :: form (q :: r) := by
  unfold form
  simp [formF]
theorem form_one (p : PD) : form [p] = pair p := by
  unfold form
  simp [formF]
theorem query_form : ∀ ps : List PD, queryL (form ps) = some ps
  | [] => by decide
  | [p] => by
    unfold queryL
    rw [form_one, splitL_none (cutL_not (pair_38 p)), queryP_one (pair_ne p), pairOf_pair]
    rfl
  | p :: q :: r => by
    have ih := query_form (q :: r)
    unfold queryL at ih ⊢
    rw [form_two, splitL_some (cutL_of (pair_38 p)), queryP, if_neg (pair_ne p), pairOf_pair, ih]
    rfl
theorem form_pieces : ∀ ps : List PD, (splitL 38 (form ps)).length ≤ ps.length + 1 ∧ ∀ x ∈ splitL 38 (form ps), x = [] ∨ ∃ p ∈ ps, x = pair p
  | [] => by
    have : splitL 38 (form []) = [[]] := by decide
    rw [this]
    simp
  | [p] => by
    rw [form_one, splitL_none (cutL_not (pair_38 p))]
    simp
  | p :: q :: r => by
    have ih := form_pieces (q :: r)
    rw [form_two, splitL_some (cutL_of (pair_38 p))]
    refine ⟨by simp only [List.length_cons] at ih ⊢; omega, fun x hx => ?_⟩
    rcases List.mem_cons.1 hx with rfl | hx
    · exact .inr ⟨p, List.mem_cons_self, rfl⟩
    · rcases ih.2 x hx with h | ⟨p', hp', h⟩
      · exact .inl h
      · exact .inr ⟨p', List.mem_cons_of_mem _ hp', h⟩
theorem splitL_two (c : UInt8) : ∀ (a b : List UInt8), splitL c (a ++ c :: b) = splitL c a ++ splitL c b
  | [], b => by simp [splitL]
  | x :: r, b => by
    rw [List.cons_append, splitL, splitL, splitL_two c r b]
    by_cases hx : x = c
    · rw [if_pos hx, if_pos hx]; rfl
    · rw [if_neg hx, if_neg hx]
      have := splitL_ne c r
      cases h : splitL c r with
      | nil => exact absurd h this
      | cons y t => rfl
theorem query_two (a b : List UInt8) : queryL (a ++ 38 :: b) = match queryL a, queryL b with | some x, some y => some (x ++ y) | _, _ => none := by
  unfold queryL
  rw [splitL_two, queryP_app]
  cases queryP (splitL 38 a) <;> cases queryP (splitL 38 b) <;> rfl
end Go.Proofs.YtompcngeikjfiaaDoor.Uri
