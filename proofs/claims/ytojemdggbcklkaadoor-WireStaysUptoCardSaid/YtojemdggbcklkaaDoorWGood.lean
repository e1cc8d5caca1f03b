/- Parsers that never look ahead: what an answer says of longer and of shorter inputs. Plain Lean. -/
import Derived.Test.YtojemdggbcklkaaDoorWPure
namespace Go.Proofs.YtojemdggbcklkaaDoor.Wire
open Go.Proofs.YtojemdggbcklkaaDoor.Strs Go.Proofs.YtojemdggbcklkaaDoor.Heads
set_option linter.unusedVariables false
set_option linter.unusedSimpArgs false

structure Good {α : Type} (f : Bytes → Res α) : Prop where
  ok : ∀ {t x b}, f t = .ok x b → ∃ u, t = u ++ b ∧ ∀ b', f (u ++ b') = .ok x b'
  short : ∀ {t x b u}, f t = .ok x b → t = u ++ b → ∀ v z, u = v ++ z → z ≠ [] → f v = .err 283
  err : ∀ {t e}, f t = .err e → e ≠ 283 → ∀ z, f (t ++ z) = .err e
theorem Good.bind {α β : Type} {f : Bytes → Res α} {g : α → Nat → Bytes → Res β} (hf : Good f) (hg : ∀ x n, Good (g x n)) :
    Good (fun t => match f t with | .err e => .err e | .ok x b => g x (t.length - b.length) b) where
  ok := by
    intro t y c h
    cases ht : f t with
    | err e => rw [ht] at h; cases h
    | ok x b =>
      rw [ht] at h
      simp only at h
      obtain ⟨u, rfl, hu⟩ := hf.ok ht
      obtain ⟨u2, rfl, hu2⟩ := (hg x _).ok h
      refine ⟨u ++ u2, by simp, fun b' => ?_⟩
      rw [List.append_assoc, hu (u2 ++ b')]
      simp only
      rw [show (u ++ (u2 ++ b')).length - (u2 ++ b').length = (u ++ (u2 ++ c)).length - (u2 ++ c).length by simp only [List.length_append]; omega]
      exact hu2 b'
  short := by
    intro t y c u h hu v z hv hz
    cases ht : f t with
    | err e => rw [ht] at h; cases h
    | ok x b =>
      rw [ht] at h
      simp only at h
      obtain ⟨u1, rfl, hu1⟩ := hf.ok ht
      obtain ⟨u2, rfl, hu2⟩ := (hg x _).ok h
      have hu12 : u = u1 ++ u2 := by rw [← List.append_assoc] at hu; exact (List.append_cancel_right hu).symm
      by_cases hl : v.length < u1.length
      · have h1 : u1 = v ++ (u1.drop v.length) := by
          have := congrArg (List.take u1.length) (hu12.symm.trans hv)
          rw [List.take_left', List.take_append, List.take_of_length_le (by omega)] at this
          · have h2 := congrArg (List.drop v.length) this
            rw [List.drop_left] at h2
            rw [h2]; exact this
          · rfl
        have := hf.short ht rfl v (u1.drop v.length) h1 (by
          intro e
          have := congrArg List.length e
          rw [List.length_drop] at this
          simp at this
          omega)
        simp only [this]
      · have h1 : v = u1 ++ v.drop u1.length := by
          have := congrArg (List.take u1.length) (hu12.symm.trans hv)
          rw [List.take_left', List.take_append_of_le_length (by omega)] at this
          · have h2 := (List.take_append_drop u1.length v).symm
            rw [← this] at h2
            exact h2
          · rfl
        obtain ⟨v2, hv2⟩ : ∃ v2, v2 = v.drop u1.length := ⟨_, rfl⟩
        rw [← hv2] at h1
        have h2 : u2 = v2 ++ z := by
          have := hu12.symm.trans hv
          rw [h1, List.append_assoc] at this
          exact List.append_cancel_left this
        have h3 := (hg x _).short h rfl v2 z h2 hz
        rw [h1, hu1 v2]
        simp only
        rw [show (u1 ++ v2).length - v2.length = (u1 ++ (u2 ++ c)).length - (u2 ++ c).length by simp only [List.length_append]; omega]
        exact h3
  err := by
    intro t e h he z
    cases ht : f t with
    | err e' =>
      rw [ht] at h
      injection h with h
      subst h
      simp only [hf.err ht he z]
    | ok x b =>
      rw [ht] at h
      simp only at h
      obtain ⟨u, rfl, hu⟩ := hf.ok ht
      rw [List.append_assoc, hu (b ++ z)]
      simp only
      rw [show (u ++ (b ++ z)).length - (b ++ z).length = (u ++ b).length - b.length by simp only [List.length_append]; omega]
      exact (hg x _).err h he z
theorem Good.pure {α : Type} (x : α) : Good (fun t => Res.ok x t) where
  ok := by intro t y b h; injection h with h1 h2; subst h1 h2; exact ⟨[], rfl, fun b' => rfl⟩
  short := by
    intro t y b u h hu v z hv hz
    injection h with h1 h2
    subst h2
    have : u = [] := by simpa using hu
    rw [this] at hv
    simp at hv
    exact absurd hv.2 hz
  err := by intro t e h; cases h
theorem Good.fail {α : Type} (e : Nat) : Good (fun _ => (Res.err e : Res α)) where
  ok := by intro t y b h; cases h
  short := by intro t y b u h; cases h
  err := by intro t e' h he z; exact h
theorem Good.map {α β : Type} {f : Bytes → Res α} (hf : Good f) (k : α → β) : Good (fun t => (f t).map k) := by
  have := hf.bind (g := fun x _ t => Res.ok (k x) t) (fun x n => Good.pure (k x))
  have e : (fun t => (f t).map k) = (fun t => match f t with | .err e => .err e | .ok x b => Res.ok (k x) b) := by
    funext t
    cases f t <;> rfl
  rw [e]
  exact this
theorem Good.fuel {α : Type} {F : Nat → Bytes → Res α} {G : Bytes → Res α} (hF : ∀ k, Good (F k)) (hG : ∀ t k, t.length < k → F k t = G t) : Good G where
  ok := by
    intro t x b h
    rw [← hG t (t.length + 1) (by omega)] at h
    obtain ⟨u, hu, _⟩ := (hF _).ok h
    refine ⟨u, hu, fun b' => ?_⟩
    have h2 : F (t.length + b'.length + 1) t = .ok x b := by rw [hG t _ (by omega), ← hG t (t.length + 1) (by omega)]; exact h
    obtain ⟨u', hu', h3⟩ := (hF _).ok h2
    obtain rfl : u = u' := List.append_cancel_right (hu.symm.trans hu')
    rw [← hG (u ++ b') (t.length + b'.length + 1) (by rw [hu]; simp; omega)]
    exact h3 b'
  short := by
    intro t x b u h hu v z hv hz
    rw [← hG t (t.length + 1) (by omega)] at h
    rw [← hG v (t.length + 1) (by rw [hu, hv]; simp; omega)]
    exact (hF _).short h hu v z hv hz
  err := by
    intro t e h he z
    rw [← hG (t ++ z) ((t ++ z).length + 1) (by omega)]
    rw [← hG t ((t ++ z).length + 1) (by simp; omega)] at h
    exact (hF _).err h he z
theorem Good.congr {α : Type} {f f' : Bytes → Res α} (e : ∀ t, f t = f' t) (h : Good f') : Good f := by rw [show f = f' from funext e]; exact h
theorem good_line (bad : Nat) (hb : bad ≠ 283) : Good (lineS bad) where
  ok := by
    intro t x b h
    unfold lineS at h
    cases hc : cutL 10 t with
    | none => rw [hc] at h; cases h
    | some p =>
      obtain ⟨a, b'⟩ := p
      rw [hc] at h
      simp only at h
      cases hi : inner a with
      | none => rw [hi] at h; cases h
      | some c' =>
        rw [hi] at h
        injection h with h1 h2
        subst h1 h2
        obtain ⟨e, hno⟩ := cutL_some hc
        refine ⟨a ++ [10], by rw [e]; simp, fun b2 => ?_⟩
        unfold lineS
        rw [show a ++ [10] ++ b2 = a ++ 10 :: b2 by simp, cutL_of hno]
        simp only [hi]
  short := by
    intro t x b u h hu v z hv hz
    unfold lineS at h
    cases hc : cutL 10 t with
    | none => rw [hc] at h; cases h
    | some p =>
      obtain ⟨a, b'⟩ := p
      rw [hc] at h
      simp only at h
      cases hi : inner a with
      | none => rw [hi] at h; cases h
      | some c' =>
        rw [hi] at h
        injection h with h1 h2
        subst h1 h2
        obtain ⟨e, hno⟩ := cutL_some hc
        have hua : u = a ++ [10] := by
          rw [e, show a ++ 10 :: b' = (a ++ [10]) ++ b' by simp] at hu
          exact (List.append_cancel_right hu).symm
        have hva : (10 : UInt8) ∉ v := by
          have h3 := congrArg (List.take v.length) (hua.symm.trans hv)
          have hl := congrArg List.length (hua.symm.trans hv)
          simp at hl
          have hz0 : 0 < z.length := List.length_pos_iff.2 hz
          rw [List.take_append_of_le_length (by omega), List.take_append_of_le_length (Nat.le_refl _), List.take_length] at h3
          rw [← h3]
          exact fun hm => hno (List.mem_of_mem_take hm)
        unfold lineS
        rw [cutL_not hva]
  err := by
    intro t e h he z
    unfold lineS at h
    cases hc : cutL 10 t with
    | none => rw [hc] at h; injection h with h; exact absurd h.symm he
    | some p =>
      obtain ⟨a, b'⟩ := p
      rw [hc] at h
      simp only at h
      cases hi : inner a with
      | some c' => rw [hi] at h; cases h
      | none =>
        rw [hi] at h
        obtain ⟨e2, hno⟩ := cutL_some hc
        unfold lineS
        rw [e2, show a ++ 10 :: b' ++ z = a ++ 10 :: (b' ++ z) by simp, cutL_of hno]
        simp only [hi]
        exact h
theorem good_fieldsF (bad : Nat) (hb : bad ≠ 283) : ∀ k, Good (fieldsF bad k)
  | 0 => by
    have e : fieldsF bad 0 = fun _ => Res.err 283 := by funext t; rfl
    rw [e]; exact Good.fail 283
  | k + 1 => by
    have h := (good_line bad hb).bind (g := fun c _ b => if c = [] then Res.ok [] b else match hdrOf c with
      | none => .err bad
      | some h => (fieldsF bad k b).map (h :: ·)) (fun c n => by
        by_cases hc : c = []
        · simp only [if_pos hc]; exact Good.pure _
        · simp only [if_neg hc]
          cases hdrOf c with
          | none => exact Good.fail _
          | some h => exact (good_fieldsF bad hb k).map _)
    refine Good.congr (fun t => ?_) h
    rw [fieldsF]
    cases lineS bad t with
    | err e => rfl
    | ok c b =>
      simp only
      by_cases hc : c = []
      · rw [if_pos hc, if_pos hc]
      · rw [if_neg hc, if_neg hc]
        cases hdrOf c <;> rfl
theorem good_fields (bad : Nat) (hb : bad ≠ 283) : Good (fieldsS bad) :=
  Good.fuel (good_fieldsF bad hb) (fun t k hk => by unfold fieldsS; exact fieldsF_more bad (t.length + 1) k t (by omega) (by omega))
def bulkS (n : Nat) (b : Bytes) : Res Bytes :=
  if b.length < n + 2 then .err 283 else if (b.drop n).take 2 ≠ [13, 10] then .err 282 else .ok (b.take n) (b.drop (n + 2))
theorem good_bulk (n : Nat) : Good (bulkS n) where
  ok := by
    intro t x b h
    unfold bulkS at h
    by_cases h1 : t.length < n + 2
    · rw [if_pos h1] at h; cases h
    · rw [if_neg h1] at h
      by_cases h2 : (t.drop n).take 2 ≠ [13, 10]
      · rw [if_pos h2] at h; cases h
      · rw [if_neg h2] at h
        injection h with h3 h4
        subst h3 h4
        refine ⟨t.take (n + 2), (List.take_append_drop _ _).symm, fun b' => ?_⟩
        have hl : (t.take (n + 2)).length = n + 2 := by rw [List.length_take]; omega
        unfold bulkS
        rw [if_neg (by rw [List.length_append]; omega), if_neg, List.take_append_of_le_length (by omega), List.take_take, List.drop_left' hl, Nat.min_eq_left (by omega)]
        rw [List.drop_append_of_le_length (by omega), List.take_append_of_le_length (by rw [List.length_drop]; omega), List.drop_take, List.take_take, show min 2 (n + 2 - n) = 2 by omega]
        exact h2
  short := by
    intro t x b u h hu v z hv hz
    unfold bulkS at h
    by_cases h1 : t.length < n + 2
    · rw [if_pos h1] at h; cases h
    · rw [if_neg h1] at h
      by_cases h2 : (t.drop n).take 2 ≠ [13, 10]
      · rw [if_pos h2] at h; cases h
      · rw [if_neg h2] at h
        injection h with h3 h4
        have hul : u.length = n + 2 := by
          have := congrArg List.length hu
          rw [List.length_append, ← h4, List.length_drop] at this
          omega
        have hz0 : 0 < z.length := List.length_pos_iff.2 hz
        have := congrArg List.length hv
        rw [List.length_append] at this
        unfold bulkS
        rw [if_pos (by omega)]
  err := by
    intro t e h he z
    unfold bulkS at h ⊢
    by_cases h1 : t.length < n + 2
    · rw [if_pos h1] at h; injection h with h; exact absurd h.symm he
    · rw [if_neg h1] at h
      rw [if_neg (by rw [List.length_append]; omega), List.drop_append_of_le_length (by omega), List.take_append_of_le_length (by rw [List.length_drop]; omega)]
      by_cases h2 : (t.drop n).take 2 ≠ [13, 10]
      · rw [if_pos h2] at h ⊢; exact h
      · rw [if_neg h2] at h; cases h
def takeS (n : Nat) (t : Bytes) : Res Bytes := if t.length < n then .err 283 else .ok (t.take n) (t.drop n)
theorem good_take (n : Nat) : Good (takeS n) where
  ok := by
    intro t x b h
    unfold takeS at h
    by_cases h1 : t.length < n
    · rw [if_pos h1] at h; cases h
    · rw [if_neg h1] at h
      injection h with h3 h4
      subst h3 h4
      refine ⟨t.take n, (List.take_append_drop _ _).symm, fun b' => ?_⟩
      have hl : (t.take n).length = n := by rw [List.length_take]; omega
      unfold takeS
      rw [if_neg (by rw [List.length_append]; omega), List.take_left' hl, List.drop_left' hl]
  short := by
    intro t x b u h hu v z hv hz
    unfold takeS at h
    by_cases h1 : t.length < n
    · rw [if_pos h1] at h; cases h
    · rw [if_neg h1] at h
      injection h with h3 h4
      have hul : u.length = n := by
        have := congrArg List.length hu
        rw [List.length_append, ← h4, List.length_drop] at this
        omega
      have hz0 : 0 < z.length := List.length_pos_iff.2 hz
      have := congrArg List.length hv
      rw [List.length_append] at this
      unfold takeS
      rw [if_pos (by omega)]
  err := by
    intro t e h he z
    unfold takeS at h
    by_cases h1 : t.length < n
    · rw [if_pos h1] at h; injection h with h; exact absurd h.symm he
    · rw [if_neg h1] at h; cases h
theorem good_chunksF : ∀ k p, Good (chunksF k p)
  | 0, p => Good.congr (fun t => rfl) (Good.fail 283)
  | k + 1, p => by
    have h := (good_line 282 (by decide)).bind (g := fun c m b => match sizeS c with
      | none => .err 282
      | some n => if n = 0 then (fieldsS 282 b).map (fun _ => []) else if 65536 < p + m + n + 2 then .err 284 else
        match bulkS n b with
        | .err e => .err e
        | .ok d r => (chunksF k (p + m + n + 2) r).map (d ++ ·)) (fun c m => by
        cases sizeS c with
        | none => exact Good.fail _
        | some n =>
          by_cases h0 : n = 0
          · simp only [if_pos h0]; exact (good_fields 282 (by decide)).map _
          · simp only [if_neg h0]
            by_cases h1 : 65536 < p + m + n + 2
            · simp only [if_pos h1]; exact Good.fail _
            · simp only [if_neg h1]
              refine Good.congr (fun t => ?_) ((good_bulk n).bind (g := fun d _ r => (chunksF k (p + m + n + 2) r).map (d ++ ·)) (fun d _ => (good_chunksF k _).map _))
              cases bulkS n t <;> rfl)
    refine Good.congr (fun t => ?_) h
    rw [chunksF]
    cases lineS 282 t with
    | err e => rfl
    | ok c b =>
      simp only
      cases sizeS c with
      | none => rfl
      | some n =>
        simp only
        by_cases h0 : n = 0
        · rw [if_pos h0, if_pos h0]
        · rw [if_neg h0, if_neg h0]
          by_cases h1 : 65536 < p + (t.length - b.length) + n + 2
          · rw [if_pos h1, if_pos h1]
          · rw [if_neg h1, if_neg h1]
            unfold bulkS
            by_cases h2 : b.length < n + 2
            · rw [if_pos h2, if_pos h2]
            · rw [if_neg h2, if_neg h2]
              by_cases h3 : (b.drop n).take 2 ≠ [13, 10]
              · rw [if_pos h3, if_pos h3]
              · rw [if_neg h3, if_neg h3]
theorem good_chunks (p : Nat) : Good (chunksS p) :=
  Good.fuel (fun k => good_chunksF k p) (fun t k hk => by unfold chunksS; exact chunksF_more (t.length + 1) k p t (by omega) (by omega))
theorem good_body (sh : Shape) (p : Nat) : Good (bodyS sh p) := by
  cases sh with
  | none => exact Good.congr (fun t => rfl) (Good.pure [])
  | long n =>
    by_cases h : 65536 < p + n
    · exact Good.congr (fun t => by unfold bodyS; simp only; rw [if_pos h]) (Good.fail 284)
    · exact Good.congr (fun t => by unfold bodyS takeS; simp only; rw [if_neg h]) (good_take n)
  | chunked => exact Good.congr (fun t => rfl) (good_chunks p)
def afterFields (m tg : Bytes) (old : Bool) (n1 : Nat) (hs : List HD) (n2 : Nat) (t2 : Bytes) : Res Req :=
  match judgeS hs old with
  | none => .err 281
  | some sh => (bodyS sh (n1 + n2) t2).map fun body => ⟨m, tg, hs, body, endS hs old⟩
def afterFirst (c : Bytes) (n1 : Nat) (t1 : Bytes) : Res Req :=
  match firstS c with
  | none => .err 280
  | some (m, tg, old) => match fieldsS 281 t1 with
    | .err e => .err e
    | .ok hs t2 => afterFields m tg old n1 hs (t1.length - t2.length) t2
theorem good_afterFields (m tg : Bytes) (old : Bool) (n1 : Nat) (hs : List HD) (n2 : Nat) : Good (afterFields m tg old n1 hs n2) := by
  unfold afterFields
  cases judgeS hs old with
  | none => exact Good.fail _
  | some sh => exact (good_body sh _).map _
theorem good_afterFirst (c : Bytes) (n1 : Nat) : Good (afterFirst c n1) := by
  unfold afterFirst
  cases firstS c with
  | none => exact Good.fail _
  | some x =>
    obtain ⟨m, tg, old⟩ := x
    refine Good.congr (fun t => ?_) ((good_fields 281 (by decide)).bind (g := afterFields m tg old n1) (fun hs n2 => good_afterFields m tg old n1 hs n2))
    simp only
    cases fieldsS 281 t <;> rfl
theorem readS_eq (s : Bytes) : readS s = match lineS 280 s with
    | .err e => .err e
    | .ok c t1 => afterFirst c (s.length - t1.length) t1 := by
  unfold readS
  cases hl : lineS 280 s with
  | err e => rfl
  | ok c t1 =>
    have h1 := lineS_len hl
    simp only
    unfold afterFirst
    cases firstS c with
    | none => rfl
    | some x =>
      obtain ⟨m, tg, old⟩ := x
      simp only
      cases hf : fieldsS 281 t1 with
      | err e => rfl
      | ok hs t2 =>
        have h2 := fieldsS_len t1.length (Nat.le_refl _) hf
        simp only
        unfold afterFields
        cases judgeS hs old with
        | none => rfl
        | some sh =>
          simp only
          rw [show s.length - t1.length + (t1.length - t2.length) = s.length - t2.length by omega]
          cases bodyS sh (s.length - t2.length) t2 <;> rfl
/-- a request never looks ahead -/
theorem good_read : Good readS :=
  Good.congr (fun t => by rw [readS_eq]; cases lineS 280 t <;> rfl) ((good_line 280 (by decide)).bind (g := afterFirst) (fun c n => good_afterFirst c n))
end Go.Proofs.YtojemdggbcklkaaDoor.Wire
