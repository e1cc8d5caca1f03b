/- A request with header lines put in is no request. Plain Lean. -/
import Derived.Test.YtojemdggbcklkaaDoorWSAll
namespace Go.Proofs.YtojemdggbcklkaaDoor.WireR
open Go.Proofs.YtojemdggbcklkaaDoor.Wire Go.Proofs.YtojemdggbcklkaaDoor.Strs Go.Proofs.YtojemdggbcklkaaDoor.Heads
set_option linter.unusedVariables false
set_option linter.unusedSimpArgs false

theorem lineS_of (bad : Nat) {c : Bytes} (b : Bytes) (h : (10 : UInt8) ∉ c) : lineS bad (c ++ 13 :: 10 :: b) = .ok c b := by
  unfold lineS
  rw [show c ++ 13 :: 10 :: b = (c ++ [13]) ++ 10 :: b by simp, cutL_of (by simp [h])]
  simp [inner]
theorem fieldsS_eq (bad : Nat) (t : Bytes) : fieldsS bad t = match lineS bad t with
    | .err e => .err e
    | .ok c b => if c = [] then .ok [] b else match hdrOf c with
      | none => .err bad
      | some h => (fieldsS bad b).map (h :: ·) := by
  unfold fieldsS
  rw [fieldsF]
  cases hl : lineS bad t with
  | err e => rfl
  | ok c b =>
    have h1 := lineS_len hl
    simp only
    rw [fieldsF_more bad (b.length + 1) t.length b (by omega) (by omega)]
    cases hdrOf c <;> rfl
theorem fields_put (bad : Nat) {c : Bytes} (b : Bytes) {h : HD} (h10 : (10 : UInt8) ∉ c) (hc : c ≠ []) (hh : hdrOf c = some h) : fieldsS bad (c ++ 13 :: 10 :: b) = (fieldsS bad b).map (h :: ·) := by
  rw [fieldsS_eq, lineS_of bad b h10]
  simp only
  rw [if_neg hc, hh]
theorem vals_cons (h : HD) (hs : List HD) (name : Bytes) : vals (h :: hs) name = if hit name h = true then h.2 :: vals hs name else vals hs name := by
  unfold vals
  rw [List.filter_cons]
  split <;> rfl
def hostB1 : Bytes := [72, 111, 115, 116, 58, 32, 98]
def hostB2 : Bytes := [104, 79, 83, 84, 58, 32, 99]
def longC1 : Bytes := [67, 111, 110, 116, 101, 110, 116, 45, 76, 101, 110, 103, 116, 104, 58, 32, 49]
def codeC2 : Bytes := [84, 114, 97, 110, 115, 102, 101, 114, 45, 69, 110, 99, 111, 100, 105, 110, 103, 58, 32, 99, 104, 117, 110, 107, 101, 100]
def longD1 : Bytes := [99, 111, 110, 116, 101, 110, 116, 45, 108, 101, 110, 103, 116, 104, 58, 32, 48]
def longD2 : Bytes := [67, 111, 110, 116, 101, 110, 116, 45, 108, 101, 110, 103, 116, 104, 58, 32, 48]
def foldB : Bytes := [32, 102, 111, 108, 100, 101, 100, 58, 32, 49]
def crlf : Bytes := [13, 10]
def moreB (k : Nat) : Bytes :=
  if k = 1 then longC1 ++ crlf ++ (codeC2 ++ crlf) else if k = 2 then longD1 ++ crlf ++ (longD2 ++ crlf) else if k = 3 then foldB ++ crlf else hostB1 ++ crlf ++ (hostB2 ++ crlf)
theorem more_len (k : Nat) : (moreB k).length ≤ 60 := by
  unfold moreB
  split
  · decide
  · split
    · decide
    · split <;> decide
/-- two headers ahead that do not go with any others -/
theorem two_put {c1 c2 : Bytes} {h1 h2 : HD} (k1 : hdrOf c1 = some h1) (k2 : hdrOf c2 = some h2) (n1 : (10 : UInt8) ∉ c1) (n2 : (10 : UInt8) ∉ c2) (e1 : c1 ≠ []) (e2 : c2 ≠ []) (t : Bytes) : fieldsS 281 (c1 ++ crlf ++ (c2 ++ crlf) ++ t) = ((fieldsS 281 t).map (h2 :: ·)).map (h1 :: ·) := by
  rw [show c1 ++ crlf ++ (c2 ++ crlf) ++ t = c1 ++ 13 :: 10 :: (c2 ++ 13 :: 10 :: t) by simp [crlf], fields_put 281 _ n1 e1 k1, fields_put 281 _ n2 e2 k2]
theorem judge_hosts (hs : List HD) (old : Bool) (h1 h2 : HD) (k1 : hit nHost h1 = true) (k2 : hit nHost h2 = true) : judgeS (h1 :: h2 :: hs) old = none := by
  unfold judgeS
  rw [if_neg]
  unfold headOk
  rw [vals_cons h1, if_pos k1, vals_cons h2, if_pos k2]
  simp
theorem judge_longs (hs : List HD) (old : Bool) (h1 h2 : HD) (k1 : hit nLong h1 = true) (k2 : hit nLong h2 = true) : judgeS (h1 :: h2 :: hs) old = none := by
  unfold judgeS
  rw [if_neg]
  unfold headOk
  rw [vals_cons h1 _ nLong, if_pos k1, vals_cons h2 _ nLong, if_pos k2]
  simp
theorem judge_both (hs : List HD) (old : Bool) (h1 h2 : HD) (k1 : hit nLong h1 = true) (k2 : hit nCode h2 = true) : judgeS (h1 :: h2 :: hs) old = none := by
  unfold judgeS
  rw [if_neg]
  unfold headOk
  have a : 1 ≤ (vals (h1 :: h2 :: hs) nLong).length := by rw [vals_cons, if_pos k1]; simp
  have b : 1 ≤ (vals (h1 :: h2 :: hs) nCode).length := by
    rw [vals_cons]
    split
    · simp
    · rw [vals_cons, if_pos k2]; simp
  intro h
  simp only [Bool.and_eq_true, decide_eq_true_eq] at h
  omega
theorem more_fields (k : Nat) (t : Bytes) {hs : List HD} {t2 : Bytes} (h : fieldsS 281 t = .ok hs t2) : fieldsS 281 (moreB k ++ t) = .err 281 ∨ ∃ h1 h2, fieldsS 281 (moreB k ++ t) = .ok (h1 :: h2 :: hs) t2 ∧ ∀ old, judgeS (h1 :: h2 :: hs) old = none := by
  unfold moreB
  split
  · refine .inr ⟨([67, 111, 110, 116, 101, 110, 116, 45, 76, 101, 110, 103, 116, 104], [49]), ([84, 114, 97, 110, 115, 102, 101, 114, 45, 69, 110, 99, 111, 100, 105, 110, 103], nChunked), ?_, fun old => judge_both hs old _ _ (by decide) (by decide)⟩
    rw [two_put (h1 := ([67, 111, 110, 116, 101, 110, 116, 45, 76, 101, 110, 103, 116, 104], [49])) (h2 := ([84, 114, 97, 110, 115, 102, 101, 114, 45, 69, 110, 99, 111, 100, 105, 110, 103], nChunked)) (by decide) (by decide) (by decide) (by decide) (by decide) (by decide), h]
    rfl
  · split
    · refine .inr ⟨([99, 111, 110, 116, 101, 110, 116, 45, 108, 101, 110, 103, 116, 104], [48]), ([67, 111, 110, 116, 101, 110, 116, 45, 108, 101, 110, 103, 116, 104], [48]), ?_, fun old => judge_longs hs old _ _ (by decide) (by decide)⟩
      rw [two_put (h1 := ([99, 111, 110, 116, 101, 110, 116, 45, 108, 101, 110, 103, 116, 104], [48])) (h2 := ([67, 111, 110, 116, 101, 110, 116, 45, 108, 101, 110, 103, 116, 104], [48])) (by decide) (by decide) (by decide) (by decide) (by decide) (by decide), h]
      rfl
    · split
      · refine .inl ?_
        rw [show foldB ++ crlf ++ t = foldB ++ 13 :: 10 :: t by simp [crlf], fieldsS_eq, lineS_of 281 t (by decide)]
        simp only
        rw [if_neg (by decide), show hdrOf foldB = none by decide]
      · refine .inr ⟨([72, 111, 115, 116], [98]), ([104, 79, 83, 84], [99]), ?_, fun old => judge_hosts hs old _ _ (by decide) (by decide)⟩
        rw [two_put (h1 := ([72, 111, 115, 116], [98])) (h2 := ([104, 79, 83, 84], [99])) (by decide) (by decide) (by decide) (by decide) (by decide) (by decide), h]
        rfl
/-- a request with these lines put in behind its first -/
theorem twice {raw : Bytes} {rq : Req} {n : Nat} (h : readAll raw = .ok (rq, n)) (hn : n ≤ 60000) : ∃ a b : Bytes, raw = a ++ 10 :: b ∧ (10 : UInt8) ∉ a ∧ a.length < n ∧ ∀ k, readAll (a ++ 10 :: (moreB k ++ b)) = .error 281 := by
  obtain ⟨h1, h2, _, h4, _⟩ := all_ok h
  obtain ⟨u, hu⟩ : ∃ u, u = raw.take n := ⟨_, rfl⟩
  rw [← hu] at h4
  have hul : u.length = n := by rw [hu, List.length_take]; omega
  have hraw : raw = u ++ raw.drop n := by rw [hu, List.take_append_drop]
  unfold readAll at h4
  rw [List.take_of_length_le (show u.length ≤ Most by unfold Most; omega)] at h4
  cases hr : readS u with
  | err e => rw [hr] at h4; cases h4
  | ok r t =>
    clear h4
    unfold readS at hr
    cases hl : lineS 280 u with
    | err e => rw [hl] at hr; cases hr
    | ok c t1 =>
      rw [hl] at hr
      simp only at hr
      have hl' := hl
      unfold lineS at hl'
      cases hc : cutL 10 u with
      | none => rw [hc] at hl'; cases hl'
      | some p =>
        obtain ⟨a, b⟩ := p
        rw [hc] at hl'
        simp only at hl'
        cases hi : inner a with
        | none => rw [hi] at hl'; cases hl'
        | some c' =>
          rw [hi] at hl'
          injection hl' with e1 e2
          subst e1 e2
          obtain ⟨hua, hna⟩ := cutL_some hc
          refine ⟨a, b ++ raw.drop n, hraw.trans (by rw [hua]; simp), hna, by rw [← hul, hua]; simp, fun k => ?_⟩
          have hl2 : ∀ z, lineS 280 (a ++ 10 :: z) = .ok c' z := by
            intro z
            unfold lineS
            rw [cutL_of hna]
            simp only
            rw [hi]
          have hs' : readS (a ++ 10 :: (moreB k ++ b)) = .err 281 := by
            unfold readS
            rw [hl2]
            simp only
            cases hf : firstS c' with
            | none => rw [hf] at hr; cases hr
            | some x =>
              obtain ⟨m, tg, old⟩ := x
              rw [hf] at hr
              simp only at hr ⊢
              cases hff : fieldsS 281 b with
              | err e => rw [hff] at hr; cases hr
              | ok hs t2 =>
                rcases more_fields k b hff with h7 | ⟨q1, q2, h7, h8⟩
                · rw [h7]
                · rw [h7]
                  simp only
                  rw [h8]
          have hal : a.length + b.length + 1 = n := by rw [← hul, hua]; simp; omega
          have hall : readAll (a ++ 10 :: (moreB k ++ b)) = .error 281 := by
            unfold readAll
            have := more_len k
            rw [List.take_of_length_le (by unfold Most; simp; omega), hs']
            simp
          have := stays_err hall (by decide) (raw.drop n)
          rw [← this]
          simp
end Go.Proofs.YtojemdggbcklkaaDoor.WireR
