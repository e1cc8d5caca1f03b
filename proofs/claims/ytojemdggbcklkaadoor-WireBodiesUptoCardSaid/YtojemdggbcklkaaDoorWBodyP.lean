/- A request with a body, by its length and in chunks. Plain Lean. -/
import Derived.Test.YtojemdggbcklkaaDoorWTwiceP
import Derived.Test.YtojemdggbcklkaaDoorWDec
namespace Go.Proofs.YtojemdggbcklkaaDoor.WireR
open Go.Proofs.YtojemdggbcklkaaDoor.Wire Go.Proofs.YtojemdggbcklkaaDoor.Strs Go.Proofs.YtojemdggbcklkaaDoor.Heads Go.Proofs.YtojemdggbcklkaaDoor.WireW
set_option linter.unusedVariables false
set_option linter.unusedSimpArgs false

/-! ### digits -/
def hexC (d : Nat) : UInt8 := if d < 10 then UInt8.ofNat (48 + d) else UInt8.ofNat (87 + d)
def hexD (n : Nat) : List UInt8 := if h : n < 16 then [hexC n] else hexD (n / 16) ++ [hexC (n % 16)]
termination_by n
decreasing_by omega
theorem hex_small {n : Nat} (h : n < 16) : hexD n = [hexC n] := by rw [hexD, dif_pos h]
theorem hex_big {n : Nat} (h : ¬ n < 16) : hexD n = hexD (n / 16) ++ [hexC (n % 16)] := by rw [hexD, dif_neg h]
theorem hexC_all : ((List.range 16).all fun d => decide (hexV (hexC d).toNat = d) && hexB (hexC d)) = true := by decide
theorem hexC_ok {d : Nat} (h : d < 16) : hexV (hexC d).toNat = d ∧ hexB (hexC d) = true := by
  have := List.all_eq_true.1 hexC_all d (List.mem_range.2 h)
  simpa using this
theorem hexS_snoc (l : Bytes) (c : UInt8) : hexS (l ++ [c]) = hexS l * 16 + hexV c.toNat := by unfold hexS; rw [List.foldl_append]; rfl
theorem hexD_ok : ∀ (m n : Nat), n ≤ m → hexS (hexD n) = n ∧ (hexD n).all hexB = true ∧ 1 ≤ (hexD n).length
  | m, n, h => by
    by_cases h16 : n < 16
    · rw [hex_small h16]
      have := hexC_ok h16
      refine ⟨?_, ?_, by simp⟩
      · show hexS ([] ++ [hexC n]) = n
        rw [hexS_snoc, this.1]; simp [hexS]
      · simp [this.2]
    · rw [hex_big h16]
      cases m with
      | zero => omega
      | succ m =>
        obtain ⟨a, b, c⟩ := hexD_ok m (n / 16) (by omega)
        have := hexC_ok (Nat.mod_lt n (show 0 < 16 by decide))
        refine ⟨?_, ?_, by simp⟩
        · rw [hexS_snoc, a, this.1]; omega
        · rw [List.all_append, b]; simp [this.2]
theorem hexD_len : ∀ (k n : Nat), n < 16 ^ (k + 1) → (hexD n).length ≤ k + 1
  | k, n, h => by
    by_cases h16 : n < 16
    · rw [hex_small h16]; simp
    · rw [hex_big h16]
      cases k with
      | zero => simp at h; omega
      | succ k =>
        have := hexD_len k (n / 16) (by rw [Nat.div_lt_iff_lt_mul (by decide)]; rw [Nat.pow_succ] at h; exact h)
        rw [List.length_append]; simp; exact this
theorem no_mem {p : UInt8 → Bool} {l : Bytes} (h : l.all p = true) {c : UInt8} (hc : p c = false) : c ∉ l := fun hm => by
  have := List.all_eq_true.1 h c hm
  rw [hc] at this; cases this
theorem numS_app (l m : Bytes) : numS (l ++ m) = m.foldl (fun n c => n * 10 + (c.toNat - 48)) (numS l) := by unfold numS; rw [List.foldl_append]
theorem digs_all : ((List.range 10).all fun d => decide ((UInt8.ofNat (48 + d)).toNat = 48 + d) && digB (UInt8.ofNat (48 + d))) = true := by decide
theorem dec_ok : ∀ (m n : Nat), n ≤ m → numS (Lib.decDigits n) = n ∧ (Lib.decDigits n).all digB = true ∧ 1 ≤ (Lib.decDigits n).length
  | m, n, h => by
    by_cases h10 : n < 10
    · rw [dec_small h10]
      have := List.all_eq_true.1 digs_all n (List.mem_range.2 h10)
      simp only [Bool.and_eq_true, decide_eq_true_eq] at this
      refine ⟨?_, ?_, by simp⟩
      · simp only [numS, List.foldl_cons, List.foldl_nil, this.1]; omega
      · rw [List.all_cons, this.2]; rfl
    · have hr : n % 10 < 10 := Nat.mod_lt n (by decide)
      rw [dec_big h10, dec_small hr]
      have := List.all_eq_true.1 digs_all (n % 10) (List.mem_range.2 hr)
      simp only [Bool.and_eq_true, decide_eq_true_eq] at this
      cases m with
      | zero => omega
      | succ m =>
        obtain ⟨a, b, c⟩ := dec_ok m (n / 10) (by omega)
        refine ⟨?_, ?_, by simp⟩
        · rw [numS_app, a]; simp only [List.foldl_cons, List.foldl_nil, this.1]; omega
        · rw [List.all_append, b, List.all_cons, this.2]; rfl
theorem trim_self : ∀ {l : Bytes}, (∀ c ∈ l, wsB c = false) → l.dropWhile wsB = l
  | [], _ => rfl
  | c :: l, h => by rw [List.dropWhile_cons, h c List.mem_cons_self]; rfl
theorem trim_pad {l : Bytes} (h : ∀ c ∈ l, wsB c = false) : trimL (32 :: l) = l := by
  unfold trimL
  rw [List.dropWhile_cons, show wsB 32 = true from rfl, if_pos rfl, trim_self h, trim_self (fun c hc => h c (List.mem_reverse.1 hc)), List.reverse_reverse]
/-! ### by its length -/
def L1 : Bytes := [80, 85, 84, 32, 47, 121, 32, 72, 84, 84, 80, 47, 49, 46, 49]
def Lh : Bytes := [104, 111, 115, 116, 58]
def nL : Bytes := [67, 111, 110, 116, 101, 110, 116, 45, 76, 69, 78, 71, 84, 72]
def Lt : Bytes := [84, 114, 97, 110, 115, 102, 101, 114, 45, 101, 110, 99, 111, 100, 105, 110, 103, 58, 32, 32, 99, 104, 117, 110, 107, 101, 68, 9]
def nT : Bytes := [84, 114, 97, 110, 115, 102, 101, 114, 45, 101, 110, 99, 111, 100, 105, 110, 103]
def hH : HD := ([104, 111, 115, 116], [])
def hT : HD := (nT, [99, 104, 117, 110, 107, 101, 68])
def s1 (body : Bytes) : Bytes := L1 ++ crlf ++ (Lh ++ crlf ++ (nL ++ [58, 32] ++ Lib.decDigits body.length ++ crlf ++ (crlf ++ body)))
def rq1 (body : Bytes) : Req := ⟨[80, 85, 84], [47, 121], [hH, (nL, Lib.decDigits body.length)], body, false⟩
theorem hdr_long (n : Nat) : hdrOf (nL ++ [58, 32] ++ Lib.decDigits n) = some (nL, Lib.decDigits n) := by
  obtain ⟨_, h2, _⟩ := dec_ok n n (Nat.le_refl _)
  unfold hdrOf
  rw [show nL ++ [58, 32] ++ Lib.decDigits n = nL ++ 58 :: (32 :: Lib.decDigits n) by simp, cutL_of (by decide)]
  simp only
  have hv : (32 :: Lib.decDigits n).all valB = true := by
    rw [List.all_eq_true]
    intro c hc
    rcases List.mem_cons.1 hc with rfl | hc
    · rfl
    · have := List.all_eq_true.1 h2 c hc
      unfold digB digN at this
      unfold valB valN
      simp only [Bool.and_eq_true, decide_eq_true_eq, Bool.or_eq_true, bne_iff_ne, beq_iff_eq] at this ⊢
      omega
  rw [if_pos ⟨by decide, by decide, hv⟩, trim_pad]
  intro c hc
  have := List.all_eq_true.1 h2 c hc
  unfold digB digN at this
  simp only [Bool.and_eq_true, decide_eq_true_eq] at this
  unfold wsB
  rw [Bool.or_eq_false_iff, beq_eq_false_iff_ne, beq_eq_false_iff_ne]
  exact ⟨fun e => by rw [e] at this; simp at this, fun e => by rw [e] at this; simp at this⟩
theorem dec_line (n : Nat) : (10 : UInt8) ∉ nL ++ [58, 32] ++ Lib.decDigits n := by
  obtain ⟨_, h2, _⟩ := dec_ok n n (Nat.le_refl _)
  rw [List.mem_append]
  rintro (h | h)
  · revert h; decide
  · exact no_mem h2 (c := 10) (by decide) h
theorem fields_end (bad : Nat) (t : Bytes) : fieldsS bad (crlf ++ t) = .ok [] t := by
  rw [fieldsS_eq, show crlf ++ t = [] ++ 13 :: 10 :: t from rfl, lineS_of bad t (by simp)]
  rfl
theorem hitL_host (x : Bytes) : hit nHost (nL, x) = false := rfl
theorem hitL_long (x : Bytes) : hit nLong (nL, x) = true := rfl
theorem hitL_code (x : Bytes) : hit nCode (nL, x) = false := rfl
theorem hitL_conn (x : Bytes) : hit nConn (nL, x) = false := rfl
theorem read1 (body : Bytes) (hb : body.length ≤ 30000) : readAll (s1 body) = .ok (rq1 body, (s1 body).length) := by
  obtain ⟨d1, d2, d3⟩ := dec_ok body.length body.length (Nat.le_refl _)
  have dl := dec_len body.length body.length (Nat.le_refl _)
  have hlen : (s1 body).length = 44 + (Lib.decDigits body.length).length + body.length := by
    unfold s1 L1 Lh nL crlf
    simp only [List.length_append, List.length_cons, List.length_nil]
    omega
  have hf : fieldsS 281 (Lh ++ crlf ++ (nL ++ [58, 32] ++ Lib.decDigits body.length ++ crlf ++ (crlf ++ body))) = .ok [hH, (nL, Lib.decDigits body.length)] body := by
    rw [show Lh ++ crlf ++ (nL ++ [58, 32] ++ Lib.decDigits body.length ++ crlf ++ (crlf ++ body)) = Lh ++ 13 :: 10 :: (nL ++ [58, 32] ++ Lib.decDigits body.length ++ crlf ++ (crlf ++ body)) by simp [crlf], fields_put 281 _ (h := hH) (by decide) (by decide) (by decide)]
    rw [show nL ++ [58, 32] ++ Lib.decDigits body.length ++ crlf ++ (crlf ++ body) = (nL ++ [58, 32] ++ Lib.decDigits body.length) ++ 13 :: 10 :: (crlf ++ body) by simp [crlf], fields_put 281 _ (dec_line _) (by simp [nL]) (hdr_long _), fields_end]
    rfl
  have hj : judgeS [hH, (nL, Lib.decDigits body.length)] false = some (.long body.length) := by
    have v1 : vals [hH, (nL, Lib.decDigits body.length)] nHost = [[]] := by
      rw [vals_cons, if_pos (by decide), vals_cons, if_neg (by rw [hitL_host]; decide)]
      rfl
    have v2 : vals [hH, (nL, Lib.decDigits body.length)] nLong = [Lib.decDigits body.length] := by
      rw [vals_cons, if_neg (by decide), vals_cons, if_pos (hitL_long _)]
      rfl
    have v3 : vals [hH, (nL, Lib.decDigits body.length)] nCode = [] := by
      rw [vals_cons, if_neg (by decide), vals_cons, if_neg (by rw [hitL_code]; decide)]
      rfl
    unfold judgeS
    rw [v1, v2, v3, if_pos (by simp [headOk])]
    simp only
    rw [if_pos ⟨by intro e; rw [e] at d3; simp at d3, d2⟩, d1]
  have he : endS [hH, (nL, Lib.decDigits body.length)] false = false := by
    have v4 : vals [hH, (nL, Lib.decDigits body.length)] nConn = [] := by
      rw [vals_cons, if_neg (by decide), vals_cons, if_neg (by rw [hitL_conn]; decide)]
      rfl
    unfold endS connS
    rw [v4]
    rfl
  have hr : readS (s1 body) = .ok (rq1 body) [] := by
    unfold readS
    rw [show lineS 280 (s1 body) = .ok L1 (Lh ++ crlf ++ (nL ++ [58, 32] ++ Lib.decDigits body.length ++ crlf ++ (crlf ++ body))) by
      unfold s1
      rw [show L1 ++ crlf ++ (Lh ++ crlf ++ (nL ++ [58, 32] ++ Lib.decDigits body.length ++ crlf ++ (crlf ++ body))) = L1 ++ 13 :: 10 :: (Lh ++ crlf ++ (nL ++ [58, 32] ++ Lib.decDigits body.length ++ crlf ++ (crlf ++ body))) by simp [crlf], lineS_of 280 _ (by decide)]]
    simp only
    rw [show firstS L1 = some ([80, 85, 84], [47, 121], false) by decide]
    simp only
    rw [hf]
    simp only
    rw [hj]
    simp only [bodyS]
    rw [if_neg (by rw [hlen]; omega), if_neg (by omega), List.take_of_length_le (Nat.le_refl _), List.drop_of_length_le (Nat.le_refl _)]
    simp only
    rw [he]
    rfl
  unfold readAll
  rw [List.take_of_length_le (by rw [hlen]; unfold Most; omega), hr]
  simp
/-! ### in chunks -/
theorem chunksS_eq (p : Nat) (t : Bytes) : chunksS p t = match lineS 282 t with
    | .err e => .err e
    | .ok c b => match sizeS c with
      | none => .err 282
      | some n => if n = 0 then (fieldsS 282 b).map fun _ => [] else
        if 65536 < p + (t.length - b.length) + n + 2 then .err 284 else
        if b.length < n + 2 then .err 283 else
        if (b.drop n).take 2 ≠ [13, 10] then .err 282 else
        (chunksS (p + (t.length - b.length) + n + 2) (b.drop (n + 2))).map (b.take n ++ ·) := by
  unfold chunksS
  rw [chunksF]
  cases hl : lineS 282 t with
  | err e => rfl
  | ok c b =>
    have h1 := lineS_len hl
    simp only
    cases hs : sizeS c with
    | none => rfl
    | some n =>
      simp only
      rw [chunksF_more ((b.drop (n + 2)).length + 1) t.length _ (b.drop (n + 2)) (by omega) (by rw [List.length_drop]; omega)]
/-- what stands for a part of a body -/
def Enc (e x : Bytes) : Prop := ∀ (p : Nat) (rest : Bytes), p + e.length ≤ 65536 → chunksS p (e ++ rest) = (chunksS (p + e.length) rest).map (x ++ ·)
theorem Enc.nil : Enc [] [] := fun p rest _ => by
  simp only [List.nil_append, List.length_nil, Nat.add_zero]
  cases chunksS p rest <;> rfl
theorem Enc.join {e x e2 x2 : Bytes} (h : Enc e x) (h2 : Enc e2 x2) : Enc (e ++ e2) (x ++ x2) := fun p rest hp => by
  rw [List.length_append] at hp
  rw [List.append_assoc, h p (e2 ++ rest) (by omega), h2 (p + e.length) rest (by omega), List.length_append, ← Nat.add_assoc]
  cases chunksS (p + e.length + e2.length) rest <;> simp [Res.map]
theorem Enc.one {c x : Bytes} (hc : sizeS c = some x.length) (h10 : (10 : UInt8) ∉ c) (hx : x ≠ []) : Enc (c ++ crlf ++ (x ++ crlf)) x := fun p rest hp => by
  have hxl : x.length ≠ 0 := by intro e; exact hx (List.length_eq_zero_iff.1 e)
  rw [chunksS_eq, show c ++ crlf ++ (x ++ crlf) ++ rest = c ++ 13 :: 10 :: (x ++ crlf ++ rest) by simp [crlf], lineS_of 282 _ h10]
  simp only
  rw [hc]
  simp only
  have hl : (c ++ 13 :: 10 :: (x ++ crlf ++ rest)).length - (x ++ crlf ++ rest).length = c.length + 2 := by
    simp only [List.length_append, List.length_cons]
    omega
  have hl2 : (c ++ crlf ++ (x ++ crlf)).length = c.length + 2 + x.length + 2 := by simp only [crlf, List.length_append, List.length_cons, List.length_nil]; omega
  rw [hl, if_neg hxl]
  rw [hl2] at hp ⊢
  rw [if_neg (by omega), if_neg (by simp [crlf])]
  have hd : (x ++ crlf ++ rest).drop x.length = crlf ++ rest := by rw [List.append_assoc, List.drop_left]
  have hd2 : (x ++ crlf ++ rest).drop (x.length + 2) = rest := by rw [← List.drop_drop, hd]; rfl
  have ht : (x ++ crlf ++ rest).take x.length = x := by rw [List.append_assoc, List.take_left]
  rw [hd, hd2, ht, if_neg (by simp [crlf])]
  rw [show p + (c.length + 2) + x.length + 2 = p + (c.length + 2 + x.length + 2) by omega]
theorem size_hex {n : Nat} (hn : n < 65536) : sizeS (hexD n ++ [59, 32, 120]) = some n ∧ sizeS (48 :: hexD n) = some n := by
  obtain ⟨a, b, c⟩ := hexD_ok n n (Nat.le_refl _)
  have d := hexD_len 3 n hn
  have e : (59 : UInt8) ∉ hexD n := no_mem b (by decide)
  constructor
  · unfold sizeS
    rw [show hexD n ++ [59, 32, 120] = hexD n ++ 59 :: [32, 120] from rfl, cutL_of e]
    simp only
    rw [if_pos ⟨c, by omega, b, by decide⟩, a]
  · unfold sizeS
    rw [cutL_not (by simp [e])]
    simp only
    rw [if_pos ⟨by simp, by simp; omega, by rw [List.all_cons, b]; decide⟩]
    have : hexS (48 :: hexD n) = hexS (hexD n) := by unfold hexS; rw [List.foldl_cons]; rfl
    rw [this, a]
theorem hex_line {n : Nat} : (10 : UInt8) ∉ hexD n ++ [59, 32, 120] ∧ (10 : UInt8) ∉ (48 : UInt8) :: hexD n := by
  obtain ⟨a, b, c⟩ := hexD_ok n n (Nat.le_refl _)
  have e : (10 : UInt8) ∉ hexD n := no_mem b (by decide)
  exact ⟨by simp [e], by simp [e]⟩
theorem Enc.cut {x : Bytes} (hx : x ≠ []) (hl : x.length < 65536) : Enc (hexD x.length ++ [59, 32, 120] ++ crlf ++ (x ++ crlf)) x := Enc.one (size_hex hl).1 hex_line.1 hx
theorem Enc.tail {x : Bytes} (hx : x ≠ []) (hl : x.length < 65536) : Enc ((48 :: hexD x.length) ++ crlf ++ (x ++ crlf)) x := Enc.one (size_hex hl).2 hex_line.2 hx
def fin2 : Bytes := [48, 48, 13, 10, 72, 111, 115, 116, 58, 32, 122, 13, 10, 13, 10]
theorem fin_chunks (p : Nat) : chunksS p fin2 = .ok [] [] := by
  rw [chunksS_eq]
  rfl
def head2 : Bytes := L1 ++ crlf ++ (Lh ++ crlf ++ (Lt ++ crlf ++ crlf))
def rq2 (body : Bytes) : Req := ⟨[80, 85, 84], [47, 121], [hH, hT], body, false⟩
theorem read2 {e body : Bytes} (he : Enc e body) (hl : e.length ≤ 65000) : readAll (head2 ++ e ++ fin2) = .ok (rq2 body, (head2 ++ e ++ fin2).length) := by
  have hh : head2.length = 56 := by decide
  have hlen : (head2 ++ e ++ fin2).length = 56 + e.length + 15 := by rw [List.length_append, List.length_append, hh]; rfl
  have hs : head2 ++ e ++ fin2 = L1 ++ 13 :: 10 :: (Lh ++ 13 :: 10 :: (Lt ++ 13 :: 10 :: (crlf ++ (e ++ fin2)))) := by simp [head2, crlf]
  have hf : fieldsS 281 (Lh ++ 13 :: 10 :: (Lt ++ 13 :: 10 :: (crlf ++ (e ++ fin2)))) = .ok [hH, hT] (e ++ fin2) := by
    rw [fields_put 281 _ (h := hH) (by decide) (by decide) (by decide), fields_put 281 _ (h := hT) (by decide) (by decide) (by decide), fields_end]
    rfl
  have hb : bodyS .chunked ((head2 ++ e ++ fin2).length - (e ++ fin2).length) (e ++ fin2) = .ok body [] := by
    have hp : (head2 ++ e ++ fin2).length - (e ++ fin2).length = 56 := by rw [hlen, List.length_append]; simp [fin2]
    rw [hp]
    show chunksS 56 (e ++ fin2) = _
    rw [he 56 fin2 (by omega), fin_chunks]
    simp [Res.map]
  have hr : readS (head2 ++ e ++ fin2) = .ok (rq2 body) [] := by
    unfold readS
    rw [show lineS 280 (head2 ++ e ++ fin2) = .ok L1 (Lh ++ 13 :: 10 :: (Lt ++ 13 :: 10 :: (crlf ++ (e ++ fin2)))) by rw [hs, lineS_of 280 _ (by decide)]]
    simp only
    rw [show firstS L1 = some ([80, 85, 84], [47, 121], false) by decide]
    simp only
    rw [hf]
    simp only
    rw [show judgeS [hH, hT] false = some .chunked by rfl]
    simp only
    rw [hb]
    simp only
    rw [show endS [hH, hT] false = false by rfl]
    rfl
  unfold readAll
  rw [List.take_of_length_le (by rw [hlen]; unfold Most; omega), hr]
  simp
end Go.Proofs.YtojemdggbcklkaaDoor.WireR
