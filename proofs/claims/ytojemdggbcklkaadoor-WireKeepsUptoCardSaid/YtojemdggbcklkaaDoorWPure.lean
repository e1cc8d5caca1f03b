/- HTTP/1.1 requests in plain words: what is read of a list of bytes. Plain Lean. -/
import Derived.Test.YtojemdggbcklkaaDoorCut
namespace Go.Proofs.YtojemdggbcklkaaDoor.Heads
set_option linter.unusedVariables false
set_option linter.unusedSimpArgs false
def lowN (c : Nat) : Nat := if 65 ≤ c ∧ c ≤ 90 then c + 32 else c
def lowB (c : UInt8) : UInt8 := UInt8.ofNat (lowN c.toNat)
theorem lowN_lt {c : Nat} (h : c < 256) : lowN c < 256 := by unfold lowN; split <;> omega
theorem lowB_toNat (c : UInt8) : (lowB c).toNat = lowN c.toNat := by unfold lowB; rw [UInt8.toNat_ofNat']; exact Nat.mod_eq_of_lt (lowN_lt c.toNat_lt)
def low (l : List UInt8) : List UInt8 := l.map lowB
abbrev HD := List UInt8 × List UInt8
def hit (name : List UInt8) (h : HD) : Bool := decide (low h.1 = low name)
def vals (hs : List HD) (name : List UInt8) : List (List UInt8) := (hs.filter (hit name)).map (·.2)
def headS (l : List (List UInt8)) : List UInt8 := l.headD []
def headB (l : List (List UInt8)) : Bool := !l.isEmpty
theorem vals_take {hs : List HD} {name : List UInt8} {k : Nat} (h : k < hs.length) : vals (hs.take (k + 1)) name = vals (hs.take k) name ++ if hit name hs[k] then [hs[k].2] else [] := by
  unfold vals
  rw [List.take_succ_eq_append_getElem h, List.filter_append, List.map_append]
  congr 1
  cases hh : hit name hs[k] <;> simp [hh]
theorem vals_at {hs : List HD} {name : List UInt8} {k : Nat} (h : k < hs.length) (h0 : vals (hs.take k) name = []) (hh : hit name hs[k] = true) : ∃ r, vals hs name = hs[k].2 :: r := by
  refine ⟨vals (hs.drop (k + 1)) name, ?_⟩
  have e : hs = hs.take k ++ hs[k] :: hs.drop (k + 1) := by rw [← List.drop_eq_getElem_cons h, List.take_append_drop]
  have : vals hs name = vals (hs.take k) name ++ vals (hs[k] :: hs.drop (k + 1)) name := by
    unfold vals
    rw [← List.map_append, ← List.filter_append, ← e]
  rw [this, h0, List.nil_append]
  unfold vals
  rw [List.filter_cons_of_pos hh]
  rfl
theorem vals_len (hs : List HD) (name : List UInt8) : (vals hs name).length ≤ hs.length := by unfold vals; rw [List.length_map]; exact List.length_filter_le _ _
end Go.Proofs.YtojemdggbcklkaaDoor.Heads
namespace Go.Proofs.YtojemdggbcklkaaDoor.Wire
open Go.Proofs.YtojemdggbcklkaaDoor.Strs Go.Proofs.YtojemdggbcklkaaDoor.Split Go.Proofs.YtojemdggbcklkaaDoor.Heads
set_option linter.unusedVariables false
set_option linter.unusedSimpArgs false
abbrev Bytes := List UInt8

/-! ### bytes -/
def tokN (c : Nat) : Bool := (97 ≤ c && c ≤ 122) || (65 ≤ c && c ≤ 90) || (48 ≤ c && c ≤ 57) || [33, 35, 36, 37, 38, 39, 42, 43, 45, 46, 94, 95, 96, 124, 126].contains c
def valN (c : Nat) : Bool := c == 9 || (32 ≤ c && c != 127)
def visN (c : Nat) : Bool := 33 ≤ c && c ≤ 126
def digN (c : Nat) : Bool := 48 ≤ c && c ≤ 57
def hexV (c : Nat) : Nat := if 48 ≤ c ∧ c ≤ 57 then c - 48 else if 97 ≤ c ∧ c ≤ 102 then c - 97 + 10 else if 65 ≤ c ∧ c ≤ 70 then c - 65 + 10 else 16
def tokB (c : UInt8) : Bool := tokN c.toNat
def valB (c : UInt8) : Bool := valN c.toNat
def visB (c : UInt8) : Bool := visN c.toNat
def digB (c : UInt8) : Bool := digN c.toNat
def hexB (c : UInt8) : Bool := hexV c.toNat != 16
def wsB (c : UInt8) : Bool := c == 32 || c == 9
def trimL (l : Bytes) : Bytes := ((l.dropWhile wsB).reverse.dropWhile wsB).reverse

/-! ### parsing -/
/-- ok: a thing, and the bytes behind it; err: the document's number of the error -/
inductive Res (α : Type) where
  | ok (x : α) (r : Bytes)
  | err (e : Nat)
def Res.map {α β : Type} (f : α → β) : Res α → Res β
  | .ok x r => .ok (f x) r
  | .err e => .err e
/-- the content of a line without its last byte (10): none: it isn't right -/
def inner (a : Bytes) : Option Bytes := if a.getLast? = some 13 then some a.dropLast else none
/-- a line; bad: the error of a wrong one -/
def lineS (bad : Nat) (t : Bytes) : Res Bytes :=
  match cutL 10 t with
  | none => .err 283
  | some (a, b) => match inner a with
    | none => .err bad
    | some c => .ok c b
def hdrOf (c : Bytes) : Option HD :=
  match cutL 58 c with
  | none => none
  | some (n, v) => if n ≠ [] ∧ n.all tokB = true ∧ v.all valB = true then some (n, trimL v) else none
def fieldsF (bad : Nat) : Nat → Bytes → Res (List HD)
  | 0, _ => .err 283
  | f + 1, t => match lineS bad t with
    | .err e => .err e
    | .ok c b => if c = [] then .ok [] b else match hdrOf c with
      | none => .err bad
      | some h => (fieldsF bad f b).map (h :: ·)
def fieldsS (bad : Nat) (t : Bytes) : Res (List HD) := fieldsF bad (t.length + 1) t
def v11 : Bytes := [72, 84, 84, 80, 47, 49, 46, 49]
def v10 : Bytes := [72, 84, 84, 80, 47, 49, 46, 48]
def firstS (c : Bytes) : Option (Bytes × Bytes × Bool) :=
  match cutL 32 c with
  | none => none
  | some (m, r) => match cutL 32 r with
    | none => none
    | some (t, v) => if m ≠ [] ∧ m.all tokB = true ∧ t ≠ [] ∧ t.all visB = true ∧ (v = v11 ∨ v = v10) then some (m, t, decide (v = v10)) else none
def numS (l : Bytes) : Nat := l.foldl (fun n c => n * 10 + (c.toNat - 48)) 0
def hexS (l : Bytes) : Nat := l.foldl (fun n c => n * 16 + hexV c.toNat) 0
/-- a chunk's number -/
def sizeS (c : Bytes) : Option Nat :=
  match cutL 59 c with
  | none => if 1 ≤ c.length ∧ c.length ≤ 8 ∧ c.all hexB = true then some (hexS c) else none
  | some (d, x) => if 1 ≤ d.length ∧ d.length ≤ 8 ∧ d.all hexB = true ∧ x.all valB = true then some (hexS d) else none
/-- a body in chunks; p: the place of t in the request -/
def chunksF : Nat → Nat → Bytes → Res Bytes
  | 0, _, _ => .err 283
  | f + 1, p, t => match lineS 282 t with
    | .err e => .err e
    | .ok c b => match sizeS c with
      | none => .err 282
      | some n => if n = 0 then (fieldsS 282 b).map fun _ => [] else
        let q := p + (t.length - b.length)
        if 65536 < q + n + 2 then .err 284 else
        if b.length < n + 2 then .err 283 else
        if (b.drop n).take 2 ≠ [13, 10] then .err 282 else
        (chunksF f (q + n + 2) (b.drop (n + 2))).map (b.take n ++ ·)
def chunksS (p : Nat) (t : Bytes) : Res Bytes := chunksF (t.length + 1) p t
inductive Shape where
  | none
  | long (n : Nat)
  | chunked
def nHost : Bytes := [104, 111, 115, 116]
def nLong : Bytes := [99, 111, 110, 116, 101, 110, 116, 45, 108, 101, 110, 103, 116, 104]
def nCode : Bytes := [116, 114, 97, 110, 115, 102, 101, 114, 45, 101, 110, 99, 111, 100, 105, 110, 103]
def nChunked : Bytes := [99, 104, 117, 110, 107, 101, 100]
def nConn : Bytes := [99, 111, 110, 110, 101, 99, 116, 105, 111, 110]
def nClose : Bytes := [99, 108, 111, 115, 101]
def nKeep : Bytes := [107, 101, 101, 112, 45, 97, 108, 105, 118, 101]
/-- are the headers on the host and on the body right? -/
def headOk (host long code : List Bytes) (old : Bool) : Bool :=
  decide (host.length ≤ 1) && (!host.isEmpty || old) && decide (long.length ≤ 1) && decide (code.length ≤ 1) && decide (long.length + code.length ≤ 1) && (code.isEmpty || (!old && decide (low (headS code) = nChunked)))
def judgeS (hs : List HD) (old : Bool) : Option Shape :=
  if headOk (vals hs nHost) (vals hs nLong) (vals hs nCode) old = true then
    match vals hs nLong with
    | d :: _ => if d ≠ [] ∧ d.all digB = true then some (.long (numS d)) else none
    | [] => if (vals hs nCode).isEmpty = true then some .none else some .chunked
  else none
def bodyS (sh : Shape) (p : Nat) (t : Bytes) : Res Bytes :=
  match sh with
  | .none => .ok [] t
  | .long n => if 65536 < p + n then .err 284 else if t.length < n then .err 283 else .ok (t.take n) (t.drop n)
  | .chunked => chunksS p t
def connS (hs : List HD) (name : Bytes) : Bool := (vals hs nConn).any fun v => (splitL 44 v).any fun p => decide (low (trimL p) = name)
def endS (hs : List HD) (old : Bool) : Bool := connS hs nClose || (old && !connS hs nKeep)
structure Req where
  method : Bytes
  target : Bytes
  headers : List HD
  body : Bytes
  close : Bool
def readS (s : Bytes) : Res Req :=
  match lineS 280 s with
  | .err e => .err e
  | .ok c t1 => match firstS c with
    | none => .err 280
    | some (m, tg, old) => match fieldsS 281 t1 with
      | .err e => .err e
      | .ok hs t2 => match judgeS hs old with
        | none => .err 281
        | some sh => match bodyS sh (s.length - t2.length) t2 with
          | .err e => .err e
          | .ok body t3 => .ok ⟨m, tg, hs, body, endS hs old⟩ t3
def Most : Nat := 65536
/-- a request, the bytes that it takes up; or the error -/
def readAll (raw : Bytes) : Except Nat (Req × Nat) :=
  match readS (raw.take Most) with
  | .err e => .error (if e = 283 ∧ Most < raw.length then 284 else e)
  | .ok r t => .ok (r, (raw.take Most).length - t.length)

/-! ### words on them -/
theorem cutL_len {c : UInt8} {l a b : Bytes} (h : cutL c l = some (a, b)) : l.length = a.length + 1 + b.length := by
  rw [(cutL_some h).1]; simp; omega
theorem lineS_len {bad : Nat} {t c b : Bytes} (h : lineS bad t = .ok c b) : b.length < t.length := by
  unfold lineS at h
  cases hc : cutL 10 t with
  | none => rw [hc] at h; cases h
  | some p =>
    obtain ⟨a, b'⟩ := p
    rw [hc] at h
    simp only at h
    cases hi : inner a with
    | none => rw [hi] at h; cases h
    | some c' =>
      rw [hi] at h
      injection h with h1 h2
      subst h2
      have := cutL_len hc
      omega
theorem fieldsF_more (bad : Nat) : ∀ (f g : Nat) (t : Bytes), t.length < f → f ≤ g → fieldsF bad g t = fieldsF bad f t
  | 0, _, _, h, _ => by omega
  | f + 1, 0, _, _, h => by omega
  | f + 1, g + 1, t, h1, h2 => by
    unfold fieldsF
    cases hl : lineS bad t with
    | err e => rfl
    | ok c b =>
      have := lineS_len hl
      simp only
      rw [fieldsF_more bad f g b (by omega) (by omega)]
theorem fieldsS_eq (bad : Nat) (t : Bytes) : fieldsS bad t = match lineS bad t with
    | .err e => .err e
    | .ok c b => if c = [] then .ok [] b else match hdrOf c with
      | none => .err bad
      | some h => (fieldsS bad b).map (h :: ·) := by
  rw [fieldsS, fieldsF]
  cases hl : lineS bad t with
  | err e => rfl
  | ok c b =>
    have := lineS_len hl
    simp only
    rw [fieldsF_more bad (b.length + 1) t.length b (by omega) (by omega)]
    rfl
theorem Res.map_map {α β γ : Type} (f : α → β) (g : β → γ) (r : Res α) : (r.map f).map g = r.map (g ∘ f) := by cases r <;> rfl
theorem fieldsS_len {bad : Nat} : ∀ (n : Nat) {t : Bytes} {hs : List HD} {b : Bytes}, t.length ≤ n → fieldsS bad t = .ok hs b → b.length < t.length
  | n, t, hs, b, hn, h => by
    rw [fieldsS_eq] at h
    cases hl : lineS bad t with
    | err e => rw [hl] at h; cases h
    | ok c b' =>
      rw [hl] at h
      have h0 := lineS_len hl
      simp only at h
      split at h
      · injection h with h1 h2; subst h2; exact h0
      · cases hh : hdrOf c with
        | none => rw [hh] at h; cases h
        | some x =>
          rw [hh] at h
          simp only at h
          cases hf : fieldsS bad b' with
          | err e => rw [hf] at h; cases h
          | ok hs' b2 =>
            rw [hf] at h
            injection h with h1 h2
            subst h2
            cases n with
            | zero => omega
            | succ n => have := fieldsS_len n (by omega) hf; omega
theorem chunksF_more : ∀ (f g p : Nat) (t : Bytes), t.length < f → f ≤ g → chunksF g p t = chunksF f p t
  | 0, _, _, _, h, _ => by omega
  | f + 1, 0, _, _, _, h => by omega
  | f + 1, g + 1, p, t, h1, h2 => by
    unfold chunksF
    cases hl : lineS 282 t with
    | err e => rfl
    | ok c b =>
      have := lineS_len hl
      simp only
      cases hz : sizeS c with
      | none => rfl
      | some n =>
        simp only
        rw [chunksF_more f g _ (b.drop (n + 2)) (by rw [List.length_drop]; omega) (by omega)]
theorem chunksS_eq (p : Nat) (t : Bytes) : chunksS p t = match lineS 282 t with
    | .err e => .err e
    | .ok c b => match sizeS c with
      | none => .err 282
      | some n => if n = 0 then (fieldsS 282 b).map fun _ => [] else
        if 65536 < p + (t.length - b.length) + n + 2 then .err 284 else
        if b.length < n + 2 then .err 283 else
        if (b.drop n).take 2 ≠ [13, 10] then .err 282 else
        (chunksS (p + (t.length - b.length) + n + 2) (b.drop (n + 2))).map (b.take n ++ ·) := by
  rw [chunksS, chunksF]
  cases hl : lineS 282 t with
  | err e => rfl
  | ok c b =>
    have := lineS_len hl
    simp only
    cases hz : sizeS c with
    | none => rfl
    | some n =>
      simp only
      rw [chunksF_more ((b.drop (n + 2)).length + 1) t.length _ (b.drop (n + 2)) (by omega) (by rw [List.length_drop]; omega)]
      rfl
end Go.Proofs.YtojemdggbcklkaaDoor.Wire
