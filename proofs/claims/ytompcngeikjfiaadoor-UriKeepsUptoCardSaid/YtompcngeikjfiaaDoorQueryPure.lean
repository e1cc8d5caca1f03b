/- Queries in plain words. No program. -/
import Derived.Test.YtompcngeikjfiaaDoorUriPure
import Derived.Test.YtompcngeikjfiaaDoorSplit
import Derived.Test.YtompcngeikjfiaaDoorUri5
namespace Go.Proofs.YtompcngeikjfiaaDoor.Uri
open Go.RowKit Go.Proofs.YtompcngeikjfiaaDoor.Mem Go.Proofs.YtompcngeikjfiaaDoor.Strs Go.Proofs.YtompcngeikjfiaaDoor.Split

theorem unescF_len (plus : Bool) : ∀ (f : Nat) (l r : List UInt8), unescF plus f l = some r → r.length ≤ l.length
  | 0, l, r, h => by
    obtain rfl : [] = r := by simpa [unescF] using h
    simp
  | f + 1, [], r, h => by
    obtain rfl : [] = r := by simpa [unescF] using h
    simp
  | f + 1, c :: t, r, h => by
    unfold unescF at h
    by_cases hc : c = 37
    · rw [if_pos hc] at h
      rcases t with _ | ⟨d, _ | ⟨e, t'⟩⟩
      · cases h
      · cases h
      · simp only at h
        split at h
        · cases h
        · cases hu : unescF plus f t' with
          | none => rw [hu] at h; cases h
          | some q =>
            rw [hu] at h
            obtain rfl : hexs d e :: q = r := by simpa using h
            have := unescF_len plus f t' q hu
            simp; omega
    · rw [if_neg hc] at h
      cases hu : unescF plus f t with
      | none => rw [hu] at h; cases h
      | some q =>
        rw [hu] at h
        obtain rfl : conv plus c :: q = r := by simpa using h
        have := unescF_len plus f t q hu
        simp; omega
theorem unesc_len {plus : Bool} {l r : List UInt8} (h : unesc plus l = some r) : r.length ≤ l.length := unescF_len plus _ l r h
def cutR (c : UInt8) (l : List UInt8) : List UInt8 × List UInt8 := match cutL c l with | none => (l, []) | some p => p
theorem cutR_len (c : UInt8) (l : List UInt8) : (cutR c l).1.length ≤ l.length ∧ (cutR c l).2.length ≤ l.length := by
  unfold cutR
  cases h : cutL c l with
  | none => simp
  | some p =>
    have := congrArg List.length (cutL_some (a := p.1) (b := p.2) h).1
    rw [List.length_append, List.length_cons] at this
    exact ⟨by simp only; omega, by simp only; omega⟩
def pairOf (l : List UInt8) : Option PD :=
  match unesc true (cutR 61 l).1, unesc true (cutR 61 l).2 with
  | some n, some v => some (n, v)
  | _, _ => none
theorem pairOf_some {l n v : List UInt8} (h1 : unesc true (cutR 61 l).1 = some n) (h2 : unesc true (cutR 61 l).2 = some v) : pairOf l = some (n, v) := by unfold pairOf; rw [h1, h2]
theorem pairOf_none1 {l : List UInt8} (h1 : unesc true (cutR 61 l).1 = none) : pairOf l = none := by unfold pairOf; rw [h1]
theorem pairOf_none2 {l : List UInt8} (h1 : unesc true (cutR 61 l).2 = none) : pairOf l = none := by
  unfold pairOf; rw [h1]
  cases unesc true (cutR 61 l).1 <;> rfl
theorem pairOf_len {l : List UInt8} {p : PD} (h : pairOf l = some p) : p.1.length ≤ l.length ∧ p.2.length ≤ l.length := by
  unfold pairOf at h
  cases h1 : unesc true (cutR 61 l).1 with
  | none => rw [h1] at h; cases h
  | some n =>
    cases h2 : unesc true (cutR 61 l).2 with
    | none => rw [h1, h2] at h; cases h
    | some v =>
      rw [h1, h2] at h
      obtain rfl : (n, v) = p := by simpa using h
      have := unesc_len h1
      have := unesc_len h2
      have := cutR_len 61 l
      exact ⟨by simp only; omega, by simp only; omega⟩
def queryP : List (List UInt8) → Option (List PD)
  | [] => some []
  | x :: r => if x = [] then queryP r else match pairOf x with | none => none | some h => (queryP r).map (h :: ·)
theorem queryP_app : ∀ (a b : List (List UInt8)), queryP (a ++ b) = match queryP a, queryP b with | some x, some y => some (x ++ y) | _, _ => none
  | [], b => by
    rw [List.nil_append]
    cases queryP b <;> rfl
  | x :: r, b => by
    rw [List.cons_append, queryP, queryP, queryP_app r b]
    by_cases hx : x = []
    · rw [if_pos hx, if_pos hx]
    · rw [if_neg hx, if_neg hx]
      cases pairOf x with
      | none => cases queryP b <;> rfl
      | some h => cases queryP r <;> cases queryP b <;> rfl
theorem queryP_skip {a : List (List UInt8)} : queryP (a ++ [[]]) = queryP a := by
  rw [queryP_app]
  show (match queryP a, some [] with | some x, some y => some (x ++ y) | _, _ => none) = _
  cases queryP a <;> simp
theorem queryP_one {x : List UInt8} (h : x ≠ []) : queryP [x] = (pairOf x).map (fun p => [p]) := by
  rw [queryP, if_neg h]
  cases pairOf x <;> rfl
theorem queryP_bad {a : List (List UInt8)} {x : List UInt8} (h : x ≠ []) (hp : pairOf x = none) : queryP (a ++ [x]) = none := by
  rw [queryP_app, queryP_one h, hp]
  cases queryP a <;> rfl
theorem queryP_more {a : List (List UInt8)} {x : List UInt8} {hs : List PD} {p : PD} (h : x ≠ []) (ha : queryP a = some hs) (hp : pairOf x = some p) : queryP (a ++ [x]) = some (hs ++ [p]) := by
  rw [queryP_app, queryP_one h, hp, ha]
  rfl
theorem queryP_stop {a b : List (List UInt8)} (h : queryP a = none) (hb : a <+: b) : queryP b = none := by
  obtain ⟨r, rfl⟩ := hb
  rw [queryP_app, h]
theorem queryP_len : ∀ {a : List (List UInt8)} {hs : List PD}, queryP a = some hs → hs.length ≤ a.length
  | [], hs, h => by
    obtain rfl : [] = hs := by simpa [queryP] using h
    simp
  | x :: r, hs, h => by
    rw [queryP] at h
    by_cases hx : x = []
    · rw [if_pos hx] at h
      have := queryP_len h
      simp; omega
    · rw [if_neg hx] at h
      cases hp : pairOf x with
      | none => rw [hp] at h; cases h
      | some p =>
        cases hr : queryP r with
        | none => rw [hp, hr] at h; cases h
        | some q =>
          rw [hp, hr] at h
          obtain rfl : p :: q = hs := by simpa using h
          have := queryP_len hr
          simp; omega
theorem queryP_ok (n : Nat) : ∀ {a : List (List UInt8)} {hs : List PD}, queryP a = some hs → (∀ x ∈ a, x.length ≤ n) → ∀ p ∈ hs, p.1.length ≤ n ∧ p.2.length ≤ n
  | [], hs, h, _ => by
    obtain rfl : [] = hs := by simpa [queryP] using h
    simp
  | x :: r, hs, h, hn => by
    rw [queryP] at h
    have hn' : ∀ y ∈ r, y.length ≤ n := fun y hy => hn y (List.mem_cons_of_mem _ hy)
    by_cases hx : x = []
    · rw [if_pos hx] at h
      exact queryP_ok n h hn'
    · rw [if_neg hx] at h
      cases hp : pairOf x with
      | none => rw [hp] at h; cases h
      | some p =>
        cases hr : queryP r with
        | none => rw [hp, hr] at h; cases h
        | some q =>
          rw [hp, hr] at h
          obtain rfl : p :: q = hs := by simpa using h
          intro p' hp'
          rcases List.mem_cons.1 hp' with rfl | hq
          · have := pairOf_len hp
            have := hn x List.mem_cons_self
            omega
          · exact queryP_ok n hr hn' p' hq
theorem splitL_ne (c : UInt8) : ∀ l, splitL c l ≠ []
  | [] => by simp [splitL]
  | x :: r => by
    rw [splitL]
    split
    · simp
    · split <;> simp
theorem splitL_len (c : UInt8) : ∀ l, (splitL c l).length ≤ l.length + 1
  | [] => by simp [splitL]
  | x :: r => by
    have := splitL_len c r
    rw [splitL]
    split
    · simp; omega
    · split
      · simp
      · rename_i h t e
        rw [e] at this
        simp at this ⊢; omega
theorem splitL_piece (c : UInt8) : ∀ l, ∀ x ∈ splitL c l, x.length ≤ l.length
  | [], x, h => by
    obtain rfl : x = [] := by simpa [splitL] using h
    simp
  | y :: r, x, h => by
    have ih := splitL_piece c r
    rw [splitL] at h
    split at h
    · rcases List.mem_cons.1 h with rfl | hx
      · simp
      · have := ih x hx; simp; omega
    · split at h
      · obtain rfl : x = [y] := by simpa using h
        simp
      · rename_i hd tl e
        rcases List.mem_cons.1 h with rfl | hx
        · have := ih hd (by rw [e]; exact List.mem_cons_self)
          simp; omega
        · have := ih x (by rw [e]; exact List.mem_cons_of_mem _ hx)
          simp; omega
def queryL (l : List UInt8) : Option (List PD) := queryP (splitL 38 l)
end Go.Proofs.YtompcngeikjfiaaDoor.Uri
