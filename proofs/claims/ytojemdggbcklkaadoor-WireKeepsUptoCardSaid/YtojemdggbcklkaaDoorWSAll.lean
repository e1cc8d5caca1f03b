/- weirlaw28.sameAll: two lists of requests. (Printed by mkwsall.py.) -/
import Derived.Test.YtojemdggbcklkaaDoorLawStays

/- A feed: what comes of a stream, at once and in pieces. Plain Lean. (imports LawStays for stays_ok, stays_err, all_ok.) -/
namespace Go.Proofs.YtojemdggbcklkaaDoor.WireR
open Go.Proofs.YtojemdggbcklkaaDoor.Wire Go.Proofs.YtojemdggbcklkaaDoor.Strs Go.Proofs.YtojemdggbcklkaaDoor.Heads
set_option linter.unusedVariables false
set_option linter.unusedSimpArgs false

/-- what comes of a stream: the requests, what is held, the error, whether it is done -/
structure Fed where
  l : List Req
  rest : Bytes
  e : Nat
  done : Bool
def Fed.cons (r : Req) (f : Fed) : Fed := ⟨r :: f.l, f.rest, f.e, f.done⟩
def feedF : Nat → Bytes → Fed
  | 0, raw => ⟨[], raw, 0, false⟩
  | f + 1, raw => match readAll raw with
    | .error e => if e = 283 then ⟨[], raw, 0, false⟩ else ⟨[], [], e, true⟩
    | .ok (r, n) => if r.close = true then ⟨[r], [], 0, true⟩ else (feedF f (raw.drop n)).cons r
def feedS (raw : Bytes) : Fed := feedF (raw.length + 1) raw
theorem feedF_more : ∀ (f g : Nat) (raw : Bytes), raw.length < f → f ≤ g → feedF g raw = feedF f raw
  | 0, _, _, h, _ => by omega
  | f + 1, 0, _, _, h => by omega
  | f + 1, g + 1, raw, h1, h2 => by
    unfold feedF
    cases hr : readAll raw with
    | error e => rfl
    | ok x =>
      obtain ⟨r, n⟩ := x
      have h3 := all_ok hr
      simp only
      rw [feedF_more f g (raw.drop n) (by rw [List.length_drop]; omega) (by omega)]
theorem feedS_eq (raw : Bytes) : feedS raw = match readAll raw with
    | .error e => if e = 283 then ⟨[], raw, 0, false⟩ else ⟨[], [], e, true⟩
    | .ok (r, n) => if r.close = true then ⟨[r], [], 0, true⟩ else (feedS (raw.drop n)).cons r := by
  rw [feedS, feedF]
  cases hr : readAll raw with
  | error e => rfl
  | ok x =>
    obtain ⟨r, n⟩ := x
    have h3 := all_ok hr
    simp only
    rw [feedF_more ((raw.drop n).length + 1) raw.length (raw.drop n) (by omega) (by rw [List.length_drop]; omega)]
    rfl
/-- what is done stays; else it goes on from what is held -/
theorem feed_more : ∀ (k : Nat) (raw z : Bytes), raw.length ≤ k →
    feedS (raw ++ z) = if (feedS raw).done = true then feedS raw else ⟨(feedS raw).l ++ (feedS ((feedS raw).rest ++ z)).l, (feedS ((feedS raw).rest ++ z)).rest, (feedS ((feedS raw).rest ++ z)).e, (feedS ((feedS raw).rest ++ z)).done⟩
  | k, raw, z, hk => by
    cases hr : readAll raw with
    | error e =>
      by_cases h3 : e = 283
      · have h1 : feedS raw = ⟨[], raw, 0, false⟩ := by rw [feedS_eq, hr]; simp only; rw [if_pos h3]
        rw [h1]
        simp
      · have h1 : feedS raw = ⟨[], [], e, true⟩ := by rw [feedS_eq, hr]; simp only; rw [if_neg h3]
        have h2 : feedS (raw ++ z) = ⟨[], [], e, true⟩ := by rw [feedS_eq, stays_err hr h3]; simp only; rw [if_neg h3]
        rw [h1, h2]
        simp
    | ok x =>
      obtain ⟨r, n⟩ := x
      have h3 := all_ok hr
      have h4 := stays_ok hr z
      by_cases hc : r.close = true
      · have h1 : feedS raw = ⟨[r], [], 0, true⟩ := by rw [feedS_eq, hr]; simp only; rw [if_pos hc]
        have h2 : feedS (raw ++ z) = ⟨[r], [], 0, true⟩ := by rw [feedS_eq, h4]; simp only; rw [if_pos hc]
        rw [h1, h2]
        simp
      · have h1 : feedS raw = (feedS (raw.drop n)).cons r := by rw [feedS_eq, hr]; simp only; rw [if_neg hc]
        have h2 : feedS (raw ++ z) = (feedS (raw.drop n ++ z)).cons r := by
          rw [feedS_eq, h4]; simp only; rw [if_neg hc, List.drop_append_of_le_length (by omega)]
        cases k with
        | zero => omega
        | succ k =>
          have ih := feed_more k (raw.drop n) z (by rw [List.length_drop]; omega)
          rw [h2, ih, h1]
          unfold Fed.cons
          simp only
          split <;> simp
theorem feed_rest : ∀ (k : Nat) (raw : Bytes), raw.length ≤ k → (feedS raw).rest.length ≤ raw.length ∧ ((feedS raw).done = true → (feedS raw).rest = []) ∧ ((feedS raw).done = false → (feedS raw).e = 0 ∧ readAll (feedS raw).rest = .error 283)
  | k, raw, hk => by
    cases hr : readAll raw with
    | error e =>
      by_cases h3 : e = 283
      · have h1 : feedS raw = ⟨[], raw, 0, false⟩ := by rw [feedS_eq, hr]; simp only; rw [if_pos h3]
        rw [h1]
        exact ⟨Nat.le_refl _, by simp, fun _ => ⟨rfl, by rw [hr, h3]⟩⟩
      · have h1 : feedS raw = ⟨[], [], e, true⟩ := by rw [feedS_eq, hr]; simp only; rw [if_neg h3]
        rw [h1]
        exact ⟨by simp, by simp, by simp⟩
    | ok x =>
      obtain ⟨r, n⟩ := x
      have h3 := all_ok hr
      by_cases hc : r.close = true
      · have h1 : feedS raw = ⟨[r], [], 0, true⟩ := by rw [feedS_eq, hr]; simp only; rw [if_pos hc]
        rw [h1]
        exact ⟨by simp, by simp, by simp⟩
      · have h1 : feedS raw = (feedS (raw.drop n)).cons r := by rw [feedS_eq, hr]; simp only; rw [if_neg hc]
        cases k with
        | zero => omega
        | succ k =>
          have ih := feed_rest k (raw.drop n) (by rw [List.length_drop]; omega)
          rw [h1]
          unfold Fed.cons
          simp only
          refine ⟨?_, ih.2⟩
          have := ih.1
          rw [List.length_drop] at this
          omega
theorem feed_len : ∀ (k : Nat) (raw : Bytes), raw.length ≤ k → (feedS raw).l.length ≤ raw.length
  | k, raw, hk => by
    cases hr : readAll raw with
    | error e =>
      by_cases h3 : e = 283
      · have h1 : feedS raw = ⟨[], raw, 0, false⟩ := by rw [feedS_eq, hr]; simp only; rw [if_pos h3]
        rw [h1]; simp
      · have h1 : feedS raw = ⟨[], [], e, true⟩ := by rw [feedS_eq, hr]; simp only; rw [if_neg h3]
        rw [h1]; simp
    | ok x =>
      obtain ⟨r, n⟩ := x
      have h3 := all_ok hr
      by_cases hc : r.close = true
      · have h1 : feedS raw = ⟨[r], [], 0, true⟩ := by rw [feedS_eq, hr]; simp only; rw [if_pos hc]
        rw [h1]; simp; omega
      · have h1 : feedS raw = (feedS (raw.drop n)).cons r := by rw [feedS_eq, hr]; simp only; rw [if_neg hc]
        cases k with
        | zero => omega
        | succ k =>
          have ih := feed_len k (raw.drop n) (by rw [List.length_drop]; omega)
          rw [List.length_drop] at ih
          rw [h1]
          unfold Fed.cons
          simp only [List.length_cons]
          omega
end Go.Proofs.YtojemdggbcklkaaDoor.WireR

/- A list of requests in memory. -/
namespace Go.Proofs.YtojemdggbcklkaaDoor.WireR
open Go.RowKit Go.Proofs.YtojemdggbcklkaaDoor.Mem Go.Proofs.YtojemdggbcklkaaDoor.Wire Go.Proofs.YtojemdggbcklkaaDoor.Strs Go.Proofs.YtojemdggbcklkaaDoor.Heads
set_option linter.unusedVariables false
set_option linter.unusedSimpArgs false
set_option maxRecDepth 4000

theorem ER : Elt Tryd.prog 45 30 [.string ⟨#[]⟩, .string ⟨#[]⟩, .slice none 0 0, .slice none 0 0, .bool false] 88 := Elt.mkN (z := .agg #[.string ⟨#[]⟩, .string ⟨#[]⟩, .slice none 0 0, .slice none 0 0, .bool false]) Tryd.underlying45 (by kernel_rfl) rfl (by simp)
def All2 {α β : Type} (P : α → β → Prop) : List α → List β → Prop
  | [], [] => True
  | a :: l, b :: m => P a b ∧ All2 P l m
  | _, _ => False
theorem All2.imp {α β : Type} {P Q : α → β → Prop} (h : ∀ a b, P a b → Q a b) : ∀ {l : List α} {m : List β}, All2 P l m → All2 Q l m
  | [], [], _ => trivial
  | a :: l, b :: m, x => ⟨h _ _ x.1, All2.imp h x.2⟩
  | [], _ :: _, x => x.elim
  | _ :: _, [], x => x.elim
theorem All2.snoc {α β : Type} {P : α → β → Prop} {a : α} {b : β} (h : P a b) : ∀ {l : List α} {m : List β}, All2 P l m → All2 P (l ++ [a]) (m ++ [b])
  | [], [], _ => ⟨h, trivial⟩
  | x :: l, y :: m, k => ⟨k.1, All2.snoc h k.2⟩
  | [], _ :: _, x => x.elim
  | _ :: _, [], x => x.elim
theorem All2.len {α β : Type} {P : α → β → Prop} : ∀ {l : List α} {m : List β}, All2 P l m → l.length = m.length
  | [], [], _ => rfl
  | x :: l, y :: m, k => by rw [List.length_cons, List.length_cons, All2.len k.2]
  | [], _ :: _, x => x.elim
  | _ :: _, [], x => x.elim
theorem All2.at_ {α β : Type} {P : α → β → Prop} : ∀ {l : List α} {m : List β}, All2 P l m → ∀ (i : Nat) (h1 : i < l.length) (h2 : i < m.length), P l[i] m[i]
  | [], [], _, i, h, _ => absurd h (by simp)
  | x :: l, y :: m, k, 0, _, _ => k.1
  | x :: l, y :: m, k, i + 1, h1, h2 => All2.at_ k.2 i (by simpa using h1) (by simpa using h2)
  | [], _ :: _, x, _, _, _ => x.elim
  | _ :: _, [], x, _, _, _ => x.elim
/-- the five cells of a request, none of whose rows is the block o; all lie from B on -/
def RqC (w : World) (B : Nat) (o : Option Nat) (c : List Value) (r : Req) : Prop :=
  ∃ A k A2 k2, c = [.string ⟨r.method.toArray⟩, .string ⟨r.target.toArray⟩, .slice A r.headers.length k, .slice A2 r.body.length k2, .bool r.close] ∧ RV w A (hdrV r.headers) ∧ RB w A2 r.body ∧ (∀ ad, A = some ad → ad.spot = none) ∧
    (hdrV r.headers ≠ [] → ∀ ad, A = some ad → some ad.block ≠ o) ∧ (r.body ≠ [] → ∀ ad, A2 = some ad → some ad.block ≠ o) ∧ (∀ ad, A = some ad → B ≤ ad.block) ∧ (∀ ad, A2 = some ad → B ≤ ad.block)
theorem RqC.below {w w' : World} {B : Nat} {o : Option Nat} {c : List Value} {r : Req} (h : RqC w B o c r) (hb : Below w.heap.size w w') : RqC w' B o c r := by
  obtain ⟨A, k, A2, k2, e, h1, h2, h3, h4, h5, h6, h7⟩ := h
  exact ⟨A, k, A2, k2, e, h1.below hb, h2.below hb, h3, h4, h5, h6, h7⟩
theorem rv_off {w w' : World} {A : Option Addr} {xs : List Value} {o : Option Nat} (h : RV w A xs) (hb : w.grownBy w' o) (hf : xs ≠ [] → ∀ ad, A = some ad → some ad.block ≠ o) : RV w' A xs := fun k hk => by
  obtain ⟨ad, e, hc⟩ := h k hk
  have hne := hf (by rintro rfl; simp at hk) ad e
  have hlt := block_lt_of_cell hc
  refine ⟨ad, e, ?_⟩
  have hbl := hb.block (ad.add k).block hlt (by rw [block_of_add]; exact hne)
  have : w'.cell? (ad.add k) = w.cell? (ad.add k) := by simp [World.cell?, hbl]
  rw [this, hc]
theorem bv_ne {l : List UInt8} (h : l.map bv ≠ []) : l ≠ [] := by rintro rfl; exact h rfl
/-- the row o was written, or one made new stands for it -/
theorem RqC.grown {w w' : World} {B : Nat} {o o' : Option Nat} {c : List Value} {r : Req} (h : RqC w B o c r) (hb : w.grownBy w' o) (ho : o' = o ∨ o' = some w.heap.size) : RqC w' B o' c r := by
  obtain ⟨A, k, A2, k2, e, h1, h2, h3, h4, h5, h6, h7⟩ := h
  have h2v := h2.rv
  have h2' := rv_off h2v hb (fun hx => h5 (bv_ne hx))
  refine ⟨A, k, A2, k2, e, rv_off h1 hb h4, h2'.rb, h3, fun hx ad ea => ?_, fun hx ad ea => ?_, h6, h7⟩
  · rcases ho with rfl | rfl
    · exact h4 hx ad ea
    · have := rv_lt h1 hx ad ea
      intro e9; injection e9 with e9; omega
  · rcases ho with rfl | rfl
    · exact h5 hx ad ea
    · have := rb_lt h2 hx ad ea
      intro e9; injection e9 with e9; omega
/-- a block below B was written -/
theorem RqC.far {w w' : World} {B G : Nat} {o : Option Nat} {c : List Value} {r : Req} (h : RqC w B o c r) (hb : w.grownBy w' (some G)) (hG : G < B) : RqC w' B o c r := by
  obtain ⟨A, k, A2, k2, e, h1, h2, h3, h4, h5, h6, h7⟩ := h
  exact ⟨A, k, A2, k2, e, rv_far h1 hb (fun ad ea => by have := h6 ad ea; omega), RB.grown h2 (fun _ ad ea => by have := h7 ad ea; omega) hb, h3, h4, h5, h6, h7⟩
structure RL (w : World) (B : Nat) (v : Value) (rs : List Req) : Prop where
  ex : ∃ rows : List (List Value), w.ownsRow B 30 5 v rs.length rows.flatten ∧ All2 (RqC w B v.ownBlock) rows rs
theorem RL.nil (w : World) (B : Nat) : RL w B (.slice none 0 0) [] := ⟨[], World.ownsRow_nil w _ _ _, trivial⟩
theorem RL.below {w w' : World} {B : Nat} {v : Value} {rs : List Req} (h : RL w B v rs) (hb : Below w.heap.size w w') : RL w' B v rs := by
  obtain ⟨rows, h1, h2⟩ := h.ex
  exact ⟨rows, own_below' h1 hb, h2.imp (fun _ _ h => h.below hb)⟩
theorem RL.far {w w' : World} {B G : Nat} {v : Value} {rs : List Req} (h : RL w B v rs) (hb : w.grownBy w' (some G)) (hG : G < B) : RL w' B v rs := by
  obtain ⟨rows, h1, h2⟩ := h.ex
  exact ⟨rows, own_line h1 hb hG, h2.imp (fun _ _ h => h.far hb hG)⟩
theorem RL.slice {w : World} {B : Nat} {v : Value} {rs : List Req} (h : RL w B v rs) : ∃ A c, v = .slice A rs.length c ∧ rs.length ≤ c := by
  obtain ⟨rows, h1, _⟩ := h.ex
  exact own_slice h1
/-- what an append of one request leaves -/
theorem RL.push {w w' : World} {B : Nat} {v v' : Value} {rs : List Req} {r : Req} {rows : List (List Value)} {c : List Value} (h2 : All2 (RqC w B v.ownBlock) rows rs) (hc : RqC w B v.ownBlock c r)
    (ho : w'.ownsRow B 30 5 v' (rs.length + 1) (rows.flatten ++ c)) (hg : w.grownBy w' v.ownBlock) (hv : v'.ownBlock = v.ownBlock ∨ v'.ownBlock = some w.heap.size) : RL w' B v' (rs ++ [r]) := by
  refine ⟨rows ++ [c], ?_, ?_⟩
  · rw [List.length_append, List.flatten_append]
    simpa using ho
  · exact All2.snoc (hc.grown hg hv) (h2.imp (fun _ _ h => h.grown hg hv))
end Go.Proofs.YtojemdggbcklkaaDoor.WireR
namespace Go.Proofs.YtojemdggbcklkaaDoor.WireR
open Go.RowKit Go.Proofs.YtojemdggbcklkaaDoor.Mem Go.Proofs.YtojemdggbcklkaaDoor.Wire Go.Proofs.YtojemdggbcklkaaDoor.Strs Go.Proofs.YtojemdggbcklkaaDoor.Heads
set_option linter.unusedVariables false
set_option linter.unusedSimpArgs false
set_option maxRecDepth 4000

/-- A reads as these requests -/
def ReadsR (w : World) (A : Option Addr) (rs : List Req) : Prop :=
  ∃ rows : List (List Value), RV w A rows.flatten ∧ All2 (RqC w 0 none) rows rs ∧ (∀ ad, A = some ad → ad.spot = none)
theorem RqC.any {w : World} {B : Nat} {o : Option Nat} {c : List Value} {r : Req} (h : RqC w B o c r) : RqC w 0 none c r := by
  obtain ⟨A, k, A2, k2, e, h1, h2, h3, _, _, _, _⟩ := h
  exact ⟨A, k, A2, k2, e, h1, h2, h3, fun _ _ _ => by simp, fun _ _ _ => by simp, fun _ _ => Nat.zero_le _, fun _ _ => Nat.zero_le _⟩
theorem RqC.len {w : World} {B : Nat} {o : Option Nat} {c : List Value} {r : Req} (h : RqC w B o c r) : c.length = 5 := by
  obtain ⟨A, k, A2, k2, e, _⟩ := h
  rw [e]; rfl
theorem ReadsR.below {w w' : World} {A : Option Addr} {rs : List Req} (h : ReadsR w A rs) (hb : Below w.heap.size w w') : ReadsR w' A rs := by
  obtain ⟨rows, h1, h2, h3⟩ := h
  exact ⟨rows, h1.below hb, h2.imp (fun _ _ h => h.below hb), h3⟩
theorem RL.reads {w : World} {B n c : Nat} {A : Option Addr} {rs : List Req} (h : RL w B (.slice A n c) rs) : n = rs.length ∧ ReadsR w A rs := by
  obtain ⟨rows, h1, h2⟩ := h.ex
  obtain ⟨A', c', hv, _⟩ := own_slice h1
  injection hv with e1 e2 e3
  subst e1 e2 e3
  exact ⟨rfl, rows, own_rv h1, h2.imp (fun _ _ h => h.any), own_spot h1⟩
theorem flat5 : ∀ {rows : List (List Value)} (h : ∀ c ∈ rows, c.length = 5) (i j : Nat) (hi : i < rows.length), j < 5 → rows.flatten[i * 5 + j]? = rows[i][j]?
  | [], _, i, j, hi, _ => absurd hi (by simp)
  | c :: r, h, 0, j, _, hj => by
    have := h c List.mem_cons_self
    rw [List.flatten_cons, Nat.zero_mul, Nat.zero_add, List.getElem?_append_left (by omega)]
    rfl
  | c :: r, h, i + 1, j, hi, hj => by
    have h5 := h c List.mem_cons_self
    rw [List.flatten_cons, List.getElem?_append_right (by omega), h5, show (i + 1) * 5 + j - 5 = i * 5 + j by omega]
    exact flat5 (fun c hc => h c (List.mem_cons_of_mem _ hc)) i j (by simpa using hi) hj
theorem All2.left {α β : Type} {P : α → β → Prop} : ∀ {l : List α} {m : List β}, All2 P l m → ∀ a ∈ l, ∃ b, P a b
  | [], [], _, a, h => absurd h (by simp)
  | x :: l, y :: m, k, a, h => by
    rcases List.mem_cons.1 h with rfl | h
    · exact ⟨y, k.1⟩
    · exact All2.left k.2 a h
  | [], _ :: _, x, _, _ => x.elim
  | _ :: _, [], x, _, _ => x.elim
/-- the i-th of them -/
theorem ReadsR.at_ {w : World} {A : Option Addr} {rs : List Req} (h : ReadsR w A rs) {i : Nat} (hi : i < rs.length) : ∃ ad c, A = some ad ∧ ad.spot = none ∧ RqC w 0 none c rs[i] ∧ ∀ j v, c[j]? = some v → w.cell? (ad.add (i * 5 + j)) = some v := by
  obtain ⟨rows, h1, h2, h3⟩ := h
  have hl := h2.len
  have h5 : ∀ c ∈ rows, c.length = 5 := fun c hc => by obtain ⟨r, hr⟩ := h2.left c hc; exact hr.len
  have hi' : i < rows.length := by omega
  have hq := h2.at_ i hi' hi
  have hc5 := hq.len
  have hfl : ∀ j, j < 5 → rows.flatten[i * 5 + j]? = rows[i][j]? := fun j hj => flat5 h5 i j hi' hj
  have h0 := hfl 0 (by omega)
  rw [List.getElem?_eq_getElem (show 0 < rows[i].length by omega)] at h0
  obtain ⟨ad, e, _⟩ := h1 (i * 5 + 0) (List.getElem?_eq_some_iff.1 h0).1
  refine ⟨ad, rows[i], e, h3 ad e, hq, fun j v hj => ?_⟩
  have hj5 : j < 5 := by have := (List.getElem?_eq_some_iff.1 hj).1; omega
  exact h1.cells e _ _ ((hfl j hj5).trans hj)
theorem load_req {w : World} {ad : Addr} {c : List Value} {k : Nat} (hsp : ad.spot = none) (h : ∀ j v, c[j]? = some v → w.cell? (ad.add (k * 5 + j)) = some v) (hl : c.length = 5) : (Instr.loadAt 30 (.pointer (some (ad.add (k * 5))))).run Tryd.prog w = .ok (.agg c.toArray) w := by
  obtain ⟨g, off, sp⟩ := ad
  simp only at hsp
  subst hsp
  rw [add_none]
  obtain ⟨d, hu, hd⟩ := AR.und
  exact run_loadAt_mid w g (off + k * 5) 30 c d (fun j v hj => by have := h j v hj; rw [add_none] at this; rw [Nat.add_assoc]; exact this) hu (by cases d <;> first | rfl | cases hd) (by rw [AR.size, hl]; rfl)
set_option maxHeartbeats 8000000 in
theorem same_all (A : Option Addr) (n c : Nat) (B : Option Addr) (cb : Nat) (rs : List Req) (w : World) (hn : n = rs.length) (hA : ReadsR w A rs) (hB : ReadsR w B rs) (hl : n ≤ 16777216) (hlen : ∀ r ∈ rs, r.headers.length ≤ 65536 ∧ r.body.length ≤ 65536) :
    Calls Tryd.prog 25 #[.slice A n c, .slice B n cb] w fun e w' => e = .returned (.bool true) ∧ Below w.heap.size w w' := by
  have hni : (n : Int) ≤ 16777216 := by omega
  have HA := Lib.hid (And.intro hA (And.intro hB (And.intro hn hlen)))
  clear hA hB hn hlen hl
  go_enter Tryd.func25, Tryd.ntmps25
  go_wp2
  go_loopw [5] (fun v wr => ∃ i : Nat, i ≤ n ∧ v = .int .i64 i ∧ Below w.heap.size w wr) (fun v _ => n - (intOf v).toNat)
  case atStart => exact ⟨0, by omega, rfl, gr w⟩
  case round =>
    obtain ⟨i, hi, rfl, hb⟩ := hrel
    have hi0 : (0 : Int) ≤ (i : Int) := by omega
    have HBW := Lib.hid hb
    clear hb
    by_cases hlt : i < n
    · have hii : (i : Int) < (n : Int) := by omega
      have hir : i < rs.length := by have := HA.out.2.2.1; omega
      obtain ⟨ad1, c1, rfl, hs1, hq1, hc1⟩ := (HA.out.1.below HBW.out).at_ hir
      obtain ⟨ad2, c2, rfl, hs2, hq2, hc2⟩ := (HA.out.2.1.below HBW.out).at_ hir
      have hr5 := HA.out.2.2.2 rs[i] (List.getElem_mem _)
      obtain ⟨r, hr⟩ : ∃ r, r = rs[i] := ⟨_, rfl⟩
      rw [← hr] at hq1 hq2 hr5
      obtain ⟨D1, k1, E1, q1, rfl, rv1, rb1, sp1, _, _, _, _⟩ := hq1
      obtain ⟨D2, k2, E2, q2, rfl, rv2, rb2, sp2, _, _, _, _⟩ := hq2
      obtain ⟨m1, hm1⟩ : ∃ x, x = (⟨r.method.toArray⟩ : ByteArray) := ⟨_, rfl⟩
      obtain ⟨t1, ht1⟩ : ∃ x, x = (⟨r.target.toArray⟩ : ByteArray) := ⟨_, rfl⟩
      obtain ⟨hl1, hhl1⟩ : ∃ x, x = r.headers.length := ⟨_, rfl⟩
      obtain ⟨bl1, hbl1⟩ : ∃ x, x = r.body.length := ⟨_, rfl⟩
      obtain ⟨cl1, hcl1⟩ : ∃ x, x = r.close := ⟨_, rfl⟩
      have sm := fun (W : World) (hW : Below wr.heap.size wr W) => same_req (w := W) r r D1 k1 E1 q1 D2 k2 E2 q2 rfl (rv1.below hW) (rv2.below hW) (rb1.below hW) (rb2.below hW) sp1 sp2 (by omega) (by omega)
      rw [← hm1, ← ht1, ← hhl1, ← hbl1, ← hcl1] at sm hc1 hc2
      have SM := Lib.hid sm
      have HC := Lib.hid (And.intro hs1 (And.intro hc1 (And.intro hs2 hc2)))
      clear sm hs1 hc1 hs2 hc2 rv1 rv2 rb1 rb2 sp1 sp2 hm1 ht1 hhl1 hbl1 hcl1 hr hr5 hir hlt
      go_upto_region 6 with fail
      try simp only [Act.put, List.setIfInBounds_toArray, List.set_cons_succ, List.set_cons_zero]
      refine wp_region_qb (by kernel_rfl) (by kernel_rfl) ?_
      refine wq_val (o := ⟨some 17, _, _, _, _, _⟩) (v := .slice (some ad1) n c) rfl (fun w' hC => by go_simp) ?_
      simp only [Act.put, List.setIfInBounds_toArray, List.set_cons_succ, List.set_cons_zero]
      refine wq_val (o := ⟨some 18, _, _, _, _, _⟩) (v := .int .i64 (i : Int)) rfl (fun w' hC => by go_simp) ?_
      simp only [Act.put, List.setIfInBounds_toArray, List.set_cons_succ, List.set_cons_zero]
      refine wq_val (o := ⟨some 19, _, _, _, _, _⟩) (v := .pointer (some (ad1.add (i * 5)))) rfl (fun w' hC => by go_simp) ?_
      simp only [Act.put, List.setIfInBounds_toArray, List.set_cons_succ, List.set_cons_zero]
      refine wq_loadA (o := ⟨some 20, _, _, _, _, _⟩) AR rfl (.tmp 19) rfl (.agg #[.string m1, .string t1, .slice D1 hl1 k1, .slice E1 bl1 q1, .bool cl1]) (ad1.add (i * 5)) rfl (fun w' hC => by have := load_req (w := w') HC.out.1 (fun j v hj => cell_grow (HC.out.2.1 j v hj) hC) (by rfl); exact this) ?_
      simp only [Act.put, List.setIfInBounds_toArray, List.set_cons_succ, List.set_cons_zero]
      refine wq_val (o := ⟨some 21, _, _, _, _, _⟩) (v := .slice (some ad2) n cb) rfl (fun w' hC => by go_simp) ?_
      simp only [Act.put, List.setIfInBounds_toArray, List.set_cons_succ, List.set_cons_zero]
      refine wq_val (o := ⟨some 22, _, _, _, _, _⟩) (v := .int .i64 (i : Int)) rfl (fun w' hC => by go_simp) ?_
      simp only [Act.put, List.setIfInBounds_toArray, List.set_cons_succ, List.set_cons_zero]
      refine wq_val (o := ⟨some 23, _, _, _, _, _⟩) (v := .pointer (some (ad2.add (i * 5)))) rfl (fun w' hC => by go_simp) ?_
      simp only [Act.put, List.setIfInBounds_toArray, List.set_cons_succ, List.set_cons_zero]
      refine wq_loadA (o := ⟨some 24, _, _, _, _, _⟩) AR rfl (.tmp 23) rfl (.agg #[.string m1, .string t1, .slice D2 hl1 k2, .slice E2 bl1 q2, .bool cl1]) (ad2.add (i * 5)) rfl (fun w' hC => by have := load_req (w := w') HC.out.2.2.1 (fun j v hj => cell_grow (HC.out.2.2.2 j v hj) hC) (by rfl); exact this) ?_
      simp only [Act.put, List.setIfInBounds_toArray, List.set_cons_succ, List.set_cons_zero]
      refine wq_call (o := ⟨some 25, _, _, _, _, _⟩) (f := 17) (args := #[.agg #[.string m1, .string t1, .slice D1 hl1 k1, .slice E1 bl1 q1, .bool cl1], .agg #[.string m1, .string t1, .slice D2 hl1 k2, .slice E2 bl1 q2, .bool cl1]]) (v := .bool true) rfl (fun w' _ => by go_simp) (fun w' hC => SM.out w' hC) ?_
      simp only [Act.put, List.setIfInBounds_toArray, List.set_cons_succ, List.set_cons_zero]
      refine wq_val (o := ⟨some 26, _, _, _, _, _⟩) (v := .bool false) rfl (fun w' hC => by go_simp) ?_
      simp only [Act.put, List.setIfInBounds_toArray, List.set_cons_succ, List.set_cons_zero]
      refine wpQuiet_nil ?_
      intro w6 h6
      have H6 := Lib.hid (gt HBW.out h6)
      clear h6
      go_wp2
      exact ⟨⟨i + 1, by omega, by go_num, H6.out⟩, by simp [intOf]; omega⟩
    · obtain rfl : i = n := by omega
      clear hlt
      go_wp2
      go_ret
      exact ⟨rfl, HBW.out⟩
end Go.Proofs.YtojemdggbcklkaaDoor.WireR
