/- A stream in pieces: a list that gathers requests; what Read finds from the front on. -/
import Derived.Test.YtojemdggbcklkaaDoorWPutO
namespace Go.Proofs.YtojemdggbcklkaaDoor.WireR
open Go.RowKit Go.Proofs.YtojemdggbcklkaaDoor.Mem Go.Proofs.YtojemdggbcklkaaDoor.Wire Go.Proofs.YtojemdggbcklkaaDoor.Strs Go.Proofs.YtojemdggbcklkaaDoor.Heads
set_option linter.unusedVariables false
set_option linter.unusedSimpArgs false
set_option maxRecDepth 4000

def NextPostO (w : World) (G B : Nat) (v : Value) (R p : Bytes) (e : Ending) (w' : World) : Prop :=
  Fr G v.ownBlock w w' ∧ ∃ u v' K, e = .returned (.tuple #[u, .int .i64 ((feedS (R ++ p)).e : Nat)]) ∧ w.heap.size ≤ K ∧ K ≤ w'.heap.size ∧ RLO w' w.heap.size K u (gotL R p) ∧
    FeedAt w' G B v' (feedS (R ++ p)).rest (feedS (R ++ p)).done (feedS (R ++ p)).e ∧ (v' = v ∨ ∀ Y, v'.ownBlock = some Y → K ≤ Y)
theorem put_nextO {w : World} {G B : Nat} {v : Value} {R : Bytes} (h : FeedAt w G B v (feedS R).rest (feedS R).done (feedS R).e) (P : Option Addr) (pn pc : Nat) (p : Bytes) (hP : RB w P p) (hpn : pn = p.length) (hB : B ≤ w.heap.size) (hbig : R.length + p.length ≤ 16777216) :
    Calls Tryd.prog 21 #[.pointer (some ⟨G, 0, none⟩), .slice P pn pc] w (NextPostO w G B v R p) := by
  have hf := feed_rest R.length R (Nat.le_refl _)
  have hm := feed_more R.length R p (Nat.le_refl _)
  by_cases hd : (feedS R).done = true
  · rw [if_pos hd] at hm
    have h' := h
    rw [hd] at h'
    refine (put_done h' (.slice P pn pc)).mono ?_
    rintro e w' ⟨rfl, hb⟩
    refine ⟨Fr.of (grown_of hb), .slice none 0 0, v, w.heap.size, by rw [hm], Nat.le_refl _, hb.size, ?_, by rw [hm]; exact h.below hb, .inl rfl⟩
    rw [gotL, if_pos hd]
    exact RLO.nil _ (Nat.le_refl _)
  · have hd' : (feedS R).done = false := by simpa using hd
    rw [if_neg hd] at hm
    obtain ⟨he, _⟩ := hf.2.2 hd'
    have h' := h
    rw [hd', he] at h'
    refine (put_own h' P pn pc p hP hpn hB (by have := hf.1; omega)).mono ?_
    rintro e w' ⟨hfr, u, v0, K, rfl, hK1, hK2, hrl, hfa⟩
    have hgot : gotL R p = (feedS ((feedS R).rest ++ p)).l := by rw [gotL, if_neg hd]
    refine ⟨hfr, u, v0, K, by rw [hm], hK1, hK2, by rw [hgot]; exact hrl, by rw [hm]; exact hfa.base (Nat.le_trans hB hK1) h.gb, .inr fun Y e => ?_⟩
    exact (hfa.own.lt Y e).1
/-- the five cells of a request whose rows lie where F holds -/
def RqF (w : World) (F : Nat → Prop) (c : List Value) (r : Req) : Prop :=
  ∃ A k A2 k2, c = [.string ⟨r.method.toArray⟩, .string ⟨r.target.toArray⟩, .slice A r.headers.length k, .slice A2 r.body.length k2, .bool r.close] ∧ RV w A (hdrV r.headers) ∧ RB w A2 r.body ∧ (∀ ad, A = some ad → ad.spot = none) ∧
    (∀ ad, A = some ad → F ad.block) ∧ (∀ ad, A2 = some ad → F ad.block)
theorem rv_keepF {w w' : World} {A : Option Addr} {xs : List Value} {F : Nat → Prop} (h : RV w A xs) (hf : ∀ ad, A = some ad → F ad.block) (hk : ∀ k, F k → k < w.heap.size → w'.heap[k]? = w.heap[k]?) : RV w' A xs := fun k hk' => by
  obtain ⟨ad, e, hc⟩ := h k hk'
  have hlt := block_lt_of_cell hc
  refine ⟨ad, e, ?_⟩
  have hbl := hk (ad.add k).block (by rw [block_of_add]; exact hf ad e) hlt
  have : w'.cell? (ad.add k) = w.cell? (ad.add k) := by simp [World.cell?, hbl]
  rw [this, hc]
theorem RqF.keep {w w' : World} {F : Nat → Prop} {c : List Value} {r : Req} (h : RqF w F c r) (hk : ∀ k, F k → k < w.heap.size → w'.heap[k]? = w.heap[k]?) : RqF w' F c r := by
  obtain ⟨A, k, A2, k2, e, h1, h2, h3, h4, h5⟩ := h
  exact ⟨A, k, A2, k2, e, rv_keepF h1 h4 hk, (rv_keepF h2.rv h5 hk).rb, h3, h4, h5⟩
theorem RqF.mono {w : World} {F F' : Nat → Prop} {c : List Value} {r : Req} (h : RqF w F c r) (hk : ∀ k, F k → F' k) : RqF w F' c r := by
  obtain ⟨A, k, A2, k2, e, h1, h2, h3, h4, h5⟩ := h
  exact ⟨A, k, A2, k2, e, h1, h2, h3, fun ad ea => hk _ (h4 ad ea), fun ad ea => hk _ (h5 ad ea)⟩
theorem RqF.any {w : World} {F : Nat → Prop} {c : List Value} {r : Req} (h : RqF w F c r) : RqC w 0 none c r := by
  obtain ⟨A, k, A2, k2, e, h1, h2, h3, h4, h5⟩ := h
  exact ⟨A, k, A2, k2, e, h1, h2, h3, fun _ _ _ => by simp, fun _ _ _ => by simp, fun _ _ => Nat.zero_le _, fun _ _ => Nat.zero_le _⟩
theorem own_at {w : World} {B n c size : Nat} {T : TypeId} {A : Option Addr} {xs : List Value} (h : w.ownsRow B T size (.slice A n c) n xs) : ∀ ad, A = some ad → (Value.slice A n c).ownBlock = some ad.block := fun ad ea => by
  rcases h.2 with ⟨hn, _⟩ | ⟨g, cap, cur, e9, hg, _⟩
  · injection hn with hn; rw [hn] at ea; cases ea
  · injection e9 with e9
    rw [ea] at e9
    injection e9 with e9
    rw [ea, e9]
    rfl
theorem RqO.f {w : World} {o : Option Nat} {lo hi : Nat} {c : List Value} {r : Req} (h : RqO w o lo hi c r) : RqF w (fun k => lo ≤ k ∧ k < hi ∧ some k ≠ o) c r := by
  obtain ⟨A, k, A2, k2, m, e, h1, h2, h3, h4, h5, h6⟩ := h
  refine ⟨A, k, A2, k2, e, own_rv h3, (own_rv h5).rb, own_spot h3, fun ad ea => ?_, fun ad ea => ?_⟩
  · have e1 := own_at h3 ad ea
    have e2 := h4 _ e1
    exact ⟨(h3.lt _ e1).1, by have := e2.1; omega, e2.2⟩
  · have e1 := own_at h5 ad ea
    have e2 := h6 _ e1
    exact ⟨Nat.le_trans h1 (h5.lt _ e1).1, e2.1, e2.2⟩
theorem Chn.f {w : World} {o : Option Nat} : ∀ {lo hi : Nat} {cs : List (List Value)} {rs : List Req}, Chn w o lo cs rs hi → All2 (RqF w (fun k => lo ≤ k ∧ k < hi ∧ some k ≠ o)) cs rs
  | _, _, [], [], h => trivial
  | lo, hi, c :: cs, r :: rs, ⟨mid, h1, h2⟩ => ⟨h1.f.mono (fun k x => ⟨x.1, Nat.lt_of_lt_of_le x.2.1 h2.le, x.2.2⟩), h2.f.imp (fun _ _ y => y.mono (fun k x => ⟨Nat.le_trans h1.le x.1, x.2⟩))⟩
  | _, _, [], _ :: _, h => h.elim
  | _, _, _ :: _, [], h => h.elim
theorem All2.join {α β : Type} {P : α → β → Prop} {l2 : List α} {m2 : List β} (h2 : All2 P l2 m2) : ∀ {l : List α} {m : List β}, All2 P l m → All2 P (l ++ l2) (m ++ m2)
  | [], [], _ => h2
  | x :: l, y :: m, k => ⟨k.1, All2.join h2 k.2⟩
  | [], _ :: _, x => x.elim
  | _ :: _, [], x => x.elim
/-- a list that gathers requests, apart from the row o -/
structure PF (w : World) (E : Nat) (v : Value) (o : Option Nat) (rs : List Req) : Prop where
  ex : ∃ rows : List (List Value), w.ownsRow E 30 5 v rs.length rows.flatten ∧ All2 (RqF w (fun k => E ≤ k ∧ k < w.heap.size ∧ some k ≠ v.ownBlock ∧ some k ≠ o)) rows rs ∧ ∀ X, v.ownBlock = some X → some X ≠ o
theorem PF.nil (w : World) (E : Nat) (o : Option Nat) : PF w E (.slice none 0 0) o [] := ⟨[], World.ownsRow_nil w _ _ _, trivial, fun X e => by cases e⟩
theorem PF.below {w w' : World} {E : Nat} {v : Value} {o : Option Nat} {rs : List Req} (h : PF w E v o rs) (hb : Below w.heap.size w w') : PF w' E v o rs := by
  obtain ⟨rows, h1, h2, h3⟩ := h.ex
  refine ⟨rows, own_below' h1 hb, h2.imp (fun _ _ x => (x.keep (fun k _ hk => hb.block k hk)).mono (fun k y => ⟨y.1, Nat.lt_of_lt_of_le y.2.1 hb.size, y.2.2⟩)), h3⟩
theorem PF.slice {w : World} {E : Nat} {v : Value} {o : Option Nat} {rs : List Req} (h : PF w E v o rs) : ∃ A c, v = .slice A rs.length c ∧ rs.length ≤ c := by
  obtain ⟨rows, h1, _⟩ := h.ex
  exact own_slice h1
theorem PF.reads {w : World} {E n c : Nat} {A : Option Addr} {o : Option Nat} {rs : List Req} (h : PF w E (.slice A n c) o rs) : n = rs.length ∧ ReadsR w A rs := by
  obtain ⟨rows, h1, h2, _⟩ := h.ex
  obtain ⟨A', c', hv, _⟩ := own_slice h1
  injection hv with e1 e2 e3
  subst e1 e2 e3
  exact ⟨rfl, rows, own_rv h1, h2.imp (fun _ _ h => h.any), own_spot h1⟩
/-- a Put, and its requests behind the others: what stands ahead of the append -/
theorem PF.put {w1 w2 : World} {E G : Nat} {v9 v0 : Value} {l : List Req} (h : PF w1 E v9 v0.ownBlock l) (hf : Fr G v0.ownBlock w1 w2) (hG : G < E) :
    ∃ rows : List (List Value), w2.ownsRow E 30 5 v9 l.length rows.flatten ∧ All2 (RqF w2 (fun k => E ≤ k ∧ k < w1.heap.size ∧ some k ≠ v9.ownBlock ∧ some k ≠ v0.ownBlock)) rows l ∧ (∀ X, v9.ownBlock = some X → some X ≠ v0.ownBlock ∧ X < w1.heap.size) := by
  obtain ⟨rows, h1, h2, h3⟩ := h.ex
  refine ⟨rows, own_keep h1 (fun X e hX => hf.block X hX (by have := (h1.lt X e).1; omega) (h3 X e)), h2.imp (fun _ _ x => x.keep (fun k y hk => hf.block k hk (by have := y.1; omega) y.2.2.2)), fun X e => ⟨h3 X e, (h1.lt X e).2⟩⟩
theorem PF.step {w1 w2 w3 : World} {E K : Nat} {v9 v9' v0 v' u : Value} {l L2 : List Req} {rows : List (List Value)} (h2 : All2 (RqF w2 (fun k => E ≤ k ∧ k < w1.heap.size ∧ some k ≠ v9.ownBlock ∧ some k ≠ v0.ownBlock)) rows l)
    (h3 : ∀ X, v9.ownBlock = some X → some X ≠ v0.ownBlock ∧ X < w1.heap.size) {rows2 : List (List Value)} (hc : Chn w2 u.ownBlock w1.heap.size rows2 L2 K) (hK : K ≤ w2.heap.size) (hs : w1.heap.size ≤ w2.heap.size) (hE : E ≤ w1.heap.size)
    (h0 : ∀ Y, v0.ownBlock = some Y → Y < w1.heap.size) (hv' : v' = v0 ∨ ∀ Y, v'.ownBlock = some Y → K ≤ Y) (hv2 : ∀ Y, v'.ownBlock = some Y → Y < w2.heap.size)
    (ho : w3.ownsRow E 30 5 v9' (l.length + L2.length) (rows.flatten ++ rows2.flatten)) (hg : w2.grownBy w3 v9.ownBlock) (hv9 : v9'.ownBlock = v9.ownBlock ∨ v9'.ownBlock = some w2.heap.size) : PF w3 E v9' v'.ownBlock (l ++ L2) := by
  have hle := hc.le
  have s3 := hg.size
  have nv' : ∀ k, k < w1.heap.size → some k ≠ v0.ownBlock → some k ≠ v'.ownBlock := fun k hk h e => by
    rcases hv' with rfl | h'
    · exact h e
    · have := h' k e.symm; omega
  refine ⟨rows ++ rows2, ?_, All2.join (hc.f.imp fun _ _ x => ?_) (h2.imp fun _ _ x => ?_), ?_⟩
  · rw [List.length_append, List.flatten_append]; exact ho
  · refine (x.keep (fun k y hk => hg.block k hk (fun e => ?_))).mono (fun k y => ⟨by have := y.1; omega, by have := y.2.1; omega, fun e => ?_, fun e => ?_⟩)
    · have := (h3 k e.symm).2; have := y.1; omega
    · rcases hv9 with h | h
      · rw [h] at e; have := (h3 k e.symm).2; have := y.1; omega
      · rw [h] at e; injection e with e; have := y.2.1; omega
    · rcases hv' with rfl | h'
      · have := h0 k e.symm; have := y.1; omega
      · have := h' k e.symm; have := y.2.1; omega
  · refine (x.keep (fun k y hk => hg.block k hk y.2.2.1)).mono (fun k y => ⟨y.1, by have := y.2.1; omega, fun e => ?_, nv' k y.2.1 y.2.2.2⟩)
    rcases hv9 with h | h
    · rw [h] at e; exact y.2.2.1 e
    · rw [h] at e; injection e with e; have := y.2.1; omega
  · intro X e
    rcases hv9 with h | h
    · have := h3 X (h ▸ e)
      exact nv' X this.2 this.1
    · rw [h] at e
      injection e with e
      intro e2
      have := hv2 X e2.symm
      omega
/-! what Read finds from the front on -/
/-- i requests of raw's are read, at_ of its bytes; or the last of them closed the stream -/
def Front (raw : Bytes) (i at_ : Nat) : Prop :=
  i ≤ (feedS raw).l.length ∧ at_ ≤ raw.length ∧
  (((feedS (raw.drop at_)).l = (feedS raw).l.drop i ∧ (feedS (raw.drop at_)).e = (feedS raw).e ∧ (feedS (raw.drop at_)).rest = (feedS raw).rest ∧ (∀ r, 0 < i → (feedS raw).l[i - 1]? = some r → r.close = false)) ∨
   (i = (feedS raw).l.length ∧ 0 < i ∧ (∃ r, (feedS raw).l[i - 1]? = some r ∧ r.close = true) ∧ (feedS raw).e = 0 ∧ (feedS raw).rest = []))
theorem Front.start (raw : Bytes) : Front raw 0 0 := ⟨Nat.zero_le _, Nat.zero_le _, .inl ⟨by simp, by simp, by simp, fun r h => absurd h (by omega)⟩⟩
theorem Front.step {raw : Bytes} {i at_ : Nat} (h : Front raw i at_) (hi : i < (feedS raw).l.length) : ∃ r N, readAll (raw.drop at_) = .ok (r, N) ∧ (feedS raw).l[i]? = some r ∧ 1 ≤ N ∧ at_ + N ≤ raw.length ∧ N ≤ 65536 ∧ (r.close = true → i + 1 = (feedS raw).l.length) ∧ Front raw (i + 1) (at_ + N) := by
  obtain ⟨h1, h2, h3⟩ := h
  rcases h3 with ⟨hl, he, hr, hc⟩ | ⟨h4, _⟩
  · have hq : (feedS raw).l[i]? = (feedS (raw.drop at_)).l[0]? := by rw [hl, List.getElem?_drop, Nat.add_zero]
    have hne : (feedS (raw.drop at_)).l.length = (feedS raw).l.length - i := by rw [hl, List.length_drop]
    have hf := feedS_eq (raw.drop at_)
    cases hread : readAll (raw.drop at_) with
    | error e =>
      rw [hread] at hf
      simp only at hf
      split at hf
      · rw [hf] at hne; simp at hne; omega
      · rw [hf] at hne; simp at hne; omega
    | ok x =>
      obtain ⟨r, N⟩ := x
      obtain ⟨g1, g2, g3, _, _⟩ := all_ok hread
      rw [List.length_drop] at g2
      rw [hread] at hf
      simp only at hf
      refine ⟨r, N, rfl, ?_, g1, by omega, g3, ?_, by omega, by omega, ?_⟩
      · rw [hq, hf]; split <;> rfl
      · intro hcl
        rw [if_pos hcl] at hf
        rw [hf] at hne; simp at hne; omega
      · by_cases hcl : r.close = true
        · rw [if_pos hcl] at hf
          have h5 : i + 1 = (feedS raw).l.length := by rw [hf] at hne; simp at hne; omega
          refine .inr ⟨h5, by omega, ⟨r, ?_, hcl⟩, ?_, ?_⟩
          · rw [Nat.add_sub_cancel, hq, hf]; rfl
          · rw [← he, hf]
          · rw [← hr, hf]
        · rw [if_neg hcl, List.drop_drop] at hf
          refine .inl ⟨?_, ?_, ?_, ?_⟩
          · have : (feedS raw).l.drop (i + 1) = ((feedS raw).l.drop i).drop 1 := by rw [List.drop_drop]
            rw [this, ← hl, hf]; rfl
          · rw [← he, hf]; rfl
          · rw [← hr, hf]; rfl
          · intro q _ hq'
            rw [Nat.add_sub_cancel, hq, hf] at hq'
            injection hq' with hq'
            rw [← hq']; simpa using hcl
  · omega
/-- behind the last of them -/
theorem Front.last {raw : Bytes} {at_ : Nat} (h : Front raw (feedS raw).l.length at_) : at_ ≤ raw.length ∧
    ((∃ r, 0 < (feedS raw).l.length ∧ (feedS raw).l[(feedS raw).l.length - 1]? = some r ∧ r.close = true ∧ (feedS raw).e = 0 ∧ (feedS raw).rest = []) ∨
     ((∀ r, 0 < (feedS raw).l.length → (feedS raw).l[(feedS raw).l.length - 1]? = some r → r.close = false) ∧ ((readAll (raw.drop at_) = .error 283 ∧ (feedS raw).e = 0 ∧ (feedS raw).rest.length = raw.length - at_) ∨
      ∃ er, readAll (raw.drop at_) = .error er ∧ er ≠ 283 ∧ (feedS raw).e = er ∧ (feedS raw).rest = []))) := by
  obtain ⟨h1, h2, h3⟩ := h
  refine ⟨h2, ?_⟩
  rcases h3 with ⟨hl, he, hr, hc⟩ | ⟨_, h5, ⟨r, h6, h7⟩, h8, h9⟩
  · refine .inr ⟨hc, ?_⟩
    rw [List.drop_length] at hl
    have hf := feedS_eq (raw.drop at_)
    cases hread : readAll (raw.drop at_) with
    | error e =>
      rw [hread] at hf
      simp only at hf
      by_cases h3 : e = 283
      · rw [if_pos h3] at hf
        refine .inl ⟨by rw [h3], ?_, ?_⟩
        · rw [← he, hf]
        · rw [← hr, hf, List.length_drop]
      · rw [if_neg h3] at hf
        refine .inr ⟨e, rfl, h3, ?_, ?_⟩
        · rw [← he, hf]
        · rw [← hr, hf]
    | ok x =>
      obtain ⟨r, N⟩ := x
      rw [hread] at hf
      simp only at hf
      split at hf
      · rw [hf] at hl; cases hl
      · rw [hf] at hl; cases hl
  · exact .inl ⟨r, h5, h6, h7, h8, h9⟩
end Go.Proofs.YtojemdggbcklkaaDoor.WireR
