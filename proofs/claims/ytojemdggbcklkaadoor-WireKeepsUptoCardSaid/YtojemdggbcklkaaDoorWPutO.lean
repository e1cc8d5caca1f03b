/- Feed.Put once more: its requests are rows of their own, each by itself. (Printed by mkwputo.py.) -/
import Derived.Test.YtojemdggbcklkaaDoorWNext
namespace Go.Proofs.YtojemdggbcklkaaDoor.WireR
open Go.RowKit Go.Proofs.YtojemdggbcklkaaDoor.Mem Go.Proofs.YtojemdggbcklkaaDoor.Wire Go.Proofs.YtojemdggbcklkaaDoor.Strs Go.Proofs.YtojemdggbcklkaaDoor.Heads
set_option linter.unusedVariables false
set_option linter.unusedSimpArgs false
set_option maxRecDepth 4000

/-- the five cells of a request whose rows are its own: its headers in [lo, m), its body in [m, hi), none of them o -/
def RqO (w : World) (o : Option Nat) (lo hi : Nat) (c : List Value) (r : Req) : Prop :=
  ∃ A k A2 k2 m, c = [.string ⟨r.method.toArray⟩, .string ⟨r.target.toArray⟩, .slice A r.headers.length k, .slice A2 r.body.length k2, .bool r.close] ∧ lo ≤ m ∧ m ≤ hi ∧
    w.ownsRow lo 58 2 (.slice A r.headers.length k) r.headers.length (hdrV r.headers) ∧ (∀ X, (Value.slice A r.headers.length k).ownBlock = some X → X < m ∧ some X ≠ o) ∧
    w.ownsRow m 5 1 (.slice A2 r.body.length k2) r.body.length (r.body.map bv) ∧ (∀ X, (Value.slice A2 r.body.length k2).ownBlock = some X → X < hi ∧ some X ≠ o)
theorem RqO.keep {w w' : World} {o : Option Nat} {lo hi : Nat} {c : List Value} {r : Req} (h : RqO w o lo hi c r) (hk : ∀ k, lo ≤ k → k < hi → some k ≠ o → w'.heap[k]? = w.heap[k]?) : RqO w' o lo hi c r := by
  obtain ⟨A, k, A2, k2, m, e, h1, h2, h3, h4, h5, h6⟩ := h
  exact ⟨A, k, A2, k2, m, e, h1, h2, own_keep h3 (fun X e _ => hk X (h3.lt X e).1 (by have := (h4 X e).1; omega) (h4 X e).2), h4, own_keep h5 (fun X e _ => hk X (Nat.le_trans h1 (h5.lt X e).1) (h6 X e).1 (h6 X e).2), h6⟩
theorem RqO.off {w : World} {o o' : Option Nat} {lo hi : Nat} {c : List Value} {r : Req} (h : RqO w o lo hi c r) (hk : ∀ k, lo ≤ k → k < hi → some k ≠ o → some k ≠ o') : RqO w o' lo hi c r := by
  obtain ⟨A, k, A2, k2, m, e, h1, h2, h3, h4, h5, h6⟩ := h
  exact ⟨A, k, A2, k2, m, e, h1, h2, h3, fun X e => ⟨(h4 X e).1, hk X (h3.lt X e).1 (by have := (h4 X e).1; omega) (h4 X e).2⟩, h5, fun X e => ⟨(h6 X e).1, hk X (Nat.le_trans h1 (h5.lt X e).1) (h6 X e).1 (h6 X e).2⟩⟩
theorem RqO.base {w : World} {o : Option Nat} {lo lo' hi : Nat} {c : List Value} {r : Req} (h : RqO w o lo hi c r) (hl : lo' ≤ lo) : RqO w o lo' hi c r := by
  obtain ⟨A, k, A2, k2, m, e, h1, h2, h3, h4, h5, h6⟩ := h
  exact ⟨A, k, A2, k2, m, e, Nat.le_trans hl h1, h2, own_base h3 hl, h4, h5, h6⟩
theorem RqO.le {w : World} {o : Option Nat} {lo hi : Nat} {c : List Value} {r : Req} (h : RqO w o lo hi c r) : lo ≤ hi := by
  obtain ⟨A, k, A2, k2, m, e, h1, h2, _⟩ := h
  exact Nat.le_trans h1 h2
theorem RqO.any {w : World} {o : Option Nat} {lo hi : Nat} {c : List Value} {r : Req} (h : RqO w o lo hi c r) : RqC w lo o c r := by
  obtain ⟨A, k, A2, k2, m, e, h1, h2, h3, h4, h5, h6⟩ := h
  have g1 : ∀ ad, A = some ad → some ad.block ≠ o ∧ lo ≤ ad.block := fun ad ea => by
    rcases h3.2 with ⟨hn, _⟩ | ⟨g, cap, cur, e9, hg, _⟩
    · injection hn with hn; rw [hn] at ea; cases ea
    · injection e9 with e9
      have : ad.block = g := by rw [ea] at e9; injection e9 with e9; rw [e9]
      rw [this]
      exact ⟨(h4 g (by rw [e9]; rfl)).2, hg⟩
  have g2 : ∀ ad, A2 = some ad → some ad.block ≠ o ∧ m ≤ ad.block := fun ad ea => by
    rcases h5.2 with ⟨hn, _⟩ | ⟨g, cap, cur, e9, hg, _⟩
    · injection hn with hn; rw [hn] at ea; cases ea
    · injection e9 with e9
      have : ad.block = g := by rw [ea] at e9; injection e9 with e9; rw [e9]
      rw [this]
      exact ⟨(h6 g (by rw [e9]; rfl)).2, hg⟩
  exact ⟨A, k, A2, k2, e, own_rv h3, (own_rv h5).rb, own_spot h3, fun _ ad ea => (g1 ad ea).1, fun _ ad ea => (g2 ad ea).1, fun ad ea => (g1 ad ea).2, fun ad ea => Nat.le_trans h1 (g2 ad ea).2⟩
/-- requests one behind another -/
def Chn (w : World) (o : Option Nat) : Nat → List (List Value) → List Req → Nat → Prop
  | lo, [], [], hi => lo ≤ hi
  | lo, c :: cs, r :: rs, hi => ∃ mid, RqO w o lo mid c r ∧ Chn w o mid cs rs hi
  | _, _, _, _ => False
theorem Chn.le {w : World} {o : Option Nat} : ∀ {lo hi : Nat} {cs : List (List Value)} {rs : List Req}, Chn w o lo cs rs hi → lo ≤ hi
  | _, _, [], [], h => h
  | _, _, c :: cs, r :: rs, ⟨mid, h1, h2⟩ => Nat.le_trans h1.le h2.le
  | _, _, [], _ :: _, h => h.elim
  | _, _, _ :: _, [], h => h.elim
theorem Chn.keep {w w' : World} {o : Option Nat} : ∀ {lo hi : Nat} {cs : List (List Value)} {rs : List Req}, Chn w o lo cs rs hi → (∀ k, lo ≤ k → k < hi → some k ≠ o → w'.heap[k]? = w.heap[k]?) → Chn w' o lo cs rs hi
  | _, _, [], [], h, _ => h
  | _, _, c :: cs, r :: rs, ⟨mid, h1, h2⟩, hk => ⟨mid, h1.keep (fun k a b => hk k a (Nat.lt_of_lt_of_le b h2.le)), h2.keep (fun k a b => hk k (Nat.le_trans h1.le a) b)⟩
  | _, _, [], _ :: _, h, _ => h.elim
  | _, _, _ :: _, [], h, _ => h.elim
theorem Chn.off {w : World} {o o' : Option Nat} : ∀ {lo hi : Nat} {cs : List (List Value)} {rs : List Req}, Chn w o lo cs rs hi → (∀ k, lo ≤ k → k < hi → some k ≠ o → some k ≠ o') → Chn w o' lo cs rs hi
  | _, _, [], [], h, _ => h
  | _, _, c :: cs, r :: rs, ⟨mid, h1, h2⟩, hk => ⟨mid, h1.off (fun k a b => hk k a (Nat.lt_of_lt_of_le b h2.le)), h2.off (fun k a b => hk k (Nat.le_trans h1.le a) b)⟩
  | _, _, [], _ :: _, h, _ => h.elim
  | _, _, _ :: _, [], h, _ => h.elim
theorem Chn.wide {w : World} {o : Option Nat} : ∀ {lo hi hi' : Nat} {cs : List (List Value)} {rs : List Req}, Chn w o lo cs rs hi → hi ≤ hi' → Chn w o lo cs rs hi'
  | _, _, _, [], [], h, hh => Nat.le_trans h hh
  | _, _, _, c :: cs, r :: rs, ⟨mid, h1, h2⟩, hh => ⟨mid, h1, h2.wide hh⟩
  | _, _, _, [], _ :: _, h, _ => h.elim
  | _, _, _, _ :: _, [], h, _ => h.elim
theorem Chn.base {w : World} {o : Option Nat} {lo' : Nat} : ∀ {lo hi : Nat} {cs : List (List Value)} {rs : List Req}, Chn w o lo cs rs hi → lo' ≤ lo → Chn w o lo' cs rs hi
  | _, _, [], [], h, hl => Nat.le_trans hl h
  | _, _, c :: cs, r :: rs, ⟨mid, h1, h2⟩, hl => ⟨mid, h1.base hl, h2⟩
  | _, _, [], _ :: _, h, _ => h.elim
  | _, _, _ :: _, [], h, _ => h.elim
theorem Chn.snoc {w : World} {o : Option Nat} {c : List Value} {r : Req} {mid hi : Nat} (hc : RqO w o mid hi c r) : ∀ {lo : Nat} {cs : List (List Value)} {rs : List Req}, Chn w o lo cs rs mid → Chn w o lo (cs ++ [c]) (rs ++ [r]) hi
  | _, [], [], h => ⟨hi, hc.base h, Nat.le_refl _⟩
  | _, d :: cs, q :: rs, ⟨m, h1, h2⟩ => ⟨m, h1, Chn.snoc hc h2⟩
  | _, [], _ :: _, h => h.elim
  | _, _ :: _, [], h => h.elim
theorem Chn.join {w : World} {o : Option Nat} {cs2 : List (List Value)} {rs2 : List Req} {mid hi : Nat} (hc : Chn w o mid cs2 rs2 hi) : ∀ {lo : Nat} {cs : List (List Value)} {rs : List Req}, Chn w o lo cs rs mid → Chn w o lo (cs ++ cs2) (rs ++ rs2) hi
  | _, [], [], h => hc.base h
  | _, d :: cs, q :: rs, ⟨m, h1, h2⟩ => ⟨m, h1, Chn.join hc h2⟩
  | _, [], _ :: _, h => h.elim
  | _, _ :: _, [], h => h.elim
theorem RqC.lower {w : World} {B B' : Nat} {o : Option Nat} {c : List Value} {r : Req} (h : RqC w B o c r) (hb : B' ≤ B) : RqC w B' o c r := by
  obtain ⟨A, k, A2, k2, e, x1, x2, x3, x4, x5, x6, x7⟩ := h
  exact ⟨A, k, A2, k2, e, x1, x2, x3, x4, x5, fun ad ea => Nat.le_trans hb (x6 ad ea), fun ad ea => Nat.le_trans hb (x7 ad ea)⟩
theorem Chn.all {w : World} {o : Option Nat} {B : Nat} : ∀ {lo hi : Nat} {cs : List (List Value)} {rs : List Req}, Chn w o lo cs rs hi → B ≤ lo → All2 (RqC w B o) cs rs
  | _, _, [], [], h, _ => trivial
  | _, _, c :: cs, r :: rs, ⟨mid, h1, h2⟩, hb => ⟨h1.any.lower hb, h2.all (Nat.le_trans hb h1.le)⟩
  | _, _, [], _ :: _, h, _ => h.elim
  | _, _, _ :: _, [], h, _ => h.elim
/-- an own list of requests, each with its own rows; all of it in [B, K) -/
structure RLO (w : World) (B K : Nat) (v : Value) (rs : List Req) : Prop where
  ex : ∃ rows : List (List Value), w.ownsRow B 30 5 v rs.length rows.flatten ∧ Chn w v.ownBlock B rows rs K ∧ ∀ X, v.ownBlock = some X → X < K
theorem RLO.nil (w : World) {B K : Nat} (h : B ≤ K) : RLO w B K (.slice none 0 0) [] := ⟨[], World.ownsRow_nil w _ _ _, h, fun X e => by cases e⟩
theorem RLO.keep {w w' : World} {B K : Nat} {v : Value} {rs : List Req} (h : RLO w B K v rs) (hk : ∀ k, B ≤ k → k < K → w'.heap[k]? = w.heap[k]?) : RLO w' B K v rs := by
  obtain ⟨rows, h1, h2, h3⟩ := h.ex
  exact ⟨rows, own_keep h1 (fun X e hX => hk X (h1.lt X e).1 (h3 X e)), h2.keep (fun k a b _ => hk k a b), h3⟩
theorem RLO.below {w w' : World} {B K : Nat} {v : Value} {rs : List Req} (h : RLO w B K v rs) (hb : Below K w w') : RLO w' B K v rs := h.keep (fun k _ hk => hb.block k hk)
theorem RLO.wide {w : World} {B K K' : Nat} {v : Value} {rs : List Req} (h : RLO w B K v rs) (hk : K ≤ K') : RLO w B K' v rs := by
  obtain ⟨rows, h1, h2, h3⟩ := h.ex
  exact ⟨rows, h1, h2.wide hk, fun X e => Nat.lt_of_lt_of_le (h3 X e) hk⟩
theorem RLO.far {w w' : World} {B K G : Nat} {v : Value} {rs : List Req} (h : RLO w B K v rs) (hb : w.grownBy w' (some G)) (hG : G < B) (hK : K ≤ w.heap.size) : RLO w' B K v rs :=
  h.keep (fun k a b => hb.block k (by omega) (fun e => by injection e with e; omega))
theorem RLO.base {w : World} {B B' K : Nat} {v : Value} {rs : List Req} (h : RLO w B' K v rs) (hb : B ≤ B') : RLO w B K v rs := by
  obtain ⟨rows, h1, h2, h3⟩ := h.ex
  exact ⟨rows, own_base h1 hb, h2.base hb, h3⟩
theorem RLO.rl {w : World} {B K : Nat} {v : Value} {rs : List Req} (h : RLO w B K v rs) : RL w B v rs := by
  obtain ⟨rows, h1, h2, h3⟩ := h.ex
  exact ⟨rows, h1, h2.all (Nat.le_refl _)⟩
theorem RLO.slice {w : World} {B K : Nat} {v : Value} {rs : List Req} (h : RLO w B K v rs) : ∃ A c, v = .slice A rs.length c ∧ rs.length ≤ c := h.rl.slice
theorem RLO.lt {w : World} {B K : Nat} {v : Value} {rs : List Req} (h : RLO w B K v rs) : ∀ G, v.ownBlock = some G → G < K := by
  obtain ⟨rows, h1, h2, h3⟩ := h.ex
  exact h3
theorem RLO.push {wr w2 w5 w6 : World} {B : Nat} {v v' : Value} {rs : List Req} {r : Req} {rows : List (List Value)} {A1 P1 : Option Addr} {k1 q1 K1 hm bl : Nat} {smm stg : ByteArray} {cl : Bool}
    (h2 : Chn w5 v.ownBlock B rows rs wr.heap.size) (h3 : ∀ X, v.ownBlock = some X → X < wr.heap.size)
    (ho1 : w2.ownsRow wr.heap.size 58 2 (.slice A1 hm k1) hm (hdrV r.headers)) (hK1 : ∀ X, (Value.slice A1 hm k1).ownBlock = some X → X < K1) (hw1 : wr.heap.size ≤ K1) (hob1 : w2.ownsRow K1 5 1 (.slice P1 bl q1) bl (r.body.map bv))
    (e1 : smm = ⟨r.method.toArray⟩) (e2 : stg = ⟨r.target.toArray⟩) (e3 : hm = r.headers.length) (e4 : bl = r.body.length) (e5 : cl = r.close)
    (hb2 : wr.heap.size ≤ w2.heap.size) (hb25 : Below w2.heap.size w2 w5) (ho6 : w6.ownsRow B 30 5 v' (rs.length + 1) (rows.flatten ++ [.string smm, .string stg, .slice A1 hm k1, .slice P1 bl q1, .bool cl])) (hg6 : w5.grownBy w6 v.ownBlock) (hv6 : v'.ownBlock = v.ownBlock ∨ v'.ownBlock = some w5.heap.size) : RLO w6 B w6.heap.size v' (rs ++ [r]) := by
  subst e1 e2 e3 e4 e5
  have s1 := hb25.size
  have s2 := hg6.size
  have hq : RqO w5 v.ownBlock wr.heap.size w5.heap.size [.string ⟨r.method.toArray⟩, .string ⟨r.target.toArray⟩, .slice A1 r.headers.length k1, .slice P1 r.body.length q1, .bool r.close] r := by
    refine ⟨A1, k1, P1, q1, min K1 w2.heap.size, rfl, Nat.le_min.2 ⟨hw1, hb2⟩, Nat.le_trans (Nat.min_le_right _ _) s1, own_below' ho1 hb25, fun X e => ⟨Nat.lt_min.2 ⟨hK1 X e, (ho1.lt X e).2⟩, fun e2 => ?_⟩, own_base (own_below' hob1 hb25) (Nat.min_le_left _ _), fun X e => ⟨?_, fun e2 => ?_⟩⟩
    · have := (ho1.lt X e).1; have := h3 X e2.symm; omega
    · have := (hob1.lt X e).2; omega
    · have := (hob1.lt X e).1; have := h3 X e2.symm; omega
  have hc5 := Chn.snoc hq h2
  have hc6 : Chn w6 v.ownBlock B (rows ++ [[.string ⟨r.method.toArray⟩, .string ⟨r.target.toArray⟩, .slice A1 r.headers.length k1, .slice P1 r.body.length q1, .bool r.close]]) (rs ++ [r]) w5.heap.size := hc5.keep (fun k _ hk hne => hg6.block k hk hne)
  refine ⟨rows ++ [[.string ⟨r.method.toArray⟩, .string ⟨r.target.toArray⟩, .slice A1 r.headers.length k1, .slice P1 r.body.length q1, .bool r.close]], ?_, ?_, fun X e => (ho6.lt X e).2⟩
  · rw [List.length_append, List.flatten_append]
    simpa using ho6
  · refine Chn.wide (hc6.off (fun k _ hk hne e => ?_)) s2
    rcases hv6 with h | h
    · exact hne (e.trans h)
    · rw [h] at e; injection e with e; omega
/-- what Put leaves: its requests in [w's size, K), what is held from K on -/
def PutPostO (w : World) (G : Nat) (o : Option Nat) (f : Fed) (e : Ending) (w' : World) : Prop :=
  Fr G o w w' ∧ ∃ v v0 K, e = .returned (.tuple #[v, .int .i64 (f.e : Nat)]) ∧ w.heap.size ≤ K ∧ K ≤ w'.heap.size ∧ RLO w' w.heap.size K v f.l ∧ FeedAt w' G K v0 f.rest f.done f.e
theorem size_set (w : World) (g i : Nat) (x : Value) : (w.setCell ⟨g, i, none⟩ x).heap.size = w.heap.size := by
  simp [World.setCell]
structure PtStO (W wr : World) (buf : Bytes) (v : Value) (l : List Req) (at_ : Nat) : Prop where
  le : at_ ≤ buf.length
  low : Below W.heap.size W wr
  rl : RLO wr W.heap.size wr.heap.size v l
  eq : feedS buf = ⟨l ++ (feedS (buf.drop at_)).l, (feedS (buf.drop at_)).rest, (feedS (buf.drop at_)).e, (feedS (buf.drop at_)).done⟩
  tl : l.length ≤ at_
set_option maxHeartbeats 16000000 in
theorem put_own {w : World} {G B : Nat} {v : Value} {held : Bytes} (h : FeedAt w G B v held false 0) (P : Option Addr) (pn pc : Nat) (piece : Bytes) (hP : RB w P piece) (hpn : pn = piece.length) (hB : B ≤ w.heap.size) (hbig : held.length + piece.length ≤ 16777216) :
    Calls Tryd.prog 21 #[.pointer (some ⟨G, 0, none⟩), .slice P pn pc] w (PutPostO w G v.ownBlock (feedS (held ++ piece))) := by
  obtain ⟨H0, hc, rfl, hhc⟩ := own_slice h.own
  have d0 := h.blk.cell 0
  have d1 := h.blk.cell 1
  simp only [List.getElem?_cons_succ, List.getElem?_cons_zero] at d0 d1
  obtain ⟨hl, hhl⟩ : ∃ n, n = held.length := ⟨_, rfl⟩
  have hne : ∀ X, (Value.slice H0 held.length hc).ownBlock = some X → G < X := fun X e => Nat.lt_of_lt_of_le h.gb (h.own.lt X e).1
  rw [← hhl] at d0 hne ⊢
  have hown := h.own
  rw [← hhl] at hown
  have HH := Lib.hid (And.intro h (And.intro hown (And.intro hP (And.intro hpn (And.intro hB (And.intro hbig (And.intro hhl hne)))))))
  obtain ⟨buf, hbuf⟩ : ∃ b, b = held ++ piece := ⟨_, rfl⟩
  obtain ⟨nb, hnb⟩ : ∃ b, b = buf.length := ⟨_, rfl⟩
  have hnb2 : hl + pn = nb := by rw [hnb, hbuf, List.length_append, hhl, hpn]
  rw [← hbuf]
  have HN := Lib.hid (And.intro hbuf (And.intro hnb (And.intro hnb2 (show nb ≤ 16777216 by omega))))
  clear h hown hP hpn hB hbig hhl hhc hbuf hnb hnb2 hne
  go_enter Tryd.func21, Tryd.ntmps21
  go_upto_region 6 with (first
    | ((with_reducible show wpList _ _ _ (⟨some 27, _, _, _, _, _⟩ :: _) _ _); go_must (refine wpList_app EB rfl (.tmp 25) (.tmp 26) rfl B (.slice H0 hl hc) hl (held.map bv) rfl HH.out.2.1 P pn pc (piece.map bv) rfl HH.out.2.2.1.rv (by rw [List.length_map, HH.out.2.2.2.1]; simp) (by intro u hu; rw [List.mem_map] at hu; obtain ⟨_, _, rfl⟩ := hu; rfl) (by have := HN.out; unfold maxLen; omega) (by have := HN.out; omega) HH.out.2.2.2.2.1 ?_); intro v1 w1 ho1 hg1 hv1
       have hBk := HH.out.1.blk.grown hg1 (fun e => by have := HH.out.2.2.2.2.2.2.2 G e.symm; omega)
       have e0 := hBk.cell 0
       have g0 := hBk.frozen 0
       simp only [List.getElem?_cons_zero] at e0
       have ho1' : w1.ownsRow B 5 1 v1 nb (buf.map bv) := by rw [HN.out.1, List.map_append, ← HN.out.2.2.1]; exact ho1
       obtain ⟨S1, cb, rfl, hcb⟩ := own_slice ho1'
       have H1 := Lib.hid (And.intro ho1' (And.intro hg1 (And.intro hBk hcb)))
       clear ho1 ho1' hg1 hv1 hBk hcb d0))
  obtain ⟨W, hW⟩ : ∃ x, x = w1.setCell ⟨G, 0, none⟩ (.slice S1 nb cb) := ⟨_, rfl⟩
  rw [← hW]
  have HG : Blk W G 78 [.slice S1 nb cb, .bool false, .int .i64 0] := hW ▸ H1.out.2.2.1.set_ 0 _
  have HO : W.ownsRow B 5 1 (.slice S1 nb cb) nb (buf.map bv) := hW ▸ own_line H1.out.1 (grownBy_set w1 G 0 _) HH.out.1.gb
  have HF : Fr G (Value.slice H0 hl hc).ownBlock w W := hW ▸ (Fr.of H1.out.2.1).grown (grownBy_set w1 G 0 _)
  have SW := Lib.hid (And.intro HG (And.intro HO (And.intro HF H1.out.2.2.2)))
  clear HG HO HF hW d1 e0 g0
  go_wp2
  go_loopw [6, 7] (fun v6 v7 wr => ∃ (a : Nat) (l : List Req), v7 = .int .i64 a ∧ PtStO W wr buf v6 l a) (fun _ v7 _ => nb - (intOf v7).toNat)
  case atStart => exact ⟨0, [], rfl, ⟨Nat.zero_le _, gr W, RLO.nil W (Nat.le_refl _), by simp, by simp⟩⟩
  case round =>
    obtain ⟨a, l, rfl, FS⟩ := hrel
    replace FS := Lib.hid FS
    obtain ⟨A5, k5, hv5, _⟩ := FS.out.rl.slice
    subst hv5
    obtain ⟨D9, hD9⟩ : ∃ D, D = (if cb = a then S1 else S1.map (·.add a)) := ⟨_, rfl⟩
    have hanb : a ≤ nb := by have := FS.out.le; have := HN.out.2.1; omega
    have hrb : RB wr D9 (buf.drop a) := by
      rw [hD9]; exact rb_behind (((own_rv SW.out.2.1).rb).below FS.out.low) FS.out.le (by have := HN.out.2.1; have := SW.out.2.2.2; omega)
    obtain ⟨t, ht⟩ : ∃ t, t = buf.drop a := ⟨_, rfl⟩
    obtain ⟨tn, htn⟩ : ∃ x, x = nb - a := ⟨_, rfl⟩
    have htl : tn = t.length := by rw [ht, List.length_drop, htn, HN.out.2.1]
    have heq := FS.out.eq
    rw [← ht] at hrb heq
    have cr := read_any D9 tn (cb - a) t wr hrb htl (by have := SW.out.2.2.2; omega) (by have := HN.out; omega)
    have hfe := feedS_eq t
    have d0 := (SW.out.1.grow FS.out.low).cell 0
    simp only [List.getElem?_cons_zero] at d0
    have HD9 := Lib.hid hD9
    have HA9 := Lib.hid hanb
    have HT := Lib.hid (And.intro ht (And.intro htl (And.intro htn hrb)))
    clear hD9 hanb hrb ht htl htn
    cases hr : readAll t with
    | error er =>
      rw [hr] at cr
      have her := all_err hr
      have CR := Lib.hid cr
      rw [hr] at hfe
      simp only at hfe
      by_cases h3 : er = 283
      · rw [if_pos h3] at hfe
        have b3 : ((er : Int) == 283) = true := by simp; omega
        rw [hfe] at heq
        have HE := Lib.hid heq
        clear cr hr her h3 hfe heq
        go_upto_region 9 with (first
          | ((with_reducible show wpList _ _ _ (⟨some 36, _, _, _, _, _⟩ :: _) _ _); go_must (refine wpList_behind rfl (.tmp 34) (.tmp 35) rfl rfl rfl HA9.out ?_); intro D9' hD9'; obtain rfl : D9 = D9' := HD9.out.trans hD9'.symm; clear hD9'; rw [← HT.out.2.2.1])
          | (go_at_call 16; go_must (refine (CR.out).mono ?_); rintro e w2 hp; obtain ⟨hb, rfl⟩ := hp; have A2 := Lib.hid hb; clear hb)
          | ((with_reducible show wpList _ _ _ (⟨some 8, .alloc _, _, _, _, _⟩ :: _) _ _); go_must (refine wpList_allocB AR rfl rfl w2.heap.size rfl ?_); intro w3 hBx hbx hzx; have H3 := Lib.hid (And.intro hBx hbx); clear hBx hbx hzx)
          | ((with_reducible show wpList _ _ _ (⟨none, .store _ (.tmp 8) _, _, _, _, _⟩ :: _) _ _); go_must (refine wpList_storeB AR rfl (.tmp 8) (.tmp 38) rfl w2.heap.size 0 rfl [.string ⟨#[]⟩, .string ⟨#[]⟩, .slice none 0 0, .slice none 0 0, .bool false] rfl rfl _ _ H3.out.1 (by simp) (by simp [Value.oneCell']) ?_); intro w4 hBy hgy hzy
             simp only [splice, List.take_zero, List.nil_append, List.length_cons, List.length_nil, List.drop_succ_cons, List.drop_zero, List.append_nil, Nat.zero_add, List.drop_nil] at hBy
             have D4 := Lib.hid (H3.out.2.grown hgy H3.out.2.size (fun j hj => by injection hj with hj; omega))
             have C4 := Lib.hid hBy
             have B4 := Lib.hid (gt A2.out D4.out)
             clear hBy hgy hzy))
        have hBg := (SW.out.1.grow FS.out.low).grow B4.out
        have x0 := hBg.cell 0
        have x1 := hBg.cell 1
        have x2 := hBg.cell 2
        have y0 := hBg.frozen 0
        have y1 := hBg.frozen 1
        have y2 := hBg.frozen 2
        simp only [List.getElem?_cons_succ, List.getElem?_cons_zero] at x0 x1 x2
        have HBG := Lib.hid hBg
        clear hBg d0
        go_wp2_with (first
          | ((with_reducible show wpList _ _ _ (⟨some 49, _, _, _, _, _⟩ :: _) _ _); go_must (refine wpList_behind rfl (.tmp 47) (.tmp 48) rfl rfl rfl HA9.out ?_); intro D9' hD9'; obtain rfl : D9 = D9' := HD9.out.trans hD9'.symm; clear hD9'; rw [← HT.out.2.2.1])
          | ((with_reducible show wpList _ _ _ (⟨some 50, _, _, _, _, _⟩ :: _) _ _); go_must (refine wpList_app EB rfl (.const (.slice none 0 0)) (.tmp 49) rfl wr.heap.size (.slice none 0 0) 0 [] rfl ⟨rfl, .inl ⟨rfl, rfl⟩⟩ D9 tn (cb - a) (t.map bv) rfl ((HT.out.2.2.2.below B4.out).rv) (by rw [List.length_map, ← HT.out.2.1]; simp) (by intro u hu; rw [List.mem_map] at hu; obtain ⟨_, _, rfl⟩ := hu; rfl) (by have := HN.out; have := HT.out.2.2.1; unfold maxLen; omega) (by have := HN.out; have := HT.out.2.2.1; omega) B4.out.size ?_); intro v5 w5 ho5 hg5 hv5; rw [List.nil_append, Nat.zero_add] at ho5; have hb5 : Below w4.heap.size w4 w5 := (Below.refl _ _).grown hg5 (Nat.le_refl _) (fun k hk => by cases hk); have B5 := Lib.hid (gt B4.out hb5); have O5 := Lib.hid ho5; obtain ⟨S5, c5, rfl, _⟩ := own_slice ho5; have hBg5 := HBG.out.grow hb5; have z0 := hBg5.cell 0; have r0 := hBg5.frozen 0; simp only [List.getElem?_cons_zero] at z0; have HBG5 := Lib.hid hBg5; clear ho5 hg5 hv5 hb5 hBg5 x0 x1 x2 y0 y1 y2))
        go_ret2
        rw [HE.out]
        have hfr := (SW.out.2.2.1.below FS.out.low SW.out.2.2.1.size).below B5.out (by have := SW.out.2.2.1.size; have := FS.out.low.size; omega)
        refine ⟨hfr.grown (grownBy_set w5 G 0 _), .slice A5 l.length k5, .slice S5 tn c5, wr.heap.size, rfl, Nat.le_trans SW.out.2.2.1.size FS.out.low.size, by rw [size_set]; exact B5.out.size, ?_, ?_⟩
        · rw [List.append_nil]
          exact ((FS.out.rl.below B5.out).far (grownBy_set w5 G 0 _) SW.out.1.lt B5.out.size).base SW.out.2.2.1.size
        · refine ⟨HBG5.out.set_ 0 _, ?_, Nat.lt_of_lt_of_le SW.out.1.lt FS.out.low.size⟩
          have ho := own_line O5.out (grownBy_set w5 G 0 (.slice S5 tn c5)) (by have := SW.out.1.lt; have := FS.out.low.size; omega)
          have ho2 : (w5.setCell ⟨G, 0, none⟩ (.slice S5 tn c5)).ownsRow wr.heap.size 5 1 (.slice S5 tn c5) t.length (t.map bv) := by rw [← HT.out.2.1]; exact ho
          exact ho2
      · rw [if_neg h3] at hfe
        have b3 : ((er : Int) == 283) = false := by rw [beq_eq_false_iff_ne]; omega
        have b0 : ((er : Int) == 0) = false := by rw [beq_eq_false_iff_ne]; omega
        rw [hfe] at heq
        have HE := Lib.hid heq
        clear cr hr her h3 hfe heq
        go_upto_region 9 with (first
          | ((with_reducible show wpList _ _ _ (⟨some 36, _, _, _, _, _⟩ :: _) _ _); go_must (refine wpList_behind rfl (.tmp 34) (.tmp 35) rfl rfl rfl HA9.out ?_); intro D9' hD9'; obtain rfl : D9 = D9' := HD9.out.trans hD9'.symm; clear hD9'; rw [← HT.out.2.2.1])
          | (go_at_call 16; go_must (refine (CR.out).mono ?_); rintro e w2 hp; obtain ⟨hb, rfl⟩ := hp; have A2 := Lib.hid hb; clear hb)
          | ((with_reducible show wpList _ _ _ (⟨some 8, .alloc _, _, _, _, _⟩ :: _) _ _); go_must (refine wpList_allocB AR rfl rfl w2.heap.size rfl ?_); intro w3 hBx hbx hzx; have H3 := Lib.hid (And.intro hBx hbx); clear hBx hbx hzx)
          | ((with_reducible show wpList _ _ _ (⟨none, .store _ (.tmp 8) _, _, _, _, _⟩ :: _) _ _); go_must (refine wpList_storeB AR rfl (.tmp 8) (.tmp 38) rfl w2.heap.size 0 rfl [.string ⟨#[]⟩, .string ⟨#[]⟩, .slice none 0 0, .slice none 0 0, .bool false] rfl rfl _ _ H3.out.1 (by simp) (by simp [Value.oneCell']) ?_); intro w4 hBy hgy hzy
             simp only [splice, List.take_zero, List.nil_append, List.length_cons, List.length_nil, List.drop_succ_cons, List.drop_zero, List.append_nil, Nat.zero_add, List.drop_nil] at hBy
             have D4 := Lib.hid (H3.out.2.grown hgy H3.out.2.size (fun j hj => by injection hj with hj; omega))
             have C4 := Lib.hid hBy
             have B4 := Lib.hid (gt A2.out D4.out)
             clear hBy hgy hzy))
        have hBg := (SW.out.1.grow FS.out.low).grow B4.out
        have x0 := hBg.cell 0
        have x1 := hBg.cell 1
        have x2 := hBg.cell 2
        have y0 := hBg.frozen 0
        have y1 := hBg.frozen 1
        have y2 := hBg.frozen 2
        simp only [List.getElem?_cons_succ, List.getElem?_cons_zero] at x0 x1 x2
        have HBG := Lib.hid hBg
        clear hBg d0
        go_wp2_with fail
        go_ret2
        have hg := ((grownBy_set w4 G 1 (.bool true)).trans (grownBy_set _ G 2 (.int .i64 (er : Int)))).trans (grownBy_set _ G 0 (.slice none 0 0))
        have hfr := (SW.out.2.2.1.below FS.out.low SW.out.2.2.1.size).below B4.out (by have := SW.out.2.2.1.size; have := FS.out.low.size; omega)
        rw [HE.out]
        refine ⟨hfr.grown hg, _, .slice none 0 0, wr.heap.size, rfl, Nat.le_trans SW.out.2.2.1.size FS.out.low.size, Nat.le_trans B4.out.size hg.size, ?_, ?_⟩
        · rw [List.append_nil]
          exact ((FS.out.rl.below B4.out).far hg SW.out.1.lt B4.out.size).base SW.out.2.2.1.size
        · exact ⟨((HBG.out.set_ 1 _).set_ 2 _).set_ 0 _, World.ownsRow_nil _ _ _ _, Nat.lt_of_lt_of_le SW.out.1.lt FS.out.low.size⟩
    | ok x =>
      obtain ⟨r, N⟩ := x
      have hok := all_ok hr
      rw [hr] at cr
      obtain ⟨smm, hsm⟩ : ∃ x, x = (⟨r.method.toArray⟩ : ByteArray) := ⟨_, rfl⟩
      obtain ⟨stg, hst⟩ : ∃ x, x = (⟨r.target.toArray⟩ : ByteArray) := ⟨_, rfl⟩
      obtain ⟨hm, hhm⟩ : ∃ x, x = r.headers.length := ⟨_, rfl⟩
      obtain ⟨bl, hbl⟩ : ∃ x, x = r.body.length := ⟨_, rfl⟩
      obtain ⟨cl, hcl⟩ : ∃ x, x = r.close := ⟨_, rfl⟩
      unfold ReadPost at cr
      simp only at cr
      rw [← hsm, ← hst, ← hhm, ← hbl, ← hcl] at cr
      have CR := Lib.hid cr
      rw [hr] at hfe
      simp only at hfe
      rw [← hcl] at hfe
      rw [hfe] at heq
      have HQ := Lib.hid (And.intro hsm (And.intro hst (And.intro hhm (And.intro hbl hcl))))
      have hNt : N ≤ tn := by rw [HT.out.2.1]; exact hok.2.1
      have HK := Lib.hid (And.intro hok.1 (And.intro hNt (show l.length ≤ 16777216 by have := FS.out.tl; have := HA9.out; have := HN.out; omega)))
      clear cr hr hok hfe hsm hst hhm hbl hcl hNt
      cases cl
      · rw [if_neg (by simp)] at heq
        have HE := Lib.hid heq
        clear heq
        go_wp2_with (first
          | ((with_reducible show wpList _ _ _ (⟨some 36, _, _, _, _, _⟩ :: _) _ _); go_must (refine wpList_behind rfl (.tmp 34) (.tmp 35) rfl rfl rfl HA9.out ?_); intro D9' hD9'; obtain rfl : D9 = D9' := HD9.out.trans hD9'.symm; clear hD9'; rw [← HT.out.2.2.1])
          | (go_at_call 16; go_must (refine (CR.out).mono ?_); rintro e w2 hp; obtain ⟨hb, A1, k1, P1, q1, K1, rfl, ho1, hK1, hw1, hob1⟩ := hp; have A2 := Lib.hid hb; have R1 := Lib.hid (And.intro ho1 (And.intro hK1 (And.intro hw1 hob1))); clear ho1 hK1 hw1 hob1; clear hb)
          | ((with_reducible show wpList _ _ _ (⟨some 8, .alloc _, _, _, _, _⟩ :: _) _ _); go_must (refine wpList_allocB AR rfl rfl w2.heap.size rfl ?_); intro w3 hBx hbx hzx; have H3 := Lib.hid (And.intro hBx hbx); clear hBx hbx hzx)
          | ((with_reducible show wpList _ _ _ (⟨none, .store _ (.tmp 8) _, _, _, _, _⟩ :: _) _ _); go_must (refine wpList_storeB AR rfl (.tmp 8) (.tmp 38) rfl w2.heap.size 0 rfl [.string smm, .string stg, .slice A1 hm k1, .slice P1 bl q1, .bool false] rfl rfl _ _ H3.out.1 (by simp) (by simp [Value.oneCell']) ?_); intro w4 hBy hgy hzy
             simp only [splice, List.take_zero, List.nil_append, List.length_cons, List.length_nil, List.drop_succ_cons, List.drop_zero, List.append_nil, Nat.zero_add, List.drop_nil] at hBy
             have D4 := Lib.hid (H3.out.2.grown hgy H3.out.2.size (fun j hj => by injection hj with hj; omega))
             have C4 := Lib.hid hBy
             have B4 := Lib.hid (gt A2.out D4.out)
             clear hBy hgy hzy)
          | ((with_reducible show wpList _ _ _ (⟨some 57, _, _, _, _, _⟩ :: _) _ _); go_must (refine wpList_loadB AR rfl (.tmp 8) rfl w2.heap.size 0 rfl _ _ C4.out [.string smm, .string stg, .slice A1 hm k1, .slice P1 bl q1, .bool false] (by simp) rfl ?_))
          | ((with_reducible show wpList _ _ _ (⟨some 58, _, _, _, _, _⟩ :: _) _ _); go_must (refine wpList_build1 ER rfl (.tmp 57) rfl (by simp) [.string smm, .string stg, .slice A1 hm k1, .slice P1 bl q1, .bool false] rfl rfl w4.heap.size rfl ?_); intro w5 hB5 hb5 hz5; have C5 := Lib.hid hB5; have F5 := Lib.hid hb5; have B5 := Lib.hid (gt B4.out hb5); have E5 := Lib.hid (gt D4.out hb5); clear hB5 hb5 hz5; obtain ⟨rows, hown, hall, hlt5⟩ := (FS.out.rl.below B5.out).ex; have O5 := Lib.hid (And.intro hown (And.intro hall hlt5)); clear hown hall hlt5)
          | ((with_reducible show wpList _ _ _ (⟨some 59, _, _, _, _, _⟩ :: _) _ _); go_must (refine wpList_app ER rfl (.tmp 56) (.tmp 58) rfl W.heap.size (.slice A5 l.length k5) l.length rows.flatten rfl O5.out.1 (some ⟨w4.heap.size, 0, none⟩) 1 1 [.string smm, .string stg, .slice A1 hm k1, .slice P1 bl q1, .bool false] rfl C5.out.rv rfl (by intro u hu; simp at hu; rcases hu with rfl | rfl | rfl | rfl | rfl <;> rfl) (by have := HK.out; unfold maxLen; omega) (by have := HK.out; omega) (by have := FS.out.low.size; have := B5.out.size; omega) ?_); intro v6 w6 ho6 hg6 hv6
             have R6 := Lib.hid (RLO.push (r := r) O5.out.2.1 O5.out.2.2 R1.out.1 R1.out.2.1 R1.out.2.2.1 R1.out.2.2.2 HQ.out.1 HQ.out.2.1 HQ.out.2.2.1 HQ.out.2.2.2.1 HQ.out.2.2.2.2 A2.out.size E5.out ho6 hg6 hv6)
             have B6 := Lib.hid (below_own (FS.out.low.trans (B5.out.mono FS.out.low.size)) O5.out.1 hg6 (by have := FS.out.low.size; have := B5.out.size; omega))
             have C6 := (C4.out.grow F5.out).grown hg6 (fun e => by have := FS.out.rl.lt _ e.symm; have := A2.out.size; omega)
             have d4 := C6.cell 4
             simp only [List.getElem?_cons_succ, List.getElem?_cons_zero] at d4
             clear C6
             have hBg := SW.out.1.below B6.out SW.out.1.lt
             have x0 := hBg.cell 0
             have x1 := hBg.cell 1
             have x2 := hBg.cell 2
             have y0 := hBg.frozen 0
             have y1 := hBg.frozen 1
             have y2 := hBg.frozen 2
             simp only [List.getElem?_cons_succ, List.getElem?_cons_zero] at x0 x1 x2
             have HBG := Lib.hid hBg
             obtain ⟨A6, k6, rfl, _⟩ := R6.out.slice
             clear ho6 hg6 hv6 hBg))
        have hN1 := HK.out.1
        have hNt := HK.out.2.1
        have htn := HT.out.2.2.1
        have ha := HA9.out
        have hnb := HN.out.2.1
        have hnb6 := HN.out.2.2.2
        have han : (a : Int) + (N : Int) = ((a + N : Nat) : Int) := by omega
        have hww : wrap64 ((a : Int) + (N : Int)) = ((a + N : Nat) : Int) := w64b han (by omega) (by omega)
        refine ⟨⟨a + N, l ++ [r], by first | (rw [hww]) | (rw [han]), ⟨by clear hww; omega, B6.out, by have := R6.out; rw [List.length_append] at this; exact this, ?_, ?_⟩⟩, ?_⟩
        · rw [HE.out, HT.out.1, List.drop_drop]; unfold Fed.cons; simp
        · have := FS.out.tl; clear hww; rw [List.length_append]; simp; omega
        · first | (rw [hww]; simp only [intOf]; clear hww; omega) | (simp [intOf]; clear hww; omega)
      · rw [if_pos rfl] at heq
        have HE := Lib.hid heq
        clear heq
        go_wp2_with (first
          | ((with_reducible show wpList _ _ _ (⟨some 36, _, _, _, _, _⟩ :: _) _ _); go_must (refine wpList_behind rfl (.tmp 34) (.tmp 35) rfl rfl rfl HA9.out ?_); intro D9' hD9'; obtain rfl : D9 = D9' := HD9.out.trans hD9'.symm; clear hD9'; rw [← HT.out.2.2.1])
          | (go_at_call 16; go_must (refine (CR.out).mono ?_); rintro e w2 hp; obtain ⟨hb, A1, k1, P1, q1, K1, rfl, ho1, hK1, hw1, hob1⟩ := hp; have A2 := Lib.hid hb; have R1 := Lib.hid (And.intro ho1 (And.intro hK1 (And.intro hw1 hob1))); clear ho1 hK1 hw1 hob1; clear hb)
          | ((with_reducible show wpList _ _ _ (⟨some 8, .alloc _, _, _, _, _⟩ :: _) _ _); go_must (refine wpList_allocB AR rfl rfl w2.heap.size rfl ?_); intro w3 hBx hbx hzx; have H3 := Lib.hid (And.intro hBx hbx); clear hBx hbx hzx)
          | ((with_reducible show wpList _ _ _ (⟨none, .store _ (.tmp 8) _, _, _, _, _⟩ :: _) _ _); go_must (refine wpList_storeB AR rfl (.tmp 8) (.tmp 38) rfl w2.heap.size 0 rfl [.string smm, .string stg, .slice A1 hm k1, .slice P1 bl q1, .bool true] rfl rfl _ _ H3.out.1 (by simp) (by simp [Value.oneCell']) ?_); intro w4 hBy hgy hzy
             simp only [splice, List.take_zero, List.nil_append, List.length_cons, List.length_nil, List.drop_succ_cons, List.drop_zero, List.append_nil, Nat.zero_add, List.drop_nil] at hBy
             have D4 := Lib.hid (H3.out.2.grown hgy H3.out.2.size (fun j hj => by injection hj with hj; omega))
             have C4 := Lib.hid hBy
             have B4 := Lib.hid (gt A2.out D4.out)
             clear hBy hgy hzy)
          | ((with_reducible show wpList _ _ _ (⟨some 57, _, _, _, _, _⟩ :: _) _ _); go_must (refine wpList_loadB AR rfl (.tmp 8) rfl w2.heap.size 0 rfl _ _ C4.out [.string smm, .string stg, .slice A1 hm k1, .slice P1 bl q1, .bool true] (by simp) rfl ?_))
          | ((with_reducible show wpList _ _ _ (⟨some 58, _, _, _, _, _⟩ :: _) _ _); go_must (refine wpList_build1 ER rfl (.tmp 57) rfl (by simp) [.string smm, .string stg, .slice A1 hm k1, .slice P1 bl q1, .bool true] rfl rfl w4.heap.size rfl ?_); intro w5 hB5 hb5 hz5; have C5 := Lib.hid hB5; have F5 := Lib.hid hb5; have B5 := Lib.hid (gt B4.out hb5); have E5 := Lib.hid (gt D4.out hb5); clear hB5 hb5 hz5; obtain ⟨rows, hown, hall, hlt5⟩ := (FS.out.rl.below B5.out).ex; have O5 := Lib.hid (And.intro hown (And.intro hall hlt5)); clear hown hall hlt5)
          | ((with_reducible show wpList _ _ _ (⟨some 59, _, _, _, _, _⟩ :: _) _ _); go_must (refine wpList_app ER rfl (.tmp 56) (.tmp 58) rfl W.heap.size (.slice A5 l.length k5) l.length rows.flatten rfl O5.out.1 (some ⟨w4.heap.size, 0, none⟩) 1 1 [.string smm, .string stg, .slice A1 hm k1, .slice P1 bl q1, .bool true] rfl C5.out.rv rfl (by intro u hu; simp at hu; rcases hu with rfl | rfl | rfl | rfl | rfl <;> rfl) (by have := HK.out; unfold maxLen; omega) (by have := HK.out; omega) (by have := FS.out.low.size; have := B5.out.size; omega) ?_); intro v6 w6 ho6 hg6 hv6
             have R6 := Lib.hid (RLO.push (r := r) O5.out.2.1 O5.out.2.2 R1.out.1 R1.out.2.1 R1.out.2.2.1 R1.out.2.2.2 HQ.out.1 HQ.out.2.1 HQ.out.2.2.1 HQ.out.2.2.2.1 HQ.out.2.2.2.2 A2.out.size E5.out ho6 hg6 hv6)
             have B6 := Lib.hid (below_own (FS.out.low.trans (B5.out.mono FS.out.low.size)) O5.out.1 hg6 (by have := FS.out.low.size; have := B5.out.size; omega))
             have C6 := (C4.out.grow F5.out).grown hg6 (fun e => by have := FS.out.rl.lt _ e.symm; have := A2.out.size; omega)
             have d4 := C6.cell 4
             simp only [List.getElem?_cons_succ, List.getElem?_cons_zero] at d4
             clear C6
             have hBg := SW.out.1.below B6.out SW.out.1.lt
             have x0 := hBg.cell 0
             have x1 := hBg.cell 1
             have x2 := hBg.cell 2
             have y0 := hBg.frozen 0
             have y1 := hBg.frozen 1
             have y2 := hBg.frozen 2
             simp only [List.getElem?_cons_succ, List.getElem?_cons_zero] at x0 x1 x2
             have HBG := Lib.hid hBg
             obtain ⟨A6, k6, rfl, _⟩ := R6.out.slice
             clear ho6 hg6 hv6 hBg))
        go_ret2
        have hg := ((grownBy_set w6 G 1 (.bool true)).trans (grownBy_set _ G 2 (.int .i64 0))).trans (grownBy_set _ G 0 (.slice none 0 0))
        have hfr := SW.out.2.2.1.below B6.out SW.out.2.2.1.size
        rw [HE.out]
        refine ⟨hfr.grown hg, .slice A6 (l.length + 1) k6, .slice none 0 0, w6.heap.size, rfl, hfr.size, hg.size, ?_, ?_⟩
        · have := R6.out
          rw [List.length_append] at this
          exact (RLO.far this hg SW.out.1.lt (Nat.le_refl _)).base SW.out.2.2.1.size
        · exact ⟨((HBG.out.set_ 1 _).set_ 2 _).set_ 0 _, World.ownsRow_nil _ _ _ _, Nat.lt_of_lt_of_le HH.out.1.blk.lt hfr.size⟩
end Go.Proofs.YtojemdggbcklkaaDoor.WireR
