/- weirlaw04.ShaMacs: the four rows that are under way. -/
import Derived.Test.YtoemceehmiaigaaDoorMacAid
import Derived.Test.YtoemceehmiaigaaDoorLawHashes
namespace Go.Proofs.YtoemceehmiaigaaDoor.LawMacs
open Go.RowKit Go.Proofs.YtoemceehmiaigaaDoor.Mem Go.Proofs.YtoemceehmiaigaaDoor.Loan Go.Proofs.YtoemceehmiaigaaDoor.Sha Go.Proofs.YtoemceehmiaigaaDoor.LawSums Go.Proofs.YtoemceehmiaigaaDoor.LawHashes

theorem E60 : Elt Tryd.prog 60 57 zeroM.cells 168 := by
  rw [zeroM_cells]
  exact Elt.mkN (z := .agg (mcell (List.replicate 64 0) []).toArray) Tryd.underlying60 (by kernel_rfl) (by kernel_rfl) (by rw [mcell_length _ _ (by simp)]; decide)
theorem E61 : Elt Tryd.prog 61 4 [.bool false] 1 := Elt.mk1 Tryd.underlying61 (by kernel_rfl) rfl

theorem Rowed.mk4 {w0 W : World} {r0 r1 r2 r3 : RowD} (o0 : r0.at_ w0.heap.size W) (o1 : r1.at_ w0.heap.size W) (o2 : r2.at_ w0.heap.size W) (o3 : r3.at_ w0.heap.size W)
    (a1 : Ap r0.v r1.v) (a2 : Ap r0.v r2.v) (a3 : Ap r0.v r3.v) (a4 : Ap r1.v r2.v) (a5 : Ap r1.v r3.v) (a6 : Ap r2.v r3.v) (low : Below w0.heap.size w0 W) : Rowed w0 [r0, r1, r2, r3] W := by
  refine ⟨fun i r hi => ?_, fun i j r s hi hj hij => ?_, low⟩
  · rcases i with _ | _ | _ | _ | i <;> simp at hi <;> subst hi
    · exact o0
    · exact o1
    · exact o2
    · exact o3
  · rcases i with _ | _ | _ | _ | i <;> rcases j with _ | _ | _ | _ | j <;> simp at hi hj <;> first | (exfalso; omega) | (subst hi; subst hj; first | assumption | exact Ap.symm (by assumption))

def rowsM (v6 v7 v8 v9 : Value) (ms : List MacD) : List RowD :=
  [⟨57, zeroM.cells.length, v6, ms.length, ms.flatMap MacD.cells⟩, ⟨9, 1, v7, ms.length, ms.map fun m => strV m.k⟩, ⟨4, 1, v8, ms.length, ms.map fun m => .bool m.fr⟩, ⟨9, 1, v9, ms.length, ms.map fun m => strV m.b⟩]
theorem rows_snoc (v6 v7 v8 v9 u6 u7 u8 u9 : Value) (ms : List MacD) (m : MacD) :
    ((((rowsM v6 v7 v8 v9 ms).set 0 ⟨57, zeroM.cells.length, u6, ms.length + 1, ms.flatMap MacD.cells ++ m.cells⟩).set 1 ⟨9, 1, u7, ms.length + 1, (ms.map fun m => strV m.k) ++ [strV m.k]⟩).set 3 ⟨9, 1, u9, ms.length + 1, (ms.map fun m => strV m.b) ++ [strV m.b]⟩).set 2 ⟨4, 1, u8, ms.length + 1, (ms.map fun m => .bool m.fr) ++ [.bool m.fr]⟩ = rowsM u6 u7 u8 u9 (ms ++ [m]) := by
  simp [rowsM]

/-- what lies in memory between the steps -/
structure MX (w : World) (v6 v7 v8 v9 : Value) (ms : List MacD) (lim : Nat) (W : World) : Prop where
  rows : Rowed w (rowsM v6 v7 v8 v9 ms) W
  ok : ∀ m ∈ ms, m.ok lim
  pos : 0 < ms.length
section
variable {w W W' : World} {v6 v7 v8 v9 : Value} {ms : List MacD} {lim : Nat}
theorem MX.grow (h : MX w v6 v7 v8 v9 ms lim W) (hb : Below W.heap.size W W') : MX w v6 v7 v8 v9 ms lim W' := ⟨h.rows.grow hb, h.ok, h.pos⟩
theorem MX.more {l2 : Nat} (h : MX w v6 v7 v8 v9 ms lim W) (hl : lim ≤ l2) : MX w v6 v7 v8 v9 ms l2 W := ⟨h.rows, fun m hm => (h.ok m hm).more hl, h.pos⟩
theorem MX.o6 (h : MX w v6 v7 v8 v9 ms lim W) : W.ownsRow w.heap.size 57 zeroM.cells.length v6 ms.length (ms.flatMap MacD.cells) := h.rows.own 0 _ rfl
theorem MX.o7 (h : MX w v6 v7 v8 v9 ms lim W) : W.ownsRow w.heap.size 9 1 v7 ms.length (ms.map fun m => strV m.k) := h.rows.own 1 _ rfl
theorem MX.o8 (h : MX w v6 v7 v8 v9 ms lim W) : W.ownsRow w.heap.size 4 1 v8 ms.length (ms.map fun m => .bool m.fr) := h.rows.own 2 _ rfl
theorem MX.o9 (h : MX w v6 v7 v8 v9 ms lim W) : W.ownsRow w.heap.size 9 1 v9 ms.length (ms.map fun m => strV m.b) := h.rows.own 3 _ rfl
theorem MX.heads (h : MX w v6 v7 v8 v9 ms lim W) : ∃ g6 c6 g7 c7 g8 c8 g9 c9 : Nat, v6 = .slice (some ⟨g6, 0, none⟩) ms.length c6 ∧ v7 = .slice (some ⟨g7, 0, none⟩) ms.length c7 ∧ v8 = .slice (some ⟨g8, 0, none⟩) ms.length c8 ∧ v9 = .slice (some ⟨g9, 0, none⟩) ms.length c9 ∧
    (ms.length ≤ c6 ∧ c6 ≤ maxLen ∧ ms.length ≤ c7 ∧ c7 ≤ maxLen ∧ ms.length ≤ c8 ∧ c8 ≤ maxLen ∧ ms.length ≤ c9 ∧ c9 ≤ maxLen) ∧ (w.heap.size ≤ g6 ∧ w.heap.size ≤ g7 ∧ w.heap.size ≤ g8 ∧ w.heap.size ≤ g9) ∧
    (g6 < W.heap.size ∧ g7 < W.heap.size ∧ g8 < W.heap.size ∧ g9 < W.heap.size) ∧ (g6 ≠ g7 ∧ g6 ≠ g8 ∧ g6 ≠ g9 ∧ g7 ≠ g8 ∧ g7 ≠ g9 ∧ g8 ≠ g9) := by
  obtain ⟨g6, c6, rfl, a1, a2, a3, a4⟩ := own_head h.o6 h.pos
  obtain ⟨g7, c7, rfl, b1, b2, b3, b4⟩ := own_head h.o7 h.pos
  obtain ⟨g8, c8, rfl, d1, d2, d3, d4⟩ := own_head h.o8 h.pos
  obtain ⟨g9, c9, rfl, e1, e2, e3, e4⟩ := own_head h.o9 h.pos
  have x1 := h.rows.ap 0 1 _ _ rfl rfl (by decide)
  have x2 := h.rows.ap 0 2 _ _ rfl rfl (by decide)
  have x3 := h.rows.ap 0 3 _ _ rfl rfl (by decide)
  have x4 := h.rows.ap 1 2 _ _ rfl rfl (by decide)
  have x5 := h.rows.ap 1 3 _ _ rfl rfl (by decide)
  have x6 := h.rows.ap 2 3 _ _ rfl rfl (by decide)
  simp [Ap, Value.ownBlock] at x1 x2 x3 x4 x5 x6
  exact ⟨g6, c6, g7, c7, g8, c8, g9, c9, rfl, rfl, rfl, rfl, ⟨a1, a2, b1, b2, d1, d2, e1, e2⟩, ⟨a3, b3, d3, e3⟩, ⟨a4, b4, d4, e4⟩, ⟨x1, x2, x3, x4, x5, x6⟩⟩
theorem MX.by_ {g : Nat} (h : MX w v6 v7 v8 v9 ms lim W) (hg : W.grownBy W' (some g)) (hb : w.heap.size ≤ g) (hn : v6.ownBlock ≠ some g ∧ v7.ownBlock ≠ some g ∧ v8.ownBlock ≠ some g ∧ v9.ownBlock ≠ some g) : MX w v6 v7 v8 v9 ms lim W' :=
  ⟨h.rows.by_ hg hb fun i r hi => by rcases i with _ | _ | _ | _ | i <;> simp [rowsM] at hi <;> subst hi <;> simp only [hn, ne_eq, not_false_eq_true], h.ok, h.pos⟩
theorem MX.mac {g n c : Nat} (h : MX w (.slice (some ⟨g, 0, none⟩) n c) v7 v8 v9 ms lim W) : ∃ cur, Blk W g 57 cur ∧ ∀ (i : Nat) (hi : i < ms.length), (cur.drop (i * 137)).take (mcell (List.replicate 64 0) []).length = ms[i].cells := by
  obtain ⟨cur, hB, hp⟩ := own_part h.o6 (fun m _ => by rw [m.cells_length, MacD.cells_length]) h.pos
  refine ⟨cur, hB, fun i hi => ?_⟩
  rw [← hp i hi, MacD.cells_length, mcell_length _ _ (by simp)]
theorem MX.mac' {g n c : Nat} (h : MX w (.slice (some ⟨g, 0, none⟩) n c) v7 v8 v9 ms lim W) : ∃ cur, Blk W g 57 cur ∧ ∀ (i : Nat) (m : MacD), ms[i]? = some m → (cur.drop (i * 137)).take (mcell (List.replicate 64 0) []).length = m.cells := by
  obtain ⟨cur, hB, hp⟩ := h.mac
  refine ⟨cur, hB, fun i m hm => ?_⟩
  obtain ⟨hi, e⟩ := List.getElem?_eq_some_iff.1 hm
  rw [hp i hi, e]
theorem own_cell' {α : Type} {W : World} {B g n n' cap : Nat} {T : TypeId} {l : List α} {f : α → Value} (h : W.ownsRow B T 1 (.slice (some ⟨g, 0, none⟩) n cap) n' (l.map f)) {i : Nat} {a : α} (hi : l[i]? = some a) : W.cell? ⟨g, i, none⟩ = some (f a) := by
  obtain ⟨hi', e⟩ := List.getElem?_eq_some_iff.1 hi
  rw [own_cell h hi', e]
theorem MX.k {g n c : Nat} (h : MX w v6 (.slice (some ⟨g, 0, none⟩) n c) v8 v9 ms lim W) {i : Nat} {m : MacD} (hi : ms[i]? = some m) : W.cell? ⟨g, i, none⟩ = some (strV m.k) := own_cell' h.o7 hi
theorem MX.fr {g n c : Nat} (h : MX w v6 v7 (.slice (some ⟨g, 0, none⟩) n c) v9 ms lim W) {i : Nat} {m : MacD} (hi : ms[i]? = some m) : W.cell? ⟨g, i, none⟩ = some (.bool m.fr) := own_cell' h.o8 hi
theorem MX.b {g n c : Nat} (h : MX w v6 v7 v8 (.slice (some ⟨g, 0, none⟩) n c) ms lim W) {i : Nat} {m : MacD} (hi : ms[i]? = some m) : W.cell? ⟨g, i, none⟩ = some (strV m.b) := own_cell' h.o9 hi
end

/-- a loan that is under way -/
structure CY (w : World) (b5 g : Nat) (l : List UInt8) (W : World) : Prop where
  loan : Blk W b5 34 (lcell g l.length)
  bytes : Blk W g 5 ((l ++ mtail).map bv)
  low : Below w.heap.size w W
  hg : w.heap.size ≤ g
  hg5 : g < b5
theorem CY.grow {w W W' : World} {b5 g : Nat} {l : List UInt8} (h : CY w b5 g l W) (hb : Below W.heap.size W W') : CY w b5 g l W' :=
  ⟨h.loan.grow hb, h.bytes.grow hb, gt h.low hb, h.hg, h.hg5⟩
theorem CY.by_ {w W W' : World} {b5 g j : Nat} {l : List UInt8} (h : CY w b5 g l W) (hg : W.grownBy W' (some j)) (hb : w.heap.size ≤ j) (h1 : b5 ≠ j) (h2 : g ≠ j) : CY w b5 g l W' :=
  ⟨h.loan.grown hg (by simp; exact h1), h.bytes.grown hg (by simp; exact h2), h.low.grown hg h.low.size (fun k hk => by simp at hk; omega), h.hg, h.hg5⟩
theorem CY.pushed {w W W' : World} {b5 g i : Nat} {l : List UInt8} {L : List RowD} {v' : Value} (h : CY w b5 g l W) (hR : Rowed w L W) (p : Pushed L i v' W W') (a1 : Avoid L b5 W) (a2 : Avoid L g W) : CY w b5 g l W' :=
  ⟨p.blk a1 h.loan, p.blk a2 h.bytes, by
    obtain ⟨r, hr, hg, _⟩ := p
    exact below_own h.low (hR.own i r hr) hg h.low.size, h.hg, h.hg5⟩
end Go.Proofs.YtoemceehmiaigaaDoor.LawMacs
