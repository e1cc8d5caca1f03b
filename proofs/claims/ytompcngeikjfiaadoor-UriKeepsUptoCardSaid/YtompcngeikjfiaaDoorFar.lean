/- Two rows that lie apart; what changes in two blocks alone. Plain theorems over any program. -/
import Derived.Test.YtompcngeikjfiaaDoorOwn2
namespace Go.Proofs.YtompcngeikjfiaaDoor.Mem
open Go.RowKit

/-- no block in common -/
def Far (v u : Value) : Prop := ∀ g, v.ownBlock = some g → u.ownBlock ≠ some g
theorem Far.symm {v u : Value} (h : Far v u) : Far u v := fun g hg hv => h g hv hg
theorem Far.ne {v u : Value} (h : Far v u) : u.ownBlock = none ∨ u.ownBlock ≠ v.ownBlock := by
  cases hu : u.ownBlock with
  | none => exact .inl rfl
  | some g => exact .inr fun e => h g e.symm hu
theorem Far.nil (u : Value) (n c : Nat) : Far (.slice none n c) u := fun g h => by cases h
theorem Far.new {w : World} {B n size : Nat} {T : TypeId} {v u : Value} {xs : List Value} (hu : w.ownsRow B T size u n xs) (hv : ∀ g, v.ownBlock = some g → w.heap.size ≤ g) : Far v u := fun g hg he => by
  have := (hu.lt g he).2
  have := hv g hg
  omega
theorem Far.low {w : World} {n size B : Nat} {T : TypeId} {v u : Value} {xs : List Value} (hv : ∀ g, v.ownBlock = some g → g < B) (hu : w.ownsRow B T size u n xs) : Far v u := fun g hg he => by
  have := (hu.lt g he).1
  have := hv g hg
  omega
theorem Far.next {w : World} {B n size : Nat} {T : TypeId} {v v' u : Value} {xs : List Value} (h : Far v u) (hu : w.ownsRow B T size u n xs) (hv : v'.ownBlock = v.ownBlock ∨ v'.ownBlock = some w.heap.size) : Far v' u := fun g hg he => by
  rcases hv with e | e
  · exact h g (e ▸ hg) he
  · rw [e] at hg
    injection hg with hg
    have := (hu.lt g he).2
    omega

/-- what changed lies in these two blocks or is new -/
structure Grown2 (w w' : World) (r1 r2 : Option Nat) : Prop where
  os : w'.os = w.os
  tape : w'.tape = w.tape
  output : w'.output = w.output
  size : w.heap.size ≤ w'.heap.size
  block : ∀ k, k < w.heap.size → some k ≠ r1 → some k ≠ r2 → w'.heap[k]? = w.heap[k]?
section
variable {w w1 w' : World} {r1 r2 : Option Nat}
theorem Grown2.refl (w : World) (r1 r2 : Option Nat) : Grown2 w w r1 r2 := ⟨rfl, rfl, rfl, Nat.le_refl _, fun _ _ _ _ => rfl⟩
theorem Grown2.step {r : Option Nat} (h : Grown2 w w1 r1 r2) (hg : w1.grownBy w' r) (hr : ∀ k, r = some k → some k = r1 ∨ some k = r2 ∨ w.heap.size ≤ k) : Grown2 w w' r1 r2 :=
  ⟨hg.os.trans h.os, hg.tape.trans h.tape, hg.output.trans h.output, Nat.le_trans h.size hg.size, fun k hk h1 h2 => (hg.block k (Nat.lt_of_lt_of_le hk h.size) (fun e => by
    rcases hr k e.symm with e1 | e1 | e1
    · exact h1 e1
    · exact h2 e1
    · omega)).trans (h.block k hk h1 h2)⟩
theorem Grown2.below (h : Grown2 w w1 r1 r2) (hb : Below w1.heap.size w1 w') : Grown2 w w' r1 r2 :=
  ⟨hb.os.trans h.os, hb.tape.trans h.tape, hb.output.trans h.output, Nat.le_trans h.size hb.size, fun k hk h1 h2 => (hb.block k (Nat.lt_of_lt_of_le hk h.size)).trans (h.block k hk h1 h2)⟩
theorem Grown2.own {B n size : Nat} {T : TypeId} {u : Value} {xs : List Value} (h : Grown2 w w' r1 r2) (hu : w.ownsRow B T size u n xs) (h1 : u.ownBlock = none ∨ u.ownBlock ≠ r1) (h2 : u.ownBlock = none ∨ u.ownBlock ≠ r2) : w'.ownsRow B T size u n xs := by
  refine ⟨hu.1, ?_⟩
  rcases hu.2 with hn | ⟨g, cap, cur, rfl, hb, hgg, rest⟩
  · exact .inl hn
  · refine .inr ⟨g, cap, cur, rfl, hb, ?_, rest⟩
    rw [h.block g (Array.getElem?_eq_some_iff.1 hgg).1 (by simpa [Value.ownBlock] using h1) (by simpa [Value.ownBlock] using h2)]
    exact hgg
theorem Grown2.low {B : Nat} (h : Grown2 w w' r1 r2) {w0 : World} (hb : Below B w0 w) (hB : B ≤ w.heap.size) (h1 : ∀ k, r1 = some k → B ≤ k) (h2 : ∀ k, r2 = some k → B ≤ k) : Below B w0 w' :=
  ⟨h.os.trans hb.os, h.tape.trans hb.tape, h.output.trans hb.output, Nat.le_trans hb.size h.size, fun k hk => (h.block k (by omega) (fun e => by have := h1 k e.symm; omega) (fun e => by have := h2 k e.symm; omega)).trans (hb.block k hk)⟩
theorem Grown2.rv {A : Option Addr} {xs : List Value} (h : Grown2 w w' r1 r2) (hr : RV w A xs) (h1 : ∀ a, A = some a → some a.block ≠ r1 ∧ some a.block ≠ r2) : RV w' A xs := fun k hk => by
  obtain ⟨ad, e, hc⟩ := hr k hk
  refine ⟨ad, e, ?_⟩
  rw [← hc]
  have hlt := block_lt_of_cell hc
  rw [block_of_add] at hlt
  exact World.cell?_of_block (by rw [block_of_add]; exact h.block _ hlt (h1 ad e).1 (h1 ad e).2)
end

/-- a row that is not empty, by its block -/
theorem own_addr {w : World} {B n size : Nat} {T : TypeId} {A : Option Addr} {n' c : Nat} {xs : List Value} (h : w.ownsRow B T size (.slice A n' c) n xs) (hn : 0 < n) : ∃ g, A = some ⟨g, 0, none⟩ ∧ n' = n ∧ n ≤ c := by
  rcases h.2 with ⟨_, h0⟩ | ⟨g, cap, cur, hv, _, _, hc, _⟩
  · omega
  · injection hv with h1 h2 h3
    exact ⟨g, h1, h2, h3 ▸ hc⟩
/-- a store into one row leaves another that lies apart -/
theorem own_far {w : World} {B n size : Nat} {T : TypeId} {u : Value} {xs : List Value} {g j : Nat} (hu : w.ownsRow B T size u n xs) (hf : u.ownBlock ≠ some g) (x : Value) : (w.setCell ⟨g, j, none⟩ x).ownsRow B T size u n xs :=
  hu.kept (row := some g) ⟨rfl, rfl, rfl, by simp, fun k _ hk => heap_setCell_other w ⟨g, j, none⟩ k x (fun e => hk (by simp [e]))⟩ (.inr hf)
theorem grown_set (w : World) (g j : Nat) (x : Value) : w.grownBy (w.setCell ⟨g, j, none⟩ x) (some g) :=
  ⟨rfl, rfl, rfl, by simp, fun k _ hk => heap_setCell_other w ⟨g, j, none⟩ k x (fun e => hk (by simp [e]))⟩
end Go.Proofs.YtompcngeikjfiaaDoor.Mem
