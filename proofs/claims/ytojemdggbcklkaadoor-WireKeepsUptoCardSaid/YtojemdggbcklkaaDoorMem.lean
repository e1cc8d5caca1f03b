/- Words on memory that all walks of this seat share: a slice value that reads as a list of bytes; a block that is known whole. Plain lemmas, no program. -/
import Derived.Below
import Derived.Laws.OwnMore
import Derived.Deep.AppendLies
import Derived.Deep.Draws
import Derived.WalkKit
import Derived.Lib.Hide
import Derived.WalkLawsBesides
import Derived.WalkSpells
import Derived.Deep.QuietTactic
import Derived.BigQuiet
import Derived.Deep.RegionHeld3
import Derived.Deep.RegionWith
import Derived.Deep.DrawnRows
import Derived.Deep.DeepMust
import Derived.Deep.DeepFit
import Derived.StillTailTactics
import Derived.Deep.LoopGhost
import Derived.Deep.Cut
import Derived.Deep.RegionLaw
import Derived.Laws.CopyOwn
import Derived.Maps.AppendAt
namespace Go.Proofs.YtojemdggbcklkaaDoor.Mem
open Go.RowKit

/-- The cell that holds a byte. -/
abbrev bv (c : UInt8) : Value := .int .u8 (c.toNat : Int)

theorem block_of_add (a : Addr) (n : Nat) : (a.add n).block = a.block := by unfold Addr.add; split <;> rfl
theorem add_of_add (a : Addr) (i j : Nat) : (a.add i).add j = a.add (i + j) := by
  unfold Addr.add
  by_cases hi : i = 0 <;> by_cases hj : j = 0 <;> simp [hi, hj, Nat.add_assoc]
theorem add_none (g o k : Nat) : (⟨g, o, none⟩ : Addr).add k = ⟨g, o + k, none⟩ := by
  unfold Addr.add
  by_cases hk : k = 0 <;> simp [hk]

/-- the cells of a struct among a slice's elements, as the walk spells their places -/
theorem cell_next {w : World} {ad : Addr} {n j : Nat} {v : Value} (h : w.cell? (ad.add (n + (j + 1))) = some v) : w.cell? ⟨(ad.add n).block, (ad.add n).off + (j + 1), none⟩ = some v := by
  rw [← add_of_add] at h
  exact h

theorem cell_grow {w w' : World} {a : Addr} {v : Value} (h : w.cell? a = some v) (hb : Below w.heap.size w w') : w'.cell? a = some v := (hb.cell (by exact block_lt_of_cell h)).trans h
theorem cells2_grow {w w' : World} {a1 a2 : Addr} {v1 v2 : Value} (h : w.cell? a1 = some v1 ∧ w.cell? a2 = some v2) (hb : Below w.heap.size w w') : w'.cell? a1 = some v1 ∧ w'.cell? a2 = some v2 := ⟨cell_grow h.1 hb, cell_grow h.2 hb⟩
theorem cells4_grow {w w' : World} {a1 a2 a3 a4 : Addr} {v1 v2 v3 v4 : Value} (h : w.cell? a1 = some v1 ∧ w.cell? a2 = some v2 ∧ w.cell? a3 = some v3 ∧ w.cell? a4 = some v4) (hb : Below w.heap.size w w') :
    w'.cell? a1 = some v1 ∧ w'.cell? a2 = some v2 ∧ w'.cell? a3 = some v3 ∧ w'.cell? a4 = some v4 := ⟨cell_grow h.1 hb, cell_grow h.2.1 hb, cell_grow h.2.2.1 hb, cell_grow h.2.2.2 hb⟩

/-- The slice address A reads, in world w, as the bytes l. -/
def RB (w : World) (A : Option Addr) (l : List UInt8) : Prop :=
  ∀ k (h : k < l.length), ∃ ad, A = some ad ∧ w.cell? (ad.add k) = some (bv l[k])

section
variable {w w' : World} {A : Option Addr} {l : List UInt8}
theorem RB.nil (w : World) (A : Option Addr) : RB w A [] := fun k h => absurd h (by simp)
theorem RB.keep (h : RB w A l) (hk : ∀ p : Addr, p.block < w.heap.size → w'.cell? p = w.cell? p) : RB w' A l :=
  fun k hl => by
    obtain ⟨ad, e, hc⟩ := h k hl
    exact ⟨ad, e, (hk _ (by exact block_lt_of_cell hc)).trans hc⟩
theorem RB.below (h : RB w A l) (hb : Below w.heap.size w w') : RB w' A l := h.keep fun _ hp => hb.cell hp
theorem RB.drewN (h : RB w A l) (n : Nat) : RB (w.drewN n) A l := h
theorem RB.drew (h : RB w A l) : RB w.drew A l := h
theorem RB.alloc (h : RB w A l) (o : Obj) : RB (w.alloc o) A l := h.keep fun p hp => World.cell?_alloc_lt w o p hp
theorem RB.take (h : RB w A l) (n : Nat) : RB w A (l.take n) := fun k hk => by
  have hk' : k < l.length := by simp at hk; omega
  obtain ⟨ad, e, hc⟩ := h k hk'
  exact ⟨ad, e, by rw [List.getElem_take]; exact hc⟩
theorem RB.drop (h : RB w A l) (n : Nat) (ad : Addr) (hA : A = some ad) : RB w (some (ad.add n)) (l.drop n) := fun k hk => by
  have hk' : n + k < l.length := by simp at hk; omega
  obtain ⟨ad', e, hc⟩ := h (n + k) hk'
  subst hA
  injection e with e
  subst e
  exact ⟨_, rfl, by rw [add_of_add, List.getElem_drop]; exact hc⟩
end

/-- A block that is known whole. -/
def Blk (w : World) (g : Nat) (t : TypeId) (cs : List Value) : Prop := w.heap[g]? = some (.cells cs.toArray t (0, 0))

section
variable {w w' : World} {g : Nat} {t : TypeId} {cs : List Value}
theorem Blk.lt (h : Blk w g t cs) : g < w.heap.size := by
  rcases Nat.lt_or_ge g w.heap.size with hlt | hge
  · exact hlt
  · unfold Blk at h; rw [Array.getElem?_eq_none hge] at h; cases h
theorem Blk.cell (h : Blk w g t cs) (i : Nat) : w.cell? ⟨g, i, none⟩ = cs[i]? := by
  have := cell_of_row w g i cs.toArray t (0, 0) h
  simpa using this
theorem Blk.at_ (h : Blk w g t cs) {i : Nat} (hi : i < cs.length) : ∃ u, w.cell? ⟨g, i, none⟩ = some u := ⟨_, by rw [h.cell, List.getElem?_eq_getElem hi]⟩
theorem Blk.frozen (h : Blk w g t cs) (i : Nat) : w.frozen? ⟨g, i, none⟩ = false := by
  unfold Blk at h
  simp [World.frozen?, h]
theorem Blk.new (w : World) (t : TypeId) (cs : List Value) : Blk (w.alloc (.cells cs.toArray t)) w.heap.size t cs := heap_alloc_new w _
theorem Blk.drew (h : Blk w g t cs) : Blk w.drew g t cs := h
theorem Blk.drewN (h : Blk w g t cs) (n : Nat) : Blk (w.drewN n) g t cs := h
theorem Blk.alloc (h : Blk w g t cs) (o : Obj) : Blk (w.alloc o) g t cs := (Below.heap_alloc w o g h.lt).trans h
theorem Blk.set_ (h : Blk w g t cs) (i : Nat) (u : Value) : Blk (w.setCell ⟨g, i, none⟩ u) g t (cs.set i u) := by
  unfold Blk at h ⊢
  simp [World.setCell, Array.getElem?_modify, h]
theorem Blk.far (h : Blk w g t cs) {p : Addr} (hp : g ≠ p.block) (u : Value) : Blk (w.setCell p u) g t cs := (Below.heap_setCell w p u g hp).trans h
theorem Blk.below {B : Nat} (h : Blk w g t cs) (hb : Below B w w') (hg : g < B) : Blk w' g t cs := (hb.block g hg).trans h
theorem Blk.grow (h : Blk w g t cs) (hb : Below w.heap.size w w') : Blk w' g t cs := h.below hb h.lt
theorem Blk.grown {row : Option Nat} (h : Blk w g t cs) (hb : w.grownBy w' row) (hg : some g ≠ row) : Blk w' g t cs := (hb.block g h.lt hg).trans h
theorem Blk.own (h : Blk w g t cs) {base : Nat} (hb : base ≤ g) (hm : cs.length ≤ maxLen) : w.ownsRow base t 1 (.slice (some ⟨g, 0, none⟩) cs.length cs.length) cs.length cs :=
  ⟨by simp, .inr ⟨g, cs.length, cs.toArray, rfl, hb, h, Nat.le_refl _, hm, by simp, by simp⟩⟩
end

/-- A block of bytes reads as a list of bytes, from any place of it on. -/
theorem Blk.rb {w : World} {g : Nat} {t : TypeId} {l : List UInt8} (h : Blk w g t (l.map bv)) (o n : Nat) : RB w (some ⟨g, o, none⟩) ((l.drop o).take n) := fun k hk => by
  refine ⟨_, rfl, ?_⟩
  have hk' : o + k < l.length := by simp at hk; omega
  rw [add_none, h.cell, List.getElem?_map, List.getElem?_eq_getElem hk', List.getElem_take, List.getElem_drop]
  rfl

/-- An owned row of bytes reads as a list of bytes. -/
theorem own_rb {w : World} {base : Nat} {t : TypeId} {A : Option Addr} {n c : Nat} {l : List UInt8} (h : w.ownsRow base t 1 (.slice A n c) n (l.map bv)) : RB w A l := fun k hk => by
  have hn : 0 < n := by have := h.1; simp at this; omega
  obtain ⟨g, cap, hv, _, _⟩ := h.form hn
  have hA : A = some ⟨g, 0, none⟩ := by injection hv
  subst hA
  exact ⟨_, rfl, by rw [h.cells (g := g) rfl k (bv l[k]) (by rw [List.getElem?_map, List.getElem?_eq_getElem hk]; rfl)]⟩

/-- What has grown alone: 'Below' at the heap's own size. -/
theorem below_trans {w w1 w2 : World} {B : Nat} (h : Below B w w1) (k : Below w1.heap.size w1 w2) (hB : B ≤ w1.heap.size) : Below B w w2 := h.trans (k.mono hB)
theorem below_drewN {B : Nat} {a w : World} (h : Below B a w) (n : Nat) : Below B a (w.drewN n) := ⟨h.os, h.tape, h.output, h.size, h.block⟩
theorem below_of_drewN {w w' : World} (h : ∃ n, w' = w.drewN n) (B : Nat) : Below B w w' := by
  obtain ⟨n, rfl⟩ := h
  exact below_drewN (Below.refl _ _) n

/-- 'of what was there nothing has turned', step by step -/
theorem gr (w : World) : Below w.heap.size w w := Below.refl _ _
theorem gt {a b c : World} (h : Below a.heap.size a b) (k : Below b.heap.size b c) : Below a.heap.size a c := h.trans (k.mono h.size)
theorem ga {a w : World} (h : Below a.heap.size a w) (o : Obj) : Below a.heap.size a (w.alloc o) := h.alloc h.size o
theorem gd {a w : World} (h : Below a.heap.size a w) : Below a.heap.size a w.drew := h.drew
theorem gn {a w : World} (h : Below a.heap.size a w) (n : Nat) : Below a.heap.size a (w.drewN n) := below_drewN h n
theorem gs {a w : World} (h : Below a.heap.size a w) {p : Addr} (hp : a.heap.size ≤ p.block) (u : Value) : Below a.heap.size a (w.setCell p u) := h.setCell hp u

theorem ret_bool {a b : Bool} (h : a = b) : Ending.returned (.bool a) = .returned (.bool b) := by rw [h]
theorem ret_int {k : IntKind} {a b : Int} (h : a = b) : Ending.returned (.int k a) = .returned (.int k b) := by rw [h]
theorem ret_val {a b : Value} (h : a = b) : Ending.returned a = .returned b := by rw [h]

theorem take_succ_ {α : Type} {l : List α} {k : Nat} (h : k < l.length) : l.take (k + 1) = l.take k ++ [l[k]] := List.take_succ_eq_append_getElem h

end Go.Proofs.YtojemdggbcklkaaDoor.Mem
