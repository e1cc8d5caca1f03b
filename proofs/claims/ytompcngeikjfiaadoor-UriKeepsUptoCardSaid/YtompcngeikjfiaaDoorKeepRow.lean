/- A row of the call's own, with the blocks it lies between. Plain theorems over any program. -/
import Derived.Test.YtompcngeikjfiaaDoorFar
namespace Go.Proofs.YtompcngeikjfiaaDoor.Mem
open Go.RowKit

/-- an own row that was made between two sizes of the heap -/
structure Row (w : World) (lo hi : Nat) (T : TypeId) (size : Nat) (v : Value) (n : Nat) (xs : List Value) : Prop where
  own : w.ownsRow lo T size v n xs
  lt : ∀ g, v.ownBlock = some g → g < hi
  le : hi ≤ w.heap.size
section
variable {w w' : World} {lo hi lo' hi' : Nat} {T T' : TypeId} {size size' : Nat} {v u : Value} {n m : Nat} {xs ys : List Value}
theorem Row.new (h : w'.ownsRow w.heap.size T size v n xs) : Row w' w.heap.size w'.heap.size T size v n xs := ⟨h, fun g hg => (h.lt g hg).2, Nat.le_refl _⟩
theorem Row.of (h : w'.ownsRow lo T size v n xs) : Row w' lo w'.heap.size T size v n xs := ⟨h, fun g hg => (h.lt g hg).2, Nat.le_refl _⟩
theorem Row.below (h : Row w lo hi T size v n xs) (hb : Below w.heap.size w w') : Row w' lo hi T size v n xs := ⟨h.own.kept (row := none) ⟨hb.os, hb.tape, hb.output, hb.size, fun k hk _ => hb.block k hk⟩ (by cases hv : v.ownBlock <;> simp), h.lt, Nat.le_trans h.le hb.size⟩
theorem Row.low (h : Row w lo hi T size v n xs) (hl : lo' ≤ lo) : Row w lo' hi T size v n xs := ⟨by
  refine ⟨h.own.1, ?_⟩
  rcases h.own.2 with hn | ⟨g, cap, cur, rfl, hb, rest⟩
  · exact .inl hn
  · exact .inr ⟨g, cap, cur, rfl, Nat.le_trans hl hb, rest⟩, h.lt, h.le⟩
theorem Row.far (h : Row w lo hi T size v n xs) (h' : Row w' lo' hi' T' size' u m ys) (hle : hi ≤ lo') : Far v u := fun g hg he => by
  have := (h'.own.lt g he).1
  have := h.lt g hg
  omega
theorem Row.far' (h : Row w lo hi T size v n xs) (h' : Row w' lo' hi' T' size' u m ys) (hle : hi ≤ lo') : Far u v := (h.far h' hle).symm
theorem Row.grown2 {r1 r2 : Option Nat} (h : Row w lo hi T size v n xs) (hg : Grown2 w w' r1 r2) (h1 : v.ownBlock = none ∨ v.ownBlock ≠ r1) (h2 : v.ownBlock = none ∨ v.ownBlock ≠ r2) : Row w' lo hi T size v n xs := ⟨hg.own h.own h1 h2, h.lt, Nat.le_trans h.le hg.size⟩
theorem Row.rv {A : Option Addr} {c : Nat} (h : Row w lo hi T size (.slice A n c) n xs) : RV w A xs := own_rv h.own
/-- the front of an own row that is not empty -/
theorem Row.front {g n m c : Nat} (h : Row w lo hi T size (.slice (some ⟨g, 0, none⟩) (n + m) c) (n + m) (xs ++ ys)) (hx : xs.length = n * size) : Row w lo hi T size (.slice (some ⟨g, 0, none⟩) n c) n xs := by
  refine ⟨⟨hx, ?_⟩, fun k hk => h.lt k (by simpa [Value.ownBlock] using hk), h.le⟩
  rcases h.own.2 with ⟨hn, _⟩ | ⟨g', cap, cur, hv, hb, hg, hc, hm, hs, ht⟩
  · cases hn
  · injection hv with h1 h2 h3
    injection h1 with h1
    injection h1 with h1
    subst h1 h3
    refine .inr ⟨g, c, cur, rfl, hb, hg, by omega, hm, hs, ?_⟩
    have := congrArg (List.take (n * size)) ht
    rw [List.take_take, Nat.min_eq_left (Nat.mul_le_mul_right _ (by omega)), ← hx, List.take_left] at this
    rw [← hx]
    exact this
end
end Go.Proofs.YtompcngeikjfiaaDoor.Mem
