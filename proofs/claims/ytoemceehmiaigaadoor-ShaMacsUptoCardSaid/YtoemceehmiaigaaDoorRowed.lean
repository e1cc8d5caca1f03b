/- Several rows of the call's own at one time, apart from each other. Plain theorems over any program. -/
import Derived.Test.YtoemceehmiaigaaDoorRgAid
namespace Go.Proofs.YtoemceehmiaigaaDoor.Mem
open Go.RowKit
open Sha (Ap)

/-- a row of the call's own -/
structure RowD where
  T : TypeId
  size : Nat
  v : Value
  n : Nat
  xs : List Value
def RowD.at_ (r : RowD) (B : Nat) (W : World) : Prop := W.ownsRow B r.T r.size r.v r.n r.xs

/-- the rows that are under way: each owned, no two in one block -/
structure Rowed (w0 : World) (L : List RowD) (W : World) : Prop where
  own : ∀ (i : Nat) (r : RowD), L[i]? = some r → W.ownsRow w0.heap.size r.T r.size r.v r.n r.xs
  ap : ∀ (i j : Nat) (r s : RowD), L[i]? = some r → L[j]? = some s → i ≠ j → Ap r.v s.v
  low : Below w0.heap.size w0 W

theorem Rowed.grow {w0 W W' : World} {L : List RowD} (h : Rowed w0 L W) (hb : Below W.heap.size W W') : Rowed w0 L W' :=
  ⟨fun i r hi => own_below' (h.own i r hi) hb, h.ap, gt h.low hb⟩
theorem Rowed.by_ {w0 W W' : World} {L : List RowD} {g : Nat} (h : Rowed w0 L W) (hg : W.grownBy W' (some g)) (hb : w0.heap.size ≤ g) (hn : ∀ (i : Nat) (r : RowD), L[i]? = some r → r.v.ownBlock ≠ some g) : Rowed w0 L W' :=
  ⟨fun i r hi => (h.own i r hi).kept hg (.inr (hn i r hi)), h.ap, h.low.grown hg h.low.size (fun j hj => by simp at hj; omega)⟩
/-- a block that lay at a time when the rows were all below it -/
theorem Rowed.ne {w0 W : World} {L : List RowD} (h : Rowed w0 L W) {g : Nat} (hg : W.heap.size ≤ g) : ∀ (i : Nat) (r : RowD), L[i]? = some r → r.v.ownBlock ≠ some g := fun i r hi e => by
  have := ((h.own i r hi).lt g e).2
  omega
theorem Rowed.app {w0 W W' : World} {L : List RowD} (h : Rowed w0 L W) (i : Nat) {r : RowD} (hi : L[i]? = some r) {v' : Value} {n' : Nat} {xs' : List Value}
    (hown : W'.ownsRow w0.heap.size r.T r.size v' n' xs') (hg : W.grownBy W' r.v.ownBlock) (hv : v'.ownBlock = r.v.ownBlock ∨ v'.ownBlock = some W.heap.size) : Rowed w0 (L.set i ⟨r.T, r.size, v', n', xs'⟩) W' := by
  have hlt : i < L.length := (List.getElem?_eq_some_iff.1 hi).1
  refine ⟨fun j s hj => ?_, fun j k s t hj hk hjk => ?_, below_own h.low (h.own i r hi) hg h.low.size⟩
  · by_cases hij : i = j
    · subst hij
      rw [List.getElem?_set_self hlt] at hj
      obtain rfl := Option.some.inj hj
      exact hown
    · rw [List.getElem?_set_ne hij] at hj
      exact own_kept (h.own j s hj) (h.ap i j r s hi hj hij) hg
  · by_cases hij : i = j
    · subst hij
      rw [List.getElem?_set_self hlt] at hj
      rw [List.getElem?_set_ne hjk] at hk
      obtain rfl := Option.some.inj hj
      exact Ap.next' (h.ap i k r t hi hk hjk) (h.own k t hk) hv
    · rw [List.getElem?_set_ne hij] at hj
      by_cases hik : i = k
      · subst hik
        rw [List.getElem?_set_self hlt] at hk
        obtain rfl := Option.some.inj hk
        exact (Ap.next' (h.ap i j r s hi hj hij) (h.own j s hj) hv).symm
      · rw [List.getElem?_set_ne hik] at hk
        exact h.ap j k s t hj hk hjk

theorem own_cell {α : Type} {W : World} {B g n n' cap : Nat} {T : TypeId} {l : List α} {f : α → Value} (h : W.ownsRow B T 1 (.slice (some ⟨g, 0, none⟩) n cap) n' (l.map f)) {i : Nat} (hi : i < l.length) : W.cell? ⟨g, i, none⟩ = some (f l[i]) := by
  have := h.cells (g := g) rfl i (f l[i]) (by rw [List.getElem?_map, List.getElem?_eq_getElem hi]; rfl)
  rw [add_none, Nat.zero_add] at this
  exact this
/-- the element number i of a row of elements of several cells -/
theorem own_part {α : Type} {W : World} {B g n cap size : Nat} {T : TypeId} {l : List α} {f : α → List Value} (h : W.ownsRow B T size (.slice (some ⟨g, 0, none⟩) n cap) l.length (l.flatMap f)) (hf : ∀ a ∈ l, (f a).length = size) (hl : 0 < l.length) :
    ∃ cur, Blk W g T cur ∧ ∀ (i : Nat) (hi : i < l.length), (cur.drop (i * size)).take size = f l[i] := by
  obtain ⟨g', cap', cur, e, _, hb, ht, _, _, _⟩ := own_blk h hl
  injection e with e _ _
  injection e with e
  injection e with e _ _
  subst e
  refine ⟨cur, hb, fun i hi => ?_⟩
  rw [take_part ht hi, flat_part f size l i hi hf]
/-- a row that is not empty lies at the head of a block -/
theorem own_head {W : World} {B n size : Nat} {T : TypeId} {v : Value} {xs : List Value} (h : W.ownsRow B T size v n xs) (hn : 0 < n) : ∃ g cap, v = .slice (some ⟨g, 0, none⟩) n cap ∧ n ≤ cap ∧ cap ≤ maxLen ∧ B ≤ g ∧ g < W.heap.size := by
  obtain ⟨g, cap, cur, rfl, h1, h2, _, h3, h4, _⟩ := own_blk h hn
  exact ⟨g, cap, rfl, h3, h4, h1, h2.lt⟩

/-- row number i was appended to: its value is now v' -/
def Pushed (L : List RowD) (i : Nat) (v' : Value) (W W' : World) : Prop := ∃ r, L[i]? = some r ∧ W.grownBy W' r.v.ownBlock ∧ (v'.ownBlock = r.v.ownBlock ∨ v'.ownBlock = some W.heap.size)
/-- a block in which none of the rows lies -/
structure Avoid (L : List RowD) (g : Nat) (W : World) : Prop where
  lt : g < W.heap.size
  ne : ∀ (i : Nat) (r : RowD), L[i]? = some r → r.v.ownBlock ≠ some g
section
variable {w0 W W' : World} {L : List RowD} {g i : Nat} {v' : Value}
theorem Avoid.grow (h : Avoid L g W) (hb : W.heap.size ≤ W'.heap.size) : Avoid L g W' := ⟨by have := h.lt; omega, h.ne⟩
theorem Rowed.avoid (h : Rowed w0 L W) (hg : W.heap.size ≤ g) (hg' : g < W'.heap.size) : Avoid L g W' := ⟨hg', h.ne hg⟩
theorem Pushed.avoid (p : Pushed L i v' W W') (h : Avoid L g W) {T : TypeId} {size n : Nat} {xs : List Value} : Avoid (L.set i ⟨T, size, v', n, xs⟩) g W' := by
  obtain ⟨r, hr, hg, hv⟩ := p
  have hlt : i < L.length := (List.getElem?_eq_some_iff.1 hr).1
  refine ⟨by have := h.lt; have := hg.size; omega, fun j s hj => ?_⟩
  by_cases hij : i = j
  · subst hij
    rw [List.getElem?_set_self hlt] at hj
    obtain rfl := Option.some.inj hj
    rcases hv with hv | hv
    · rw [hv]; exact h.ne i r hr
    · rw [hv]; intro e; injection e; have := h.lt; omega
  · rw [List.getElem?_set_ne hij] at hj
    exact h.ne j s hj
theorem Pushed.blk (p : Pushed L i v' W W') (h : Avoid L g W) {T : TypeId} {cs : List Value} (hB : Blk W g T cs) : Blk W' g T cs := by
  obtain ⟨r, hr, hg, _⟩ := p
  exact hB.grown hg (h.ne i r hr).symm
theorem Pushed.cell (p : Pushed L i v' W W') {o : Nat} {u : Value} (hc : W.cell? ⟨g, o, none⟩ = some u) (h : ∀ r, L[i]? = some r → r.v.ownBlock ≠ some g) : W'.cell? ⟨g, o, none⟩ = some u := by
  obtain ⟨r, hr, hg, _⟩ := p
  exact hg.cell hc (h r hr).symm
theorem Pushed.size (p : Pushed L i v' W W') : W.heap.size ≤ W'.heap.size := by
  obtain ⟨r, hr, hg, _⟩ := p
  exact hg.size
theorem Rowed.by_av (h : Rowed w0 L W) (ha : Avoid L g W) (hg : W.grownBy W' (some g)) (hb : w0.heap.size ≤ g) : Rowed w0 L W' := h.by_ hg hb ha.ne
end

/-- append(s, x): one element more at the end of a row that is under way -/
theorem wpList_push {P : Program} {t e : TypeId} {zs : List Value} {by_ : Nat} (E : Elt P t e zs by_) {w0 w : World} {ops : Array Oper} {rest : List Oper} {o : Oper} {a : Act} {Q : Exit → Act → World → Prop} (hgd : o.guard = none)
    (s x : Operand) (ho : o.op = .call { callee := .builtin .append, args := #[s, x], argTypes := #[t, t] })
    {L : List RowD} (hR : Rowed w0 L w) (i : Nat) {v : Value} {n : Nat} {xs : List Value} (hi : L[i]? = some ⟨e, zs.length, v, n, xs⟩) (hs : a.eval s = v)
    (g : Nat) (hx : a.eval x = .slice (some ⟨g, 0, none⟩) 1 1) {cs : List Value} (hB : Blk w g e cs) (hl : cs.length = zs.length) (h1 : ∀ u ∈ cs, u.oneCell' = true)
    (h63 : n + 1 ≤ maxLen) (hbytes : (n + 1) * by_ ≤ 140737488355328)
    (h : ∀ v' w', Rowed w0 (L.set i ⟨e, zs.length, v', n + 1, xs ++ cs⟩) w' → Pushed L i v' w w' → wpList P ops Q rest (a.put o.dst v') w') : wpList P ops Q (o :: rest) a w :=
  wpList_app E hgd s x ho w0.heap.size v n xs hs (hR.own i _ hi) (some ⟨g, 0, none⟩) 1 1 cs hx hB.rv (by rw [hl, Nat.one_mul]) h1 h63 hbytes hR.low.size
    fun v' w' h2 h3 h4 => h v' w' (hR.app i hi h2 h3 h4) ⟨_, hi, h3, h4⟩
end Go.Proofs.YtoemceehmiaigaaDoor.Mem
