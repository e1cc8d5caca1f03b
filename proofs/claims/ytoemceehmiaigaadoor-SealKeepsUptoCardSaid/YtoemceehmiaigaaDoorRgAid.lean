/- Aids of the regions that draw their order: what a predecessor has left, by its place; operations that make memory, under a name. -/
import Derived.Test.YtoemceehmiaigaaDoorRowsAid
namespace Go.Proofs.YtoemceehmiaigaaDoor.Mem
open Go.RowKit

section
variable {sp : List Sp} {x : Nat → Value} {w : World}
theorem rg_pred : ∀ {l : List Edge} (_ : RgPreds sp x w l) (k : Nat) {e : Edge} {s : Sp} (_ : l[k]? = some e) (_ : Region.binds .any e = true) (_ : sp[e.on]? = some s), s.holds x w
  | [], _, k, _, _, he, _, _ => by simp at he
  | a :: r, h, 0, e, s, he, hb, hs => by
    simp at he
    subst he
    have := h.1 hb
    rw [hs] at this
    exact this
  | a :: r, h, k + 1, e, s, he, hb, hs => rg_pred h.2 k (by simpa using he) hb hs
theorem rg_pred_eq {d : Nat} {v : Value} {l : List Edge} (h : RgPreds sp x w l) (k : Nat) {e : Edge} (he : l[k]? = some e) (hb : Region.binds .any e = true) (hs : sp[e.on]? = some (Sp.eq d v)) : x d = v := (holds_eq _ _ _ _).1 (rg_pred h k he hb hs)
theorem rg_pred_new {d : Nat} {φ : Value → World → Prop} {l : List Edge} (h : RgPreds sp x w l) (k : Nat) {e : Edge} (he : l[k]? = some e) (hb : Region.binds .any e = true) (hs : sp[e.on]? = some (Sp.new d φ)) : φ (x d) w := (holds_new _ _ _ _).1 (rg_pred h k he hb hs)
theorem rg_pred_one {d : Nat} {φ : Value → World → Prop} {l : List Edge} (h : RgPreds sp x w l) (k : Nat) {e : Edge} (he : l[k]? = some e) (hb : Region.binds .any e = true) (hs : sp[e.on]? = some (Sp.one d φ)) : φ (x d) w := (holds_one _ _ _ _).1 (rg_pred h k he hb hs)
end

theorem RgHolds.at_ {A : Act} {T : Array Value} {ds : List Nat} {x : Nat → Value} (h : RgHolds A T ds x) (t : Nat) (ht : (ds.contains t && Nat.blt t T.size) = true) : A.tmps[t]?.getD undef = x t := by
  rw [h t, if_pos]
  simp only [Bool.and_eq_true, Nat.blt_eq] at ht
  exact ⟨by simpa using ht.1, ht.2⟩

/-- a new pointer to a block that is known whole -/
def NewPtr (B : Nat) (T : TypeId) (cs : List Value) (v : Value) (W : World) : Prop := ∃ b, v = .pointer (some ⟨b, 0, none⟩) ∧ B ≤ b ∧ Blk W b T cs
theorem NewPtr.stable {B : Nat} {T : TypeId} {cs : List Value} {v : Value} {w1 w2 : World} (h : NewPtr B T cs v w1) (hb : Below w1.heap.size w1 w2) : NewPtr B T cs v w2 := by
  obtain ⟨b, e, h1, h2⟩ := h
  exact ⟨b, e, h1, h2.grow hb⟩
/-- a new list of bytes -/
def NewBytes (B : Nat) (l : List UInt8) (v : Value) (W : World) : Prop := ∃ b c, v = .slice (some ⟨b, 0, none⟩) l.length c ∧ B ≤ b ∧ l.length ≤ c ∧ RB W (some ⟨b, 0, none⟩) l
theorem NewBytes.stable {B : Nat} {l : List UInt8} {v : Value} {w1 w2 : World} (h : NewBytes B l v w1) (hb : Below w1.heap.size w1 w2) : NewBytes B l v w2 := by
  obtain ⟨b, c, e, h1, h2, h3⟩ := h
  exact ⟨b, c, e, h1, h2, h3.below hb⟩
/-- a new list whose block is known whole -/
def NewRow (B : Nat) (T : TypeId) (cs : List Value) (n : Nat) (v : Value) (W : World) : Prop := ∃ b, v = .slice (some ⟨b, 0, none⟩) n n ∧ B ≤ b ∧ Blk W b T cs
theorem NewRow.stable {B n : Nat} {T : TypeId} {cs : List Value} {v : Value} {w1 w2 : World} (h : NewRow B T cs n v w1) (hb : Below w1.heap.size w1 w2) : NewRow B T cs n v w2 := by
  obtain ⟨b, e, h1, h2⟩ := h
  exact ⟨b, e, h1, h2.grow hb⟩

/-- a new list of bytes, its room left open -/
def NewRB (B : Nat) (l : List UInt8) (v : Value) (W : World) : Prop := ∃ b c, v = .slice (some ⟨b, 0, none⟩) l.length c ∧ B ≤ b ∧ RB W (some ⟨b, 0, none⟩) l
theorem NewRB.stable {B : Nat} {l : List UInt8} {v : Value} {w1 w2 : World} (h : NewRB B l v w1) (hb : Below w1.heap.size w1 w2) : NewRB B l v w2 := by
  obtain ⟨b, c, e, h1, h3⟩ := h
  exact ⟨b, c, e, h1, h3.below hb⟩

section
variable {P : Program} {Q : Exit → Act → World → Prop} {T : Array Value} {df : List Deferred} {w : World} {l : List Oper} {sp : List Sp} {i : Nat} {o : Oper}
/-- []byte(s) -/
theorem rr_conv {src dst e : TypeId} (hs : P.underlying src = some .string) (hdd : P.underlying dst = some (.slice e)) (he : P.underlying e = some (.int .u8)) {d : Nat} (hn : (rgDsts l).Nodup) (hg : o.guard = none) (hd : o.dst = some d) (y : Operand) (ho : o.op = .convert src dst y) (b : List UInt8)
    (hy : ∀ (x : Nat → Value) (w' : World) (A : Act), Below w.heap.size w w' → RgPreds sp x w' o.after.toList → RgHolds A T (rgDsts l) x → A.eval y = strV b) :
    RrOb (fun a b => Below a.heap.size a b) P Q T df w l sp i o (Sp.new d (NewRB w.heap.size b)) :=
  rr_val hn hg fun x w' A' hgr hp hA => by
    obtain ⟨c', w'', hrun, hb, hrb, hz⟩ := conv_bytes (P := P) (w := w') hs hdd he b
    refine ⟨.slice (some ⟨w'.heap.size, 0, none⟩) b.length c', w'', ?_, hb, ?_, ?_⟩
    · simp [execOp, ho, hy x w' A' hgr hp hA, hrun, Result.andThen]
    · rw [holds_new, hd]
      simp only [rgUpd, if_true]
      exact ⟨_, _, rfl, hgr.size, hrb⟩
    · simp [hd, rgUpd, Sp.own, Sp.new, blockOf]
      omega
theorem rr_alloc {ty : TypeId} {zs : List Value} (A : Arr P ty zs) {d : Nat} (hn : (rgDsts l).Nodup) (hg : o.guard = none) (hd : o.dst = some d) (ho : o.op = .alloc ty) :
    RrOb (fun a b => Below a.heap.size a b) P Q T df w l sp i o (Sp.new d (NewPtr w.heap.size ty zs)) :=
  rr_val hn hg fun x w' A' hgr _ _ => ⟨_, _, run_allocB A ho, ga (gr _) _, by
    rw [holds_new, hd]
    simp only [rgUpd, if_true]
    exact ⟨_, rfl, hgr.size, Blk.new _ _ _⟩, by
    simp [hd, rgUpd, Sp.own, Sp.new, blockOf]⟩
theorem rr_build1 {t e : TypeId} {zs : List Value} {by_ : Nat} (E : Elt P t e zs by_) {d : Nat} (hn : (rgDsts l).Nodup) (hg : o.guard = none) (hd : o.dst = some d) (y : Operand) (ho : o.op = .buildSlice t 1 #[(0, y)]) (hs : zs.length ≤ 16777216) (vs : List Value) (hl : vs.length = zs.length)
    (hy : ∀ (x : Nat → Value) (w' : World) (A : Act), Below w.heap.size w w' → RgPreds sp x w' o.after.toList → RgHolds A T (rgDsts l) x → (A.eval y).cells = vs.toArray) :
    RrOb (fun a b => Below a.heap.size a b) P Q T df w l sp i o (Sp.new d (NewRow w.heap.size e vs 1)) :=
  rr_val hn hg fun x w' A' hgr hp hA => ⟨_, _, run_build1 E y ho hs vs (hy x w' A' hgr hp hA) hl, ga (gr _) _, by
    rw [holds_new, hd]
    simp only [rgUpd, if_true]
    exact ⟨_, rfl, hgr.size, Blk.new _ _ _⟩, by
    simp [hd, rgUpd, Sp.own, Sp.new, blockOf]⟩
end
end Go.Proofs.YtoemceehmiaigaaDoor.Mem
