/- Aids of the laws that keep lists of values under way: a slice literal of one element, a row's block, strings and their bytes. -/
import Derived.Test.YtojemdggbcklkaaDoorRgR
import Derived.Test.YtojemdggbcklkaaDoorLaws
import Derived.Test.YtojemdggbcklkaaDoorArr
import Derived.Great.BuildSlice
import Derived.Laws.Concat
namespace Go.Proofs.YtojemdggbcklkaaDoor.Mem
set_option linter.unusedVariables false
set_option linter.unusedSectionVars false
set_option linter.unusedSimpArgs false
open Go.RowKit

section
variable {P : Program} {t e : TypeId} {zs : List Value} {by_ : Nat}

theorem run_build1 (E : Elt P t e zs by_) {ρ : Operand → Value} {w : World} {o : Oper} (x : Operand) (ho : o.op = .buildSlice t 1 #[(0, x)]) (hs : zs.length ≤ 16777216) (vs : List Value) (hx : (ρ x).cells = vs.toArray) (hl : vs.length = zs.length) :
    (execOp ρ o).run P w = .ok (.value (.slice (some ⟨w.heap.size, 0, none⟩) 1 1)) (w.alloc (.cells vs.toArray e)) := by
  obtain ⟨i, z, hi, hz, hsz, hby, hcs⟩ := E.inf
  have hp := E.pos
  have hf : Instr.fill (fun j => some (j * i.size, i.size)) ((Array.range (1 * i.size)).map (z.cells[· % z.cells.size]!)) [(0, ρ x)] = some vs.toArray := by
    have := Great.fill_whole (s := i.size) (by omega) [ρ x] ((Array.range (1 * i.size)).map (z.cells[· % z.cells.size]!)) (by intro v hv; simp at hv; subst hv; rw [hx]; simp [hl, hsz]) (by simp)
    simp only [List.zipIdx_cons, List.zipIdx_nil, List.map_cons, List.map_nil, List.flatMap_cons, List.flatMap_nil, List.append_nil, hx] at this
    simpa using this
  have hr := run_buildSlice (P := P) w t e 1 #[(0, ρ x)] vs.toArray i z E.und hi hz (by omega) (by omega) hf
  simp [execOp, ho, hr, Result.andThen]

theorem wpList_build1 (E : Elt P t e zs by_) {w : World} {ops : Array Oper} {rest : List Oper} {o : Oper} {a : Act} {Q : Exit → Act → World → Prop} (hgd : o.guard = none) (x : Operand) (ho : o.op = .buildSlice t 1 #[(0, x)]) (hs : zs.length ≤ 16777216)
    (vs : List Value) (hx : (a.eval x).cells = vs.toArray) (hl : vs.length = zs.length) (H : Nat) (hH : w.heap.size = H)
    (h : ∀ w', Blk w' H e vs → Below H w w' → w'.heap.size = H + 1 → wpList P ops Q rest (a.put o.dst (.slice (some ⟨H, 0, none⟩) 1 1)) w') : wpList P ops Q (o :: rest) a w := by
  subst hH
  refine wpList_plain hgd fun K hK => ?_
  unfold Oper.wp
  rw [run_build1 E x ho hs vs hx hl]
  exact hK _ _ (h _ (Blk.new _ _ _) (ga (gr w) _) (by simp))
end

/-- the block of a row that is not empty -/
theorem own_blk {w : World} {B : Nat} {e : TypeId} {size n : Nat} {v : Value} {xs : List Value} (h : w.ownsRow B e size v n xs) (hn : 0 < n) :
    ∃ g cap cur, v = .slice (some ⟨g, 0, none⟩) n cap ∧ B ≤ g ∧ Blk w g e cur ∧ cur.take (n * size) = xs ∧ n ≤ cap ∧ cap ≤ maxLen ∧ n * size ≤ cur.length := by
  rcases h.2 with ⟨_, rfl⟩ | ⟨g, cap, cur, rfl, hg, hb, hc, hm, hcs, ht⟩
  · omega
  · refine ⟨g, cap, cur.toList, rfl, hg, by unfold Blk; simpa using hb, ht, hc, hm, ?_⟩
    rw [Array.length_toList, hcs]
    exact Nat.mul_le_mul_right _ hc
theorem own_slice {w : World} {B : Nat} {e : TypeId} {size n : Nat} {v : Value} {xs : List Value} (h : w.ownsRow B e size v n xs) : ∃ A c, v = .slice A n c ∧ n ≤ c := by
  rcases h.2 with ⟨rfl, rfl⟩ | ⟨g, cap, cur, rfl, _, _, hc, _⟩
  · exact ⟨_, _, rfl, Nat.le_refl _⟩
  · exact ⟨_, _, rfl, hc⟩
theorem own_made {w : World} {g B : Nat} {e : TypeId} {cs : List Value} {size n : Nat} (h : Blk w g e cs) (hB : B ≤ g) (hl : cs.length = n * size) (hm : n ≤ maxLen) : w.ownsRow B e size (.slice (some ⟨g, 0, none⟩) n n) n cs :=
  ⟨hl, .inr ⟨g, n, cs.toArray, rfl, hB, h, Nat.le_refl _, hm, by simp [hl], by simp [← hl]⟩⟩

/-- the cells of the k-th element of a row of elements of one size -/
theorem flat_part {α : Type} (f : α → List Value) (size : Nat) : ∀ (l : List α) (k : Nat) (h : k < l.length), (∀ a ∈ l, (f a).length = size) → ((l.flatMap f).drop (k * size)).take size = f l[k]
  | x :: r, 0, h, hf => by
    have := hf x (by simp)
    simp [List.flatMap_cons, ← this]
  | x :: r, k + 1, h, hf => by
    have hx := hf x (by simp)
    rw [List.flatMap_cons, Nat.add_mul, Nat.one_mul, Nat.add_comm, ← List.drop_drop, List.drop_append_of_le_length (by omega), ← hx, List.drop_length, List.nil_append, hx]
    exact flat_part f size r k (by simpa using h) fun a ha => hf a (by simp [ha])
theorem take_part {α : Type} {cur xs : List α} {n size k : Nat} (h : cur.take (n * size) = xs) (hk : k < n) : (cur.drop (k * size)).take size = (xs.drop (k * size)).take size := by
  subst h
  rw [List.drop_take, List.take_take]
  congr 1
  have : (k + 1) * size ≤ n * size := Nat.mul_le_mul_right _ hk
  rw [Nat.add_mul, Nat.one_mul] at this
  omega

/-- a string's bytes -/
def strV (b : List UInt8) : Value := .string ⟨b.toArray⟩
theorem strV_inj {a b : List UInt8} (h : strV a = strV b) : a = b := by
  unfold strV at h
  injection h with h
  injection h with h
  simpa using congrArg Array.toList h
theorem bytes_eq {a b : List UInt8} : ((⟨a.toArray⟩ : ByteArray) = ⟨b.toArray⟩) ↔ a = b := ⟨fun h => strV_inj (by unfold strV; rw [h]), fun h => by rw [h]⟩

theorem flat_at {α : Type} (f : α → List Value) (size : Nat) (l : List α) (k j : Nat) (h : k < l.length) (hf : ∀ a ∈ l, (f a).length = size) (hj : j < size) : (l.flatMap f)[k * size + j]? = (f l[k])[j]? := by
  rw [← flat_part f size l k h hf, List.getElem?_take, if_pos hj, List.getElem?_drop]

/-- []byte(s) -/
theorem conv_bytes {P : Program} {w : World} {src dst e : TypeId} (hs : P.underlying src = some .string) (hd : P.underlying dst = some (.slice e)) (he : P.underlying e = some (.int .u8)) (b : List UInt8) :
    ∃ c w'', (convert src dst (strV b)).run P w = .ok (.slice (some ⟨w.heap.size, 0, none⟩) b.length c) w'' ∧ Below w.heap.size w w'' ∧ RB w'' (some ⟨w.heap.size, 0, none⟩) b ∧ w''.heap.size = w.heap.size + 1 := by
  have h := run_bytes_of_string (P := P) w src dst e ⟨b.toArray⟩ hs hd he
  have hsz : (⟨b.toArray⟩ : ByteArray).size = b.length := by simp [ByteArray.size]
  rw [hsz] at h
  refine ⟨_, _, h, ga (gr w).drew _, fun k hk => ⟨_, rfl, ?_⟩, by simp⟩
  have hc := World.cell?_alloc_mark w.drew (bytesRow ⟨b.toArray⟩ (grownCap w b.length 0 e)) e ((bytesRow ⟨b.toArray⟩ (grownCap w b.length 0 e)).size, (bytesRow ⟨b.toArray⟩ (grownCap w b.length 0 e)).size + 1) k
  rw [add_none, Nat.zero_add]
  have hb := bytesRow_at ⟨b.toArray⟩ (grownCap w b.length 0 e) k (by simpa using hk)
  rw [hb] at hc
  simpa [bv] using hc

theorem cat_run {P : Program} (w : World) (t u : TypeId) (ht : P.underlying t = some .string) (hu : P.underlying u = some .string) (a b : List UInt8) (h : a.length + b.length ≤ 9223372036854775807) :
    (binOp .add t (strV a) (strV b)).run P w = .ok (strV (a ++ b)) w := by
  have h1 := run_string_add_sum (P := P) w ⟨a.toArray⟩ ⟨b.toArray⟩ (by simpa [ByteArray.size] using h)
  rw [ByteArray.mk_append_mk] at h1
  unfold strV
  simp [binOp, run_underlying ht, h1]

theorem own_below' {w w' : World} {B n size : Nat} {T : TypeId} {v : Value} {xs : List Value} (h : w.ownsRow B T size v n xs) (hb : Below w.heap.size w w') : w'.ownsRow B T size v n xs :=
  h.kept (row := none) ⟨hb.os, hb.tape, hb.output, hb.size, fun k hk _ => hb.block k hk⟩ (by
    by_cases hn : v.ownBlock = none
    · exact .inl hn
    · exact .inr hn)

/-! ### guarded operations of a region that draws its order -/
section
variable {R : World → World → Prop} {P : Program} {Q : Exit → Act → World → Prop} {T : Array Value} {df : List Deferred} {w : World} {l : List Oper} {sp : List Sp} {i : Nat} {o : Oper} {s : Sp}

theorem wanted_of {x : Nat → Value} (hn : (rgDsts l).Nodup) {j d : Nat} {b : Bool} (hgd : o.guard = some (j, b)) (hd : (l[j]?).bind (·.dst) = some d) (hm : d ∈ rgDsts l) (hT : d < T.size) (hx : x d = .bool b) :
    Region.wanted o (yielded l.toArray (putMany T (rgDsts l) x)) = true := by
  have h : (putMany T (rgDsts l) x)[d]? = some (x d) := by rw [putMany_get _ _ _ hn, if_pos ⟨hm, hT⟩]
  simp [Region.wanted, hgd, yielded, hd, h, hx]

theorem rr_wpG (hn : (rgDsts l).Nodup) (j d : Nat) (b : Bool) (hgd : o.guard = some (j, b)) (hd : (l[j]?).bind (·.dst) = some d) (hm : d ∈ rgDsts l) (hT : d < T.size)
    (hy : ∀ (x : Nat → Value) (w' : World), R w w' → RgPreds sp x w' o.after.toList → x d = .bool b)
    (h : ∀ (x : Nat → Value) (w' : World) (A : Act), R w w' → RgPreds sp x w' o.after.toList → RgHolds A T (rgDsts l) x → ∀ K : Act → World → Prop, (∀ v w'', R w' w'' → s.holds (rgUpd x o.dst v) w'' → (∀ b ∈ s.own (rgUpd x o.dst v), w'.heap.size ≤ b ∧ b < w''.heap.size) → K (A.put o.dst v) w'') → o.wp P A w' K Q) :
    RrOb R P Q T df w l sp i o s := by
  refine ⟨fun x w' hgr hp _ K hK => ?_⟩
  rw [if_pos (wanted_of hn hgd hd hm hT (hy x w' hgr (RgPreds_of hp)))]
  exact h x w' _ hgr (RgPreds_of hp) (holds_frame hn) K hK

theorem rr_valG (hn : (rgDsts l).Nodup) (j d : Nat) (b : Bool) (hgd : o.guard = some (j, b)) (hd : (l[j]?).bind (·.dst) = some d) (hm : d ∈ rgDsts l) (hT : d < T.size)
    (hy : ∀ (x : Nat → Value) (w' : World), R w w' → RgPreds sp x w' o.after.toList → x d = .bool b)
    (h : ∀ (x : Nat → Value) (w' : World) (A : Act), R w w' → RgPreds sp x w' o.after.toList → RgHolds A T (rgDsts l) x → ∃ v w'', (execOp A.eval o).run P w' = .ok (.value v) w'' ∧ R w' w'' ∧ s.holds (rgUpd x o.dst v) w'' ∧ (∀ b ∈ s.own (rgUpd x o.dst v), w'.heap.size ≤ b ∧ b < w''.heap.size)) :
    RrOb R P Q T df w l sp i o s := by
  refine ⟨fun x w' hgr hp _ K hK => ?_⟩
  obtain ⟨v, w'', hrun, hb, hh, hf⟩ := h x w' _ hgr (RgPreds_of hp) (holds_frame hn)
  rw [if_pos (wanted_of hn hgd hd hm hT (hy x w' hgr (RgPreds_of hp)))]
  unfold Oper.wp
  rw [hrun]
  exact hK v w'' hb hh hf

theorem rr_eqG {e : Nat} {v : Value} (hRr : ∀ a, R a a) (hn : (rgDsts l).Nodup) (hdst : o.dst = some e) (j d : Nat) (b : Bool) (hgd : o.guard = some (j, b)) (hd : (l[j]?).bind (·.dst) = some d) (hm : d ∈ rgDsts l) (hT : d < T.size)
    (hy : ∀ (x : Nat → Value) (w' : World), R w w' → RgPreds sp x w' o.after.toList → x d = .bool b)
    (h : ∀ (x : Nat → Value) (w' : World) (A : Act), R w w' → RgPreds sp x w' o.after.toList → RgHolds A T (rgDsts l) x → (execOp A.eval o).run P w' = .ok (.value v) w') :
    RrOb R P Q T df w l sp i o (Sp.eq e v) :=
  rr_valG hn j d b hgd hd hm hT hy fun x w' A h1 h2 h3 => ⟨v, w', h x w' A h1 h2 h3, hRr w', by rw [hdst]; simp, by simp⟩

theorem rr_callG (hn : (rgDsts l).Nodup) (j d : Nat) (b : Bool) (hgd : o.guard = some (j, b)) (hd : (l[j]?).bind (·.dst) = some d) (hm : d ∈ rgDsts l) (hT : d < T.size)
    (hy : ∀ (x : Nat → Value) (w' : World), R w w' → RgPreds sp x w' o.after.toList → x d = .bool b)
    (h : ∀ (x : Nat → Value) (w' : World) (A : Act), R w w' → RgPreds sp x w' o.after.toList → RgHolds A T (rgDsts l) x → ∃ f args, (execOp A.eval o).run P w' = .ok (.enter f args) w' ∧
      Calls P f args w' fun e w'' => ∃ v, e = .returned v ∧ R w' w'' ∧ s.holds (rgUpd x o.dst v) w'' ∧ (∀ b ∈ s.own (rgUpd x o.dst v), w'.heap.size ≤ b ∧ b < w''.heap.size)) :
    RrOb R P Q T df w l sp i o s := by
  refine ⟨fun x w' hgr hp _ K hK => ?_⟩
  obtain ⟨f, args, hrun, hc⟩ := h x w' _ hgr (RgPreds_of hp) (holds_frame hn)
  rw [if_pos (wanted_of hn hgd hd hm hT (hy x w' hgr (RgPreds_of hp)))]
  unfold Oper.wp
  rw [hrun]
  refine Calls.mono hc ?_
  rintro e w'' ⟨v, rfl, hb, hh, hf⟩
  exact hK v w'' hb hh hf
end
end Go.Proofs.YtojemdggbcklkaaDoor.Mem

namespace Go.Proofs.YtojemdggbcklkaaDoor.Mem
open Go.RowKit

section
variable {sp : List Sp} {x : Nat → Value} {w : World}
theorem rg_pred : ∀ {l : List Edge} (_ : RgPreds sp x w l) (k : Nat) {e : Edge} {s : Sp} (_ : l[k]? = some e) (_ : Region.binds .any e = true) (_ : sp[e.on]? = some s), s.holds x w
  | [], _, k, _, _, he, _, _ => by simp at he
  | a :: r, h, 0, e, s, he, hb, hs => by
    simp at he
    subst he
    have := h.1 hb
    rw [hs] at this
    exact this
  | a :: r, h, k + 1, e, s, he, hb, hs => rg_pred h.2 k (by simpa using he) hb hs
theorem rg_pred_eq {d : Nat} {v : Value} {l : List Edge} (h : RgPreds sp x w l) (k : Nat) {e : Edge} (he : l[k]? = some e) (hb : Region.binds .any e = true) (hs : sp[e.on]? = some (Sp.eq d v)) : x d = v := (holds_eq _ _ _ _).1 (rg_pred h k he hb hs)
theorem rg_pred_new {d : Nat} {φ : Value → World → Prop} {l : List Edge} (h : RgPreds sp x w l) (k : Nat) {e : Edge} (he : l[k]? = some e) (hb : Region.binds .any e = true) (hs : sp[e.on]? = some (Sp.new d φ)) : φ (x d) w := (holds_new _ _ _ _).1 (rg_pred h k he hb hs)
theorem rg_pred_one {d : Nat} {φ : Value → World → Prop} {l : List Edge} (h : RgPreds sp x w l) (k : Nat) {e : Edge} (he : l[k]? = some e) (hb : Region.binds .any e = true) (hs : sp[e.on]? = some (Sp.one d φ)) : φ (x d) w := (holds_one _ _ _ _).1 (rg_pred h k he hb hs)
end

theorem RgHolds.at_ {A : Act} {T : Array Value} {ds : List Nat} {x : Nat → Value} (h : RgHolds A T ds x) (t : Nat) (ht : (ds.contains t && Nat.blt t T.size) = true) : A.tmps[t]?.getD undef = x t := by
  rw [h t, if_pos]
  simp only [Bool.and_eq_true, Nat.blt_eq] at ht
  exact ⟨by simpa using ht.1, ht.2⟩

/-- a new pointer to a block that is known whole -/
def NewPtr (B : Nat) (T : TypeId) (cs : List Value) (v : Value) (W : World) : Prop := ∃ b, v = .pointer (some ⟨b, 0, none⟩) ∧ B ≤ b ∧ Blk W b T cs
theorem NewPtr.stable {B : Nat} {T : TypeId} {cs : List Value} {v : Value} {w1 w2 : World} (h : NewPtr B T cs v w1) (hb : Below w1.heap.size w1 w2) : NewPtr B T cs v w2 := by
  obtain ⟨b, e, h1, h2⟩ := h
  exact ⟨b, e, h1, h2.grow hb⟩
/-- a new list of bytes -/
def NewBytes (B : Nat) (l : List UInt8) (v : Value) (W : World) : Prop := ∃ b c, v = .slice (some ⟨b, 0, none⟩) l.length c ∧ B ≤ b ∧ l.length ≤ c ∧ RB W (some ⟨b, 0, none⟩) l
theorem NewBytes.stable {B : Nat} {l : List UInt8} {v : Value} {w1 w2 : World} (h : NewBytes B l v w1) (hb : Below w1.heap.size w1 w2) : NewBytes B l v w2 := by
  obtain ⟨b, c, e, h1, h2, h3⟩ := h
  exact ⟨b, c, e, h1, h2, h3.below hb⟩
/-- a new list whose block is known whole -/
def NewRow (B : Nat) (T : TypeId) (cs : List Value) (n : Nat) (v : Value) (W : World) : Prop := ∃ b, v = .slice (some ⟨b, 0, none⟩) n n ∧ B ≤ b ∧ Blk W b T cs
theorem NewRow.stable {B n : Nat} {T : TypeId} {cs : List Value} {v : Value} {w1 w2 : World} (h : NewRow B T cs n v w1) (hb : Below w1.heap.size w1 w2) : NewRow B T cs n v w2 := by
  obtain ⟨b, e, h1, h2⟩ := h
  exact ⟨b, e, h1, h2.grow hb⟩

/-- a new list of bytes, its room left open -/
def NewRB (B : Nat) (l : List UInt8) (v : Value) (W : World) : Prop := ∃ b c, v = .slice (some ⟨b, 0, none⟩) l.length c ∧ B ≤ b ∧ RB W (some ⟨b, 0, none⟩) l
theorem NewRB.stable {B : Nat} {l : List UInt8} {v : Value} {w1 w2 : World} (h : NewRB B l v w1) (hb : Below w1.heap.size w1 w2) : NewRB B l v w2 := by
  obtain ⟨b, c, e, h1, h3⟩ := h
  exact ⟨b, c, e, h1, h3.below hb⟩

section
variable {P : Program} {Q : Exit → Act → World → Prop} {T : Array Value} {df : List Deferred} {w : World} {l : List Oper} {sp : List Sp} {i : Nat} {o : Oper}
/-- []byte(s) -/
theorem rr_conv {src dst e : TypeId} (hs : P.underlying src = some .string) (hdd : P.underlying dst = some (.slice e)) (he : P.underlying e = some (.int .u8)) {d : Nat} (hn : (rgDsts l).Nodup) (hg : o.guard = none) (hd : o.dst = some d) (y : Operand) (ho : o.op = .convert src dst y) (b : List UInt8)
    (hy : ∀ (x : Nat → Value) (w' : World) (A : Act), Below w.heap.size w w' → RgPreds sp x w' o.after.toList → RgHolds A T (rgDsts l) x → A.eval y = strV b) :
    RrOb (fun a b => Below a.heap.size a b) P Q T df w l sp i o (Sp.new d (NewRB w.heap.size b)) :=
  rr_val hn hg fun x w' A' hgr hp hA => by
    obtain ⟨c', w'', hrun, hb, hrb, hz⟩ := conv_bytes (P := P) (w := w') hs hdd he b
    refine ⟨.slice (some ⟨w'.heap.size, 0, none⟩) b.length c', w'', ?_, hb, ?_, ?_⟩
    · simp [execOp, ho, hy x w' A' hgr hp hA, hrun, Result.andThen]
    · rw [holds_new, hd]
      simp only [rgUpd, if_true]
      exact ⟨_, _, rfl, hgr.size, hrb⟩
    · simp [hd, rgUpd, Sp.own, Sp.new, blockOf]
      omega
theorem rr_alloc {ty : TypeId} {zs : List Value} (A : Arr P ty zs) {d : Nat} (hn : (rgDsts l).Nodup) (hg : o.guard = none) (hd : o.dst = some d) (ho : o.op = .alloc ty) :
    RrOb (fun a b => Below a.heap.size a b) P Q T df w l sp i o (Sp.new d (NewPtr w.heap.size ty zs)) :=
  rr_val hn hg fun x w' A' hgr _ _ => ⟨_, _, run_allocB A ho, ga (gr _) _, by
    rw [holds_new, hd]
    simp only [rgUpd, if_true]
    exact ⟨_, rfl, hgr.size, Blk.new _ _ _⟩, by
    simp [hd, rgUpd, Sp.own, Sp.new, blockOf]⟩
theorem rr_build1 {t e : TypeId} {zs : List Value} {by_ : Nat} (E : Elt P t e zs by_) {d : Nat} (hn : (rgDsts l).Nodup) (hg : o.guard = none) (hd : o.dst = some d) (y : Operand) (ho : o.op = .buildSlice t 1 #[(0, y)]) (hs : zs.length ≤ 16777216) (vs : List Value) (hl : vs.length = zs.length)
    (hy : ∀ (x : Nat → Value) (w' : World) (A : Act), Below w.heap.size w w' → RgPreds sp x w' o.after.toList → RgHolds A T (rgDsts l) x → (A.eval y).cells = vs.toArray) :
    RrOb (fun a b => Below a.heap.size a b) P Q T df w l sp i o (Sp.new d (NewRow w.heap.size e vs 1)) :=
  rr_val hn hg fun x w' A' hgr hp hA => ⟨_, _, run_build1 E y ho hs vs (hy x w' A' hgr hp hA) hl, ga (gr _) _, by
    rw [holds_new, hd]
    simp only [rgUpd, if_true]
    exact ⟨_, rfl, hgr.size, Blk.new _ _ _⟩, by
    simp [hd, rgUpd, Sp.own, Sp.new, blockOf]⟩
end
end Go.Proofs.YtojemdggbcklkaaDoor.Mem
