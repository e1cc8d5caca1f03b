/- A pile in memory: the struct's block, its row of entries. Plain theorems over any program. -/
import Derived.Test.YtdebokambldbbaaFloat
import Derived.Test.YtdebokambldbbaaDrain
import Derived.Test.YtdebokambldbbaaQuiet
import Derived.Test.YtdebokambldbbaaRgLite
import Derived.Test.YtdebokambldbbaaKeepBase
import Derived.Test.YtdebokambldbbaaPileMerge2
namespace Go.Proofs.Ytdebokambldbbaa.Pile
set_option linter.unusedSectionVars false
set_option linter.unusedSimpArgs false
open Go.RowKit Go.Proofs.Ytdebokambldbbaa.Mem Go.Proofs.Ytdebokambldbbaa.Heap
set_option linter.unusedVariables false

/-- how a thing lies in memory -/
structure Th (β : Type) (sz : Nat) where
  cells : β → List Value
  len : ∀ b, (cells b).length = sz
  one : ∀ b, ∀ u ∈ cells b, u.oneCell' = true
section
variable {β : Type} {sz : Nat}
def ec (th : Th β sz) (e : β × Nat) : List Value := th.cells e.1 ++ [.int .u64 e.2]
theorem ec_len (th : Th β sz) (e : β × Nat) : (ec th e).length = sz + 1 := by unfold ec; simp [th.len]
theorem ec_one (th : Th β sz) (e : β × Nat) : ∀ u ∈ ec th e, u.oneCell' = true := fun u hu => by
  rcases List.mem_append.1 hu with h | h
  · exact th.one _ u h
  · rw [List.mem_singleton.1 h]; rfl
theorem flat_len (th : Th β sz) (es : List (β × Nat)) : (es.flatMap (ec th)).length = es.length * (sz + 1) := by
  induction es with
  | nil => simp
  | cons e es ih => rw [List.flatMap_cons, List.length_append, ih, ec_len, List.length_cons, Nat.add_mul, Nat.one_mul, Nat.add_comm]

/-- a pile that lies at p: its less, its row v, what it holds, the next number -/
structure Pl (th : Th β sz) (TP TE : TypeId) (W : World) (B p : Nat) (v fv : Value) (es : List (β × Nat)) (nx : Nat) : Prop where
  blk : Blk W p TP [fv, v, .int .u64 nx]
  own : W.ownsRow B TE (sz + 1) v es.length (es.flatMap (ec th))
  ne : v.ownBlock ≠ some p

variable {th : Th β sz} {TP TE : TypeId} {W W' : World} {B p : Nat} {v fv : Value} {es : List (β × Nat)} {nx : Nat}
theorem Pl.grow (h : Pl th TP TE W B p v fv es nx) (hb : Below W.heap.size W W') : Pl th TP TE W' B p v fv es nx := ⟨h.blk.grow hb, own_below' h.own hb, h.ne⟩
theorem Pl.kept (h : Pl th TP TE W B p v fv es nx) (hk : ∀ k, k < W.heap.size → (k = p ∨ v.ownBlock = some k) → W'.heap[k]? = W.heap[k]?) : Pl th TP TE W' B p v fv es nx := by
  refine ⟨(hk p h.blk.lt (.inl rfl)).trans h.blk, ⟨h.own.1, ?_⟩, h.ne⟩
  rcases h.own.2 with hn | ⟨g, cap, cur, rfl, hb, hgg, rest⟩
  · exact .inl hn
  · exact .inr ⟨g, cap, cur, rfl, hb, (hk g (Array.getElem?_eq_some_iff.1 hgg).1 (.inr rfl)).trans hgg, rest⟩
theorem Pl.slice (h : Pl th TP TE W B p v fv es nx) : ∃ A c, v = .slice A es.length c ∧ es.length ≤ c := own_slice h.own
/-- the row opened -/
theorem Pl.row (h : Pl th TP TE W B p v fv es nx) (hl : 0 < es.length) : ∃ g cap cur, v = .slice (some ⟨g, 0, none⟩) es.length cap ∧ B ≤ g ∧ Blk W g TE cur ∧ cur.take (es.length * (sz + 1)) = es.flatMap (ec th) ∧ es.length ≤ cap ∧ cap ≤ maxLen ∧ es.length * (sz + 1) ≤ cur.length ∧ g ≠ p := by
  obtain ⟨g, cap, cur, rfl, h1, h2, h3, h4, h5, h6⟩ := own_blk h.own hl
  exact ⟨g, cap, cur, rfl, h1, h2, h3, h4, h5, h6, fun e => h.ne (by rw [e]; rfl)⟩
/-- one entry of the row -/
theorem ent_at {cur : List Value} (ht : cur.take (es.length * (sz + 1)) = es.flatMap (ec th)) {i : Nat} (hi : i < es.length) [Inhabited β] : (cur.drop (i * (sz + 1))).take (sz + 1) = ec th (nth es i) := by
  rw [take_part ht hi, flat_part (ec th) (sz + 1) es i hi (fun a _ => ec_len th a), nth_eq hi]
theorem splice_mid {α : Type} (A x C vs : List α) (h : vs.length = x.length) : splice (A ++ x ++ C) A.length vs = A ++ vs ++ C := by
  unfold splice
  rw [List.append_assoc, List.take_left, h, ← List.drop_drop, List.drop_left, List.drop_left, List.append_assoc]
theorem splice_len {α : Type} (L vs : List α) (o : Nat) (h : o + vs.length ≤ L.length) : (splice L o vs).length = L.length := by
  unfold splice
  simp; omega
/-- an entry stored -/
theorem ent_set {cur : List Value} (ht : cur.take (es.length * (sz + 1)) = es.flatMap (ec th)) (hlen : es.length * (sz + 1) ≤ cur.length) {i : Nat} (hi : i < es.length) (e : β × Nat) :
    (splice cur (i * (sz + 1)) (ec th e)).take ((es.set i e).length * (sz + 1)) = (es.set i e).flatMap (ec th) := by
  have h1 : cur = (es.take i).flatMap (ec th) ++ ec th es[i] ++ ((es.drop (i + 1)).flatMap (ec th) ++ cur.drop (es.length * (sz + 1))) := by
    have : es.flatMap (ec th) = (es.take i).flatMap (ec th) ++ ec th es[i] ++ (es.drop (i + 1)).flatMap (ec th) := by
      conv => lhs; rw [← List.take_append_drop i es, List.drop_eq_getElem_cons hi]
      rw [List.flatMap_append, List.flatMap_cons, List.append_assoc]
    rw [← List.append_assoc, ← this, ← ht, List.take_append_drop]
  have hA : ((es.take i).flatMap (ec th)).length = i * (sz + 1) := by rw [flat_len, List.length_take, Nat.min_eq_left (by omega)]
  have h2 : splice cur (i * (sz + 1)) (ec th e) = (es.take i).flatMap (ec th) ++ ec th e ++ ((es.drop (i + 1)).flatMap (ec th) ++ cur.drop (es.length * (sz + 1))) := by
    conv => lhs; rw [h1, ← hA]
    exact splice_mid _ _ _ _ (by rw [ec_len, ec_len])
  have h3 : (es.set i e).flatMap (ec th) = (es.take i).flatMap (ec th) ++ ec th e ++ (es.drop (i + 1)).flatMap (ec th) := by
    rw [List.set_eq_take_append_cons_drop, if_pos hi, List.flatMap_append, List.flatMap_cons, List.append_assoc]
  rw [h2, h3, ← List.append_assoc]
  refine List.take_left' ?_
  rw [← h3, flat_len, List.length_set]
theorem Pl.stored {g cap : Nat} {cur' : List Value} (h : Pl th TP TE W B p (.slice (some ⟨g, 0, none⟩) es.length cap) fv es nx) (hg : W.grownBy W' (some g)) (hb : Blk W' g TE cur') {es' : List (β × Nat)} (hl : es'.length = es.length) (hB : B ≤ g) (hcl : cur'.length = cap * (sz + 1)) (hc : es.length ≤ cap) (hm : cap ≤ maxLen)
    (ht : cur'.take (es'.length * (sz + 1)) = es'.flatMap (ec th)) : Pl th TP TE W' B p (.slice (some ⟨g, 0, none⟩) es'.length cap) fv es' nx := by
  have hne : g ≠ p := fun e => h.ne (by rw [e]; rfl)
  refine ⟨?_, ⟨by rw [flat_len], .inr ⟨g, cap, cur'.toArray, rfl, hB, hb, by omega, hm, by simpa using hcl, by simpa using ht⟩⟩, by simpa [Value.ownBlock] using hne⟩
  rw [hl]
  exact h.blk.grown hg (fun e => hne (by injection e with e; exact e.symm))
theorem Pl.cap {g cap : Nat} {cur : List Value} (h : Pl th TP TE W B p (.slice (some ⟨g, 0, none⟩) es.length cap) fv es nx) (hb : Blk W g TE cur) : cur.length = cap * (sz + 1) := by
  rcases h.own.2 with ⟨hn, _⟩ | ⟨g', cap', cur', hv, _, hgg, _, _, hs, _⟩
  · cases hn
  · injection hv with h1 _ h3
    injection h1 with h1
    injection h1 with h1
    subst h1 h3
    have := (show W.heap[g]? = _ from hb).symm.trans hgg
    simp only [Option.some.injEq, Obj.cells.injEq, and_true] at this
    rw [← hs, ← this]; simp
end

theorem wpStill_loadB {P : Program} {ty : TypeId} {zs : List Value} (A : Arr P ty zs) {w : World} {ops : Array Oper} {rest : List Oper} {o : Oper} {a : Act} {Q : Act → Prop} (hgd : o.guard = none) (x : Operand) (ho : o.op = .load ty x)
    (g off : Nat) (hx : a.eval x = .pointer (some ⟨g, off, none⟩)) (T : TypeId) (cs : List Value) (hB : Blk w g T cs) (vs : List Value) (hv : (cs.drop off).take zs.length = vs) (hl : vs.length = zs.length)
    (h : wpStill P ops w Q rest (a.put o.dst (.agg vs.toArray))) : wpStill P ops w Q (o :: rest) a := by
  refine wpStill_step fun K hK => ?_
  rw [if_pos (by simp [Region.wanted, hgd])]
  have hr : (execOp a.eval o).run P w = .ok (.value (.agg vs.toArray)) w := by simp [execOp, ho, hx, run_loadB A hB vs hv hl, Result.andThen]
  unfold Oper.still
  rw [hr]
  exact ⟨rfl, hK _ h⟩
/-- a pointer to a new block that holds the one or the other -/
def OrPtr (B : Nat) (T : TypeId) (us vs : List Value) (v : Value) (W : World) : Prop := ∃ b, v = .pointer (some ⟨b, 0, none⟩) ∧ B ≤ b ∧ (Blk W b T us ∨ Blk W b T vs)
def TurnsB (B : Nat) (T : TypeId) (us vs : List Value) : World → World → Prop := Turns B (.cells us.toArray T (0, 0)) (.cells vs.toArray T (0, 0))
theorem OrPtr.turns {B : Nat} {T : TypeId} {us vs : List Value} {v : Value} {w1 w2 : World} (h : OrPtr B T us vs v w1) (ht : TurnsB B T us vs w1 w2) : OrPtr B T us vs v w2 := by
  obtain ⟨b, rfl, hb, h | h⟩ := h
  · rcases ht.2.2.2.2 b h.lt with h1 | ⟨_, _, h1⟩
    · exact ⟨b, rfl, hb, .inl (h1.trans h)⟩
    · exact ⟨b, rfl, hb, .inr h1⟩
  · rcases ht.2.2.2.2 b h.lt with h1 | ⟨_, _, h1⟩
    · exact ⟨b, rfl, hb, .inr (h1.trans h)⟩
    · exact ⟨b, rfl, hb, .inr h1⟩
theorem NewPtr.turns {B : Nat} {T : TypeId} {us vs : List Value} {v : Value} {w1 w2 : World} (h : NewPtr B T vs v w1) (ht : TurnsB B T us vs w1 w2) : NewPtr B T vs v w2 := by
  obtain ⟨b, rfl, hb, h⟩ := h
  rcases ht.2.2.2.2 b h.lt with h1 | ⟨_, _, h1⟩
  · exact ⟨b, rfl, hb, h1.trans h⟩
  · exact ⟨b, rfl, hb, h1⟩
/-- a store that turns such a block -/
theorem Turns.store {B b : Nat} {T : TypeId} {us vs : List Value} {w w' : World} (hb : B ≤ b) (h : Blk w b T us ∨ Blk w b T vs) (hB : Blk w' b T vs) (hg : w.grownBy w' (some b)) : TurnsB B T us vs w w' := by
  refine ⟨hg.os, hg.tape, hg.output, hg.size, fun k hk => ?_⟩
  by_cases e : k = b
  · subst e
    rcases h with h | h
    · exact .inr ⟨hb, h, hB⟩
    · exact .inl (hB.trans h.symm)
  · exact .inl (hg.block k hk (fun e' => e (by injection e')))
theorem OrPtr.blk {B : Nat} {T : TypeId} {us vs : List Value} {v : Value} {W : World} (h : OrPtr B T us vs v W) (hl : us.length = vs.length) : ∃ b cs, v = .pointer (some ⟨b, 0, none⟩) ∧ B ≤ b ∧ Blk W b T cs ∧ cs.length = vs.length ∧ (cs = us ∨ cs = vs) := by
  obtain ⟨b, rfl, hb, h | h⟩ := h
  · exact ⟨b, us, rfl, hb, h, hl, .inl rfl⟩
  · exact ⟨b, vs, rfl, hb, h, rfl, .inr rfl⟩
theorem wq_loadT {P : Program} {C : World → Prop} {ops : Array Oper} {Q : Act → Prop} {rest : List Oper} {o : Oper} {a : Act} {ty : TypeId} (hw : Region.wanted o (yielded ops a.tmps) = true) (x : Operand) (ho : o.op = .load ty x) (v : Value) (p : Addr) (hx : a.eval x = .pointer (some p))
    (hr : ∀ w', C w' → (Instr.loadAt ty (.pointer (some p))).run P w' = .ok v w')
    (k : wpQuiet P ops C Q rest (a.put o.dst v)) : wpQuiet P ops C Q (o :: rest) a :=
  wq_val hw (fun w' hC => by simp [execOp, ho, hx, hr w' hC, Result.andThen]) k
theorem run_index_int {P : Program} {ty e : TypeId} {len : Nat} (hu : P.underlying ty = some (.array len e)) (he : P.plainKey e = true) (hs : (P.info? e).map (·.size) = some 1) (w : World) (cs : Array Value) (i : Nat) (hi : i < len) (v : Value) (hv : cs[i]? = some v) :
    (Instr.index ty (.agg cs) (.int .i64 i)).run P w = .ok v w := by
  cases hq : P.info? e with
  | none => rw [hq] at hs; cases hs
  | some inf =>
    rw [hq] at hs
    have hs1 : inf.size = 1 := by simpa using hs
    have hp := run_part_plain (P := P) w he hv
    have h1 : (i : Int) < (len : Int) := by omega
    simp [Instr.index, asIntOf, run_underlying hu, sizeOf, typeInfo, hq, hs1, hi, hp]
theorem wpList_val {P : Program} {w : World} {ops : Array Oper} {rest : List Oper} {o : Oper} {a : Act} {Q : Exit → Act → World → Prop} (hg : o.guard = none) {v : Value} (hv : (execOp a.eval o).run P w = .ok (.value v) w) (h : wpList P ops Q rest (a.put o.dst v) w) : wpList P ops Q (o :: rest) a w := by
  refine wpList_plain hg fun K hK => ?_
  unfold Oper.wp
  rw [hv]
  exact hK _ _ h
theorem wpList_idx {P : Program} {ty e : TypeId} {len : Nat} (hu : P.underlying ty = some (.array len e)) (he : P.plainKey e = true) (hs : (P.info? e).map (·.size) = some 1) {w : World} {ops : Array Oper} {rest : List Oper} {o : Oper} {a : Act} {Q : Exit → Act → World → Prop} (hg : o.guard = none) (x y : Operand) (ho : o.op = .index ty x y) (cs : Array Value) (hx : a.eval x = .agg cs) (i : Nat) (hy : a.eval y = .int .i64 i) (hi : i < len) (v : Value) (hv : cs[i]? = some v)
    (h : wpList P ops Q rest (a.put o.dst v) w) : wpList P ops Q (o :: rest) a w :=
  wpList_val hg (by simp [execOp, ho, hx, hy, run_index_int hu he hs w cs i hi v hv, Result.andThen]) h
theorem wrap_in {x : Int} (h0 : -4611686018427387904 ≤ x) (h1 : x ≤ 4611686018427387904) : wrap64 x = x := by unfold wrap64; omega
theorem half_in {k a : Nat} (h : a = (k - 1) / 2) (hk : 0 < k) : ((k : Int) - 1).tdiv 2 = (a : Int) ∧ ((k : Int) - 1) / 2 = (a : Int) ∧ a < k := by
  refine ⟨?_, ?_, ?_⟩
  · rw [Int.tdiv_eq_ediv_of_nonneg (by omega)]; omega
  · omega
  · omega
theorem meas_in {k n : Nat} (h : k < n) : n - (intOf (.int .i64 ((k : Int) + 1))).toNat < n - (intOf (.int .i64 (k : Int))).toNat := by
  have h1 : (intOf (.int .i64 ((k : Int) + 1))).toNat = k + 1 := rfl
  have h2 : (intOf (.int .i64 (k : Int))).toNat = k := rfl
  rw [h1, h2]
  exact Nat.sub_lt_sub_left h (Nat.lt_succ_self k)
theorem add_g (g k : Nat) : (⟨g, 0, none⟩ : Addr).add k = ⟨g, k, none⟩ := by rw [add_none, Nat.zero_add]

section
variable {β : Type} {sz : Nat} {th : Th β sz} {TP TE : TypeId} {W w3 : World} {B p : Nat} {v fv : Value} {es : List (β × Nat)} {nx : Nat}
/-- a pile whose row has grown by one, the struct written -/
theorem Pl.pushed (h : Pl th TP TE W B p v fv es nx) {v' : Value} {e : β × Nat} (ho : w3.ownsRow B TE (sz + 1) v' (es.length + 1) (es.flatMap (ec th) ++ ec th e)) (hg : W.grownBy w3 v.ownBlock) (hv : v'.ownBlock = v.ownBlock ∨ v'.ownBlock = some W.heap.size) :
    Pl th TP TE ((w3.setCell ⟨p, 1, none⟩ v').setCell ⟨p, 2, none⟩ (.int .u64 ((nx : Int) + 1))) B p v' fv (es ++ [e]) (nx + 1) ∧
    Grown2 W ((w3.setCell ⟨p, 1, none⟩ v').setCell ⟨p, 2, none⟩ (.int .u64 ((nx : Int) + 1))) (some p) v.ownBlock ∧ (∀ g, v'.ownBlock = some g → v.ownBlock = some g ∨ W.heap.size ≤ g) := by
  have hne : v'.ownBlock ≠ some p := by
    rcases hv with e' | e'
    · rw [e']; exact h.ne
    · rw [e']; intro e2; injection e2 with e2; have := h.blk.lt; omega
  have hB := h.blk.grown hg h.ne.symm
  refine ⟨⟨?_, ?_, hne⟩, ?_, fun g hg' => ?_⟩
  · have := (hB.set_ 1 v').set_ 2 (.int .u64 ((nx : Int) + 1))
    simpa using this
  · have h1 := (ho.kept (grown_set w3 p 1 v') (.inr hne)).kept (grown_set _ p 2 (.int .u64 ((nx : Int) + 1))) (.inr hne)
    rw [List.flatMap_append, List.flatMap_cons, List.flatMap_nil, List.append_nil, List.length_append]
    exact h1
  · exact (((Grown2.refl W (some p) v.ownBlock).step hg (fun k hk => .inr (.inl hk.symm))).step (grown_set w3 p 1 v') (fun k hk => .inl hk.symm)).step (grown_set _ p 2 _) (fun k hk => .inl hk.symm)
  · rcases hv with e' | e'
    · exact .inl (e' ▸ hg')
    · rw [e'] at hg'; injection hg' with hg'; exact .inr (by omega)
end
section
variable {β : Type} [Inhabited β] {sz : Nat} {th : Th β sz} {TP TE : TypeId} {W w3 : World} {B p : Nat} {fv : Value} {es : List (β × Nat)} {nx : Nat}
theorem _root_.Go.Proofs.Ytdebokambldbbaa.Mem.Grown2.trans2 {w1 w2 w3 : World} {r1 r2 : Option Nat} (h : Grown2 w1 w2 r1 r2) (k : Grown2 w2 w3 r1 r2) : Grown2 w1 w3 r1 r2 :=
  ⟨k.os.trans h.os, k.tape.trans h.tape, k.output.trans h.output, Nat.le_trans h.size k.size, fun j hj h1 h2 => (k.block j (Nat.lt_of_lt_of_le hj h.size) h1 h2).trans (h.block j hj h1 h2)⟩
theorem _root_.Go.Proofs.Ytdebokambldbbaa.Mem.Grown2.of_below {w1 w2 : World} {r1 r2 : Option Nat} (h : Below w1.heap.size w1 w2) : Grown2 w1 w2 r1 r2 := ⟨h.os, h.tape, h.output, h.size, fun j hj _ _ => h.block j hj⟩
theorem _root_.Go.Proofs.Ytdebokambldbbaa.Mem.Grown2.of_by {w1 w2 : World} {r1 r2 : Option Nat} (h : w1.grownBy w2 r2) : Grown2 w1 w2 r1 r2 := ⟨h.os, h.tape, h.output, h.size, fun j hj _ h2 => h.block j hj h2⟩
theorem _root_.Go.Proofs.Ytdebokambldbbaa.Mem.Grown2.new {w1 w2 w3 : World} {r1 r2 : Option Nat} {b : Nat} (h : Grown2 w1 w2 r1 r2) (k : w2.grownBy w3 (some b)) (hb : w1.heap.size ≤ b) : Grown2 w1 w3 r1 r2 := h.step k (fun j hj => by cases hj; exact .inr (.inr hb))
theorem _root_.Go.Proofs.Ytdebokambldbbaa.Mem.Grown2.blk {w1 w2 : World} {r1 r2 : Option Nat} {b : Nat} {T : TypeId} {cs : List Value} (h : Grown2 w1 w2 r1 r2) (hb : Blk w1 b T cs) (h1 : some b ≠ r1) (h2 : some b ≠ r2) : Blk w2 b T cs := (h.block b hb.lt h1 h2).trans hb
theorem Pl.cur {g cap n : Nat} (h : Pl th TP TE W B p (.slice (some ⟨g, 0, none⟩) n cap) fv es nx) : n = es.length ∧ ∃ cur, Blk W g TE cur ∧ cur.length = cap * (sz + 1) ∧ n ≤ cap ∧ B ≤ g := by
  rcases h.own.2 with ⟨hn, _⟩ | ⟨g', cap', cur', hv, hb', hgg, hc', hm', hs, _⟩
  · cases hn
  · injection hv with h1 h2 h3
    injection h1 with h1
    injection h1 with h1
    subst h1 h3
    refine ⟨h2, cur'.toList, by unfold Blk; simpa using hgg, by rw [Array.length_toList]; exact hs, by omega, hb'⟩
/-- a pile whose last entry has been wiped and cut off -/
theorem Pl.cutted {g cap m : Nat} {cur zs : List Value} (h : Pl th TP TE W B p (.slice (some ⟨g, 0, none⟩) es.length cap) fv es nx) (hm : es.length = m + 1) (hb : Blk W g TE cur) (hz : zs.length = sz + 1) (hb3 : Blk w3 g TE (splice cur (m * (sz + 1)) zs)) (hg : W.grownBy w3 (some g)) :
    Pl th TP TE (w3.setCell ⟨p, 1, none⟩ (.slice (some ⟨g, 0, none⟩) m cap)) B p (.slice (some ⟨g, 0, none⟩) m cap) fv (es.take m) nx ∧ Grown2 W (w3.setCell ⟨p, 1, none⟩ (.slice (some ⟨g, 0, none⟩) m cap)) (some p) (some g) := by
  have hgp : g ≠ p := fun e => h.ne (by rw [e]; rfl)
  have hcap := h.cap hb
  obtain ⟨hBg, hcl, hcm⟩ : B ≤ g ∧ es.length ≤ cap ∧ cap ≤ maxLen := by
    rcases h.own.2 with ⟨hn, _⟩ | ⟨g', cap', cur', hv, hb', _, hc', hm', _, _⟩
    · cases hn
    · injection hv with h1 _ h3
      injection h1 with h1
      injection h1 with h1
      subst h1 h3
      exact ⟨hb', hc', hm'⟩
  have ht : cur.take (es.length * (sz + 1)) = es.flatMap (ec th) := by
    rcases h.own.2 with ⟨hn, _⟩ | ⟨g', cap', cur', hv, _, hgg, _, _, _, ht⟩
    · cases hn
    · injection hv with h1 _ h3
      injection h1 with h1
      injection h1 with h1
      subst h1
      have := (show W.heap[g]? = _ from hb).symm.trans hgg
      simp only [Option.some.injEq, Obj.cells.injEq, and_true] at this
      rw [← this] at ht
      simpa using ht
  have hB := h.blk.grown hg (fun e => hgp (by injection e with e; exact e.symm))
  have hml : m * (sz + 1) ≤ cur.length := by rw [hcap]; exact Nat.mul_le_mul_right _ (by omega)
  have hlt : (es.take m).length = m := by rw [List.length_take]; omega
  refine ⟨⟨?_, ?_, by simpa [Value.ownBlock] using hgp⟩, ((Grown2.refl W (some p) (some g)).step hg (fun k hk => .inr (.inl hk.symm))).step (grown_set w3 p 1 _) (fun k hk => .inl hk.symm)⟩
  · have := hB.set_ 1 (.slice (some ⟨g, 0, none⟩) m cap)
    simpa using this
  · have ho : w3.ownsRow B TE (sz + 1) (.slice (some ⟨g, 0, none⟩) m cap) m ((es.take m).flatMap (ec th)) := by
      refine ⟨by rw [flat_len, hlt], .inr ⟨g, cap, (splice cur (m * (sz + 1)) zs).toArray, rfl, hBg, hb3, by omega, hcm, ?_, ?_⟩⟩
      · simp only [List.size_toArray]
        rw [splice_len _ _ _ (by rw [hz, hcap]; have := Nat.mul_le_mul_right (sz + 1) (show m + 1 ≤ cap by omega); rw [Nat.add_mul] at this; omega), hcap]
      · simp only [splice, List.append_assoc]
        rw [List.take_append_of_le_length (by rw [List.length_take]; omega), List.take_take, Nat.min_self]
        have h1 : cur.take (m * (sz + 1)) = (es.flatMap (ec th)).take (m * (sz + 1)) := by
          rw [← ht, List.take_take, Nat.min_eq_left (Nat.mul_le_mul_right _ (by omega))]
        rw [h1]
        conv => lhs; rw [← List.take_append_drop m es, List.flatMap_append]
        rw [List.take_left' (by rw [flat_len, hlt])]
    have h1 := ho.kept (grown_set w3 p 1 (.slice (some ⟨g, 0, none⟩) m cap)) (.inr (by simpa [Value.ownBlock] using hgp))
    rw [hlt]
    exact h1
end
theorem results_two {P : Program} {fn : Func} {a b : Tmp} {t : TypeId} (h : fn.results = #[.cell a t, .tmp b]) (tmps : Array Value) {w : World} {ad : Addr} {v : Value} (ha : tmps.getD a undef = .pointer (some ad)) (hl : (loadVar t ad).run P w = .ok v w) : (results fn tmps).run P w = .ok (.tuple #[v, tmps.getD b undef]) w := by
  simp only [results, h]
  simp [asAddr, ha, hl, Result.andThen, -Array.getD_eq_getD_getElem?]
section
variable {β : Type} {sz : Nat} {th : Th β sz} {TP TE : TypeId} {W W' : World} {B p : Nat} {v fv : Value} {es : List (β × Nat)} {nx : Nat}
theorem own_cells {T : TypeId} {size n : Nat} {xs : List Value} (h : W.ownsRow B T size v n xs) {g : Nat} (hg : v.ownBlock = some g) : ∃ o : Obj, W.heap[g]? = some o ∧ o.isCells = true := by
  rcases h.2 with ⟨rfl, _⟩ | ⟨g', cap, cur, rfl, _, hgg, _⟩
  · cases hg
  · obtain rfl : g' = g := by simpa [Value.ownBlock] using hg
    exact ⟨_, hgg, rfl⟩
theorem Pl.others (h : Pl th TP TE W B p v fv es nx) (hg : Grown2 W W' (some p) v.ownBlock) : KeepsOthers W W' := ⟨hg.size, fun k o hk ho => by
  refine (hg.block k (Array.getElem?_eq_some_iff.1 hk).1 (fun e => ?_) (fun e => ?_)).trans hk
  · injection e with e; subst e
    rw [show W.heap[k]? = _ from h.blk] at hk; cases hk; cases ho
  · obtain ⟨o', h1, h2⟩ := own_cells h.own e.symm
    rw [h1] at hk; cases hk; rw [h2] at ho; cases ho⟩
theorem own_turned {row : Option Nat} {T : TypeId} {size n : Nat} {xs : List Value} (h : W.ownsRow B T size v n xs) (hg : W.grownBy W' row) (hr : ∀ r, row = some r → ∃ o : Obj, W.heap[r]? = some o ∧ o.isCells = false) : W'.ownsRow B T size v n xs := by
  refine h.kept hg ?_
  cases hv : v.ownBlock with
  | none => exact .inl rfl
  | some g =>
    refine .inr fun e => ?_
    obtain ⟨o, h1, h2⟩ := own_cells h hv
    obtain ⟨o', h3, h4⟩ := hr g e.symm
    rw [h1] at h3; cases h3; rw [h2] at h4; cases h4
theorem blk_turned {row : Option Nat} {b : Nat} {T : TypeId} {cs : List Value} (h : Blk W b T cs) (hg : W.grownBy W' row) (hr : ∀ r, row = some r → ∃ o : Obj, W.heap[r]? = some o ∧ o.isCells = false) : Blk W' b T cs := by
  refine h.grown hg fun e => ?_
  obtain ⟨o', h3, h4⟩ := hr b e.symm
  rw [show W.heap[b]? = _ from h] at h3; cases h3; cases h4
theorem Pl.turned {row : Option Nat} (h : Pl th TP TE W B p v fv es nx) (hg : W.grownBy W' row) (hr : ∀ r, row = some r → ∃ o : Obj, W.heap[r]? = some o ∧ o.isCells = false) : Pl th TP TE W' B p v fv es nx := ⟨blk_turned h.blk hg hr, own_turned h.own hg hr, h.ne⟩
theorem own_ne_blk {T TP' : TypeId} {size n p' : Nat} {xs cs : List Value} (h : W.ownsRow B T size v n xs) (hb : Blk W p' TP' cs) (hT : T ≠ TP') : v.ownBlock ≠ some p' := by
  rcases h.2 with ⟨rfl, _⟩ | ⟨g', cap, cur, rfl, _, hgg, _⟩
  · simp [Value.ownBlock]
  · intro e
    obtain rfl : g' = p' := by simpa [Value.ownBlock] using e
    have := (show W.heap[g']? = _ from hb).symm.trans hgg
    simp at this
    exact hT this.2.symm
theorem own_ne_own {T T' : TypeId} {size size' n n' B' : Nat} {u : Value} {xs ys : List Value} (h : W.ownsRow B T size v n xs) (h' : W.ownsRow B' T' size' u n' ys) (hT : T ≠ T') : v.ownBlock = none ∨ v.ownBlock ≠ u.ownBlock := by
  rcases h'.2 with ⟨rfl, _⟩ | ⟨g', cap, cur, rfl, _, hgg, _⟩
  · cases hv : v.ownBlock with
    | none => exact .inl rfl
    | some g => exact .inr (by simp [Value.ownBlock])
  · refine .inr ?_
    have := own_ne_blk (cs := cur.toList) (p' := g') h (by unfold Blk; simpa using hgg) hT
    simpa [Value.ownBlock] using this
theorem keepsOthers_below {W W' : World} (h : Below W.heap.size W W') : KeepsOthers W W' := ⟨h.size, fun k o hk _ => (h.block k (Array.getElem?_eq_some_iff.1 hk).1).trans hk⟩
end
section
variable {P : Program} {t e : TypeId} {zs : List Value} {by_ : Nat}
/-- append of one new element, as a run -/
theorem run_app1 (E : Elt P t e zs by_) {w : World} {ρ : Operand → Value} {o : Oper} (s x : Operand) (ho : o.op = .call { callee := .builtin .append, args := #[s, x], argTypes := #[t, t] })
    (B : Nat) (v : Value) (n : Nat) (xs : List Value) (hs : ρ s = v) (hown : w.ownsRow B e zs.length v n xs) (ad : Addr) (m c : Nat) (news : List Value) (hx : ρ x = .slice (some ad) m c) (hr : RV w (some ad) news) (hm : news.length = m * zs.length) (h1 : ∀ u ∈ news, u.oneCell' = true)
    (h63 : n + m ≤ maxLen) (hbytes : (n + m) * by_ ≤ 140737488355328) (hbase : B ≤ w.heap.size) :
    ∃ v' w', (execOp ρ o).run P w = .ok (.value v') w' ∧ w'.ownsRow B e zs.length v' (n + m) (xs ++ news) ∧ w.grownBy w' v.ownBlock ∧ (v'.ownBlock = v.ownBlock ∨ v'.ownBlock = some w.heap.size) ∧ Keeps w w' e zs.length v n := by
  obtain ⟨i, z', hi, hz, hsz, hby, hcs⟩ := E.inf
  obtain ⟨v', w', hrun, h2, h3, h4, h5⟩ := run_app2 (P := P) w B t o.type e i z' zs.length by_ E.und hi hz hsz hby (by rw [hcs]; simp) E.pos v n xs hown ad m c news hm (hr.cells rfl) h1 h63 hbytes hbase
  refine ⟨v', w', ?_, h2, h3, h4, h5⟩
  unfold execOp
  simp only [ho, resolve, invoke, builtin, Sem.run_bind, Sem.run_pure, Result.andThen_ok, List.map_toArray, List.map_cons, List.map_nil, hs, hx, hrun]
end
theorem wpListIn_app1 {P : Program} {t e : TypeId} {zs : List Value} {by_ : Nat} (E : Elt P t e zs by_) {F : Fence} {fn : Nat} {w : World} {ops : Array Oper} {rest : List Oper} {o : Oper} {a : Act} {Q : Exit → Act → World → Prop} (hgd : o.guard = none) (hF : ∀ f, F.fn f) (s x : Operand) (ho : o.op = .call { callee := .builtin .append, args := #[s, x], argTypes := #[t, t] })
    (B : Nat) (v : Value) (n : Nat) (xs : List Value) (hs : a.eval s = v) (hown : w.ownsRow B e zs.length v n xs) (ad : Addr) (m c : Nat) (news : List Value) (hx : a.eval x = .slice (some ad) m c) (hr : RV w (some ad) news) (hm : news.length = m * zs.length) (h1 : ∀ u ∈ news, u.oneCell' = true)
    (h63 : n + m ≤ maxLen) (hbytes : (n + m) * by_ ≤ 140737488355328) (hbase : B ≤ w.heap.size)
    (h : ∀ v' w', w'.ownsRow B e zs.length v' (n + m) (xs ++ news) → w.grownBy w' v.ownBlock → (v'.ownBlock = v.ownBlock ∨ v'.ownBlock = some w.heap.size) → wpListIn F fn P ops Q rest (a.put o.dst v') w') : wpListIn F fn P ops Q (o :: rest) a w := by
  obtain ⟨v', w', hrun, h2, h3, h4, _⟩ := run_app1 (P := P) E (ρ := a.eval) s x ho B v n xs hs hown ad m c news hx hr hm h1 h63 hbytes hbase
  exact Drain.wpListIn_val hgd hrun hF (fun c hc => by rw [ho] at hc; cases hc) (h v' w' h2 h3 h4)
/-- a push into a row whose box holds it, and what it leaves -/
theorem Boxed.pushed {W w1 : World} {n₀ B : Nat} {t e : TypeId} {size : Nat} {v v' : Value} {k m : Nat} {xs ys : List Value} {tmp : Obj}
    (hv : Boxed W B t v) (hte : t ≠ e) (hrow : W.ownsRow n₀ e size v k xs) (hn₀ : n₀ ≤ W.heap.size) (hB : n₀ ≤ B)
    (hown' : w1.ownsRow n₀ e size v' m ys) (hgrow : (W.alloc tmp).grownBy w1 v.ownBlock) : Grown2 W (w1.setCell ⟨B, 0, none⟩ v') (some B) v.ownBlock :=
  (((Grown2.refl W (some B) v.ownBlock).step (World.grownBy_alloc W tmp none) (fun k hk => by cases hk)).step ⟨hgrow.os, hgrow.tape, hgrow.output, hgrow.size, hgrow.block⟩ (fun k hk => .inr (.inl hk.symm))).step (grown_set w1 B 0 v') (fun k hk => .inl hk.symm)
/-- what the less does: it is called on two things, and answers; nothing of what was there turns -/
structure Less {β : Type} (P : Program) (B : Nat) (w0 : World) (val : β → Value) (D : β → Prop) (fv : Value) (lt : β → β → Bool) : Prop where
  ex : ∃ g lb, fv = .func (.func g) #[] lb ∧ (∀ args w, (callFunc g args).run P w = .ok (.enter g args) w) ∧
    ∀ W a b, Below B w0 W → D a → D b → Calls P g (#[val a, val b] ++ lb) W fun e W' => e = .returned (.bool (lt a b)) ∧ Below W.heap.size W W'
end Go.Proofs.Ytdebokambldbbaa.Pile
