/- Laws of make, append, copy and of the conversion to a string, with few premises, for slices of this seat. Plain theorems over any program. -/
import Derived.Test.YtojemdggbcklkaaDoorMem
import Derived.Lib.BufferRead
namespace Go.Proofs.YtojemdggbcklkaaDoor.Mem
open Go.RowKit

/-- A slice type t of elements e: the zero element's cells, its bytes. -/
structure Elt (P : Program) (t e : TypeId) (zs : List Value) (by_ : Nat) : Prop where
  und : P.underlying t = some (.slice e)
  inf : ∃ i z, P.info? e = some i ∧ i.zero = some z ∧ i.size = zs.length ∧ i.bytes = by_ ∧ z.cells = zs.toArray
  pos : 0 < zs.length

theorem Elt.mk1 {P : Program} {t e : TypeId} {z : Value} {by_ : Nat} (h1 : P.underlying t = some (.slice e)) (h2 : (P.info? e).map (fun i => (i.zero, i.size, i.bytes)) = some (some z, 1, by_)) (h3 : z.cells = #[z]) : Elt P t e [z] by_ := by
  obtain ⟨i, hi, hz, hs, hb⟩ := info_parts h2
  exact ⟨h1, ⟨i, z, hi, hz, hs, hb, h3⟩, by simp⟩

theorem Elt.mkN {P : Program} {t e : TypeId} {z : Value} {zs : List Value} {by_ : Nat} (h1 : P.underlying t = some (.slice e)) (h2 : (P.info? e).map (fun i => (i.zero, i.size, i.bytes)) = some (some z, zs.length, by_)) (h3 : z.cells = zs.toArray) (h4 : 0 < zs.length) : Elt P t e zs by_ := by
  obtain ⟨i, hi, hz, hs, hb⟩ := info_parts h2
  exact ⟨h1, ⟨i, z, hi, hz, hs, hb, h3⟩, h4⟩

theorem Elt.size {P : Program} {t e : TypeId} {zs : List Value} {by_ : Nat} (E : Elt P t e zs by_) : (P.info? e).map (·.size) = some zs.length := by
  obtain ⟨i, z, hi, _, hs, _⟩ := E.inf
  simp [hi, hs]

/-- The address A reads, cell by cell, as xs. -/
def RV (w : World) (A : Option Addr) (xs : List Value) : Prop :=
  ∀ k (h : k < xs.length), ∃ ad, A = some ad ∧ w.cell? (ad.add k) = some xs[k]

section
variable {w w' : World} {A : Option Addr} {xs : List Value}
theorem RV.nil (w : World) (A : Option Addr) : RV w A [] := fun k h => absurd h (by simp)
theorem RV.keep (h : RV w A xs) (hk : ∀ p : Addr, p.block < w.heap.size → w'.cell? p = w.cell? p) : RV w' A xs :=
  fun k hl => by
    obtain ⟨ad, e, hc⟩ := h k hl
    exact ⟨ad, e, (hk _ (by exact block_lt_of_cell hc)).trans hc⟩
theorem RV.below (h : RV w A xs) (hb : Below w.heap.size w w') : RV w' A xs := h.keep fun _ hp => hb.cell hp
theorem RV.drewN (h : RV w A xs) (n : Nat) : RV (w.drewN n) A xs := h
theorem RV.drew (h : RV w A xs) : RV w.drew A xs := h
theorem RV.alloc (h : RV w A xs) (o : Obj) : RV (w.alloc o) A xs := h.keep fun p hp => World.cell?_alloc_lt w o p hp
theorem RV.take (h : RV w A xs) (n : Nat) : RV w A (xs.take n) := fun k hk => by
  have hk' : k < xs.length := by simp at hk; omega
  obtain ⟨ad, e, hc⟩ := h k hk'
  exact ⟨ad, e, by rw [List.getElem_take]; exact hc⟩
theorem RV.cells (h : RV w A xs) {ad : Addr} (hA : A = some ad) : ∀ j v, xs[j]? = some v → w.cell? (ad.add j) = some v := fun j v hj => by
  obtain ⟨hlt, hv⟩ := List.getElem?_eq_some_iff.1 hj
  obtain ⟨ad', e, hc⟩ := h j hlt
  rw [hA] at e
  injection e with e
  subst e
  rw [hc, hv]
theorem RB.rv {l : List UInt8} (h : RB w A l) : RV w A (l.map bv) := fun k hk => by
  obtain ⟨ad, e, hc⟩ := h k (by simpa using hk)
  exact ⟨ad, e, by simpa using hc⟩
theorem RV.rb {l : List UInt8} (h : RV w A (l.map bv)) : RB w A l := fun k hk => by
  obtain ⟨ad, e, hc⟩ := h k (by simpa using hk)
  exact ⟨ad, e, by simpa using hc⟩
theorem rv_new (w : World) (cs : List Value) (t : TypeId) : RV (w.alloc (.cells cs.toArray t)) (some ⟨w.heap.size, 0, none⟩) cs := fun k hk => by
  refine ⟨_, rfl, ?_⟩
  rw [add_none, (Blk.new w t cs).cell]
  simp [List.getElem?_eq_getElem hk]
theorem RV.rb' (h : RV w A xs) (l : List UInt8) (e : xs = l.map bv) : RB w A l := by subst e; exact h.rb
theorem rv2a (w : World) (o : Obj) (T : TypeId) (cs : List Value) : RV ((w.alloc (.cells cs.toArray T)).alloc o) (some ⟨w.heap.size, 0, none⟩) cs := (rv_new w cs T).alloc o
theorem rv2b (w : World) (o : Obj) (T : TypeId) (cs : List Value) : RV ((w.alloc o).alloc (.cells cs.toArray T)) (some ⟨w.heap.size + 1, 0, none⟩) cs := by
  have := rv_new (w.alloc o) cs T
  simpa using this
theorem Blk.rv {g : Nat} {t : TypeId} {cs : List Value} (h : Blk w g t cs) : RV w (some ⟨g, 0, none⟩) cs := fun k hk => by
  refine ⟨_, rfl, ?_⟩
  rw [add_none, h.cell]
  simp [List.getElem?_eq_getElem hk]
theorem own_rv {base : Nat} {t : TypeId} {n c size : Nat} (h : w.ownsRow base t size (.slice A n c) n xs) : RV w A xs := fun k hk => by
  have hn : 0 < n := by
    rcases Nat.eq_zero_or_pos n with h0 | h0
    · have := h.1; subst h0; omega
    · exact h0
  obtain ⟨g, cap, hv, _, _⟩ := h.form hn
  have hA : A = some ⟨g, 0, none⟩ := by injection hv
  subst hA
  exact ⟨_, rfl, h.cells (g := g) rfl k xs[k] (List.getElem?_eq_getElem hk)⟩
end

/-- behind an append: what lay below the call's own blocks lies as it lay -/
theorem below_own {w0 w w' : World} {B : Nat} {e : TypeId} {size n : Nat} {v : Value} {xs : List Value} (hb : Below B w0 w) (hown : w.ownsRow B e size v n xs) (hg : w.grownBy w' v.ownBlock) (hB : B ≤ w.heap.size) : Below B w0 w' :=
  hb.grown hg hB fun k hk => (hown.lt k hk).1

theorem own_form {w : World} {B : Nat} {e : TypeId} {size n : Nat} {v : Value} {xs : List Value} (h : w.ownsRow B e size v n xs) : ∃ A n' c, v = .slice A n' c ∧ n' = n := by
  rcases h.2 with ⟨rfl, rfl⟩ | ⟨g, cap, cur, rfl, _⟩
  · exact ⟨_, _, _, rfl, rfl⟩
  · exact ⟨_, _, _, rfl, rfl⟩
theorem own_rb' {w : World} {base : Nat} {t : TypeId} {A : Option Addr} {n n' c : Nat} {l : List UInt8} (h : w.ownsRow base t 1 (.slice A n' c) n (l.map bv)) : RB w A l := by
  obtain ⟨_, _, _, e, hn⟩ := own_form h
  injection e with _ e
  subst e
  subst hn
  exact own_rb h

theorem bytes_oneCell (l : List UInt8) : ∀ u ∈ l.map bv, u.oneCell' = true := by
  intro u hu
  obtain ⟨c, _, rfl⟩ := List.mem_map.1 hu
  rfl

section
variable {P : Program} {t e : TypeId} {zs : List Value} {by_ : Nat}

/-- make([]T, n), T of one cell. -/
theorem wpList_make1 {z : Value} (E : Elt P t e [z] by_) {w : World} {ops : Array Oper} {rest : List Oper} {o : Oper} {a : Act} {Q : Exit → Act → World → Prop}
    (hg : o.guard = none) (l c : Operand) (hop : o.op = Op.makeSlice t l c) (kl kc : IntKind) (L C : Int) (n : Nat) (hl : a.eval l = .int kl L) (hc : a.eval c = .int kc C) (hL : L = (n : Int)) (hC : C = (n : Int))
    (hb : by_ * n ≤ 281474976710656) (h63 : n ≤ maxLen) (H : Nat) (hH : w.heap.size = H)
    (hK : ∀ w', Blk w' H e (List.replicate n z) → Below H w w' → w'.heap.size = H + 1 → wpList P ops Q rest (a.put o.dst (.slice (some ⟨H, 0, none⟩) n n)) w') :
    wpList P ops Q (o :: rest) a w := by
  subst hH
  obtain ⟨i, z', hi, hz, hs, hby, hcs⟩ := E.inf
  refine wpList_plain hg fun K hK' => ?_
  subst hL hC
  have hb' : (i.bytes : Int) * (n : Int) ≤ 281474976710656 := by
    have h : ((i.bytes * n : Nat) : Int) ≤ 281474976710656 := by rw [hby]; omega
    rwa [Int.natCast_mul] at h
  have hrun := run_make (P := P) w t e i z' E.und hi hz kl kc n n (by omega) (Int.le_refl _) hb' (by unfold maxLen at h63; omega)
  simp only [Int.toNat_natCast] at hrun
  unfold Oper.wp
  simp [execOp, hop, hl, hc, hrun, Result.andThen]
  refine hK' _ _ (hK _ ?_ ((Below.refl _ _).alloc (Nat.le_refl _) _) (by simp))
  have he : (madeCells z'.cells (n * i.size)) = (List.replicate n z).toArray := by
    rw [hcs, hs]
    have := toList_madeCells_one z n
    simp only [List.length_singleton, Nat.mul_one]
    rw [← this]
  rw [he]
  exact heap_alloc_new w _

/-- make([]T, 0, n): an owned row, empty, with room for n. -/
theorem wpList_make0 (E : Elt P t e zs by_) {w : World} {ops : Array Oper} {rest : List Oper} {o : Oper} {a : Act} {Q : Exit → Act → World → Prop}
    (hg : o.guard = none) (l c : Operand) (hop : o.op = Op.makeSlice t l c) (kl kc : IntKind) (C : Int) (n : Nat) (hl : a.eval l = .int kl 0) (hc : a.eval c = .int kc C) (hC : C = (n : Int))
    (hb : by_ * n ≤ 281474976710656) (h63 : n ≤ maxLen) (B : Nat) (hB : B ≤ w.heap.size)
    (hK : ∀ v w', w'.ownsRow B e zs.length v 0 [] → (v.ownBlock = some w.heap.size) → Below w.heap.size w w' → w'.heap.size = w.heap.size + 1 → (∃ ad, v = .slice (some ad) 0 n) → wpList P ops Q rest (a.put o.dst v) w') :
    wpList P ops Q (o :: rest) a w := by
  obtain ⟨i, z', hi, hz, hs, hby, hcs⟩ := E.inf
  refine wpList_plain hg fun K hK' => ?_
  subst hC
  have hb' : (i.bytes : Int) * (n : Int) ≤ 281474976710656 := by
    have h : ((i.bytes * n : Nat) : Int) ≤ 281474976710656 := by rw [hby]; omega
    rwa [Int.natCast_mul] at h
  have hrun := run_make (P := P) w t e i z' E.und hi hz kl kc 0 n (by omega) (by omega) hb' (by unfold maxLen at h63; omega)
  simp only [Int.toNat_natCast, Int.toNat_zero] at hrun
  unfold Oper.wp
  simp [execOp, hop, hl, hc, hrun, Result.andThen]
  refine hK' _ _ (hK _ _ ?_ rfl ((Below.refl _ _).alloc (Nat.le_refl _) _) (by simp) ⟨_, rfl⟩)
  exact ⟨by simp, .inr ⟨_, n, _, rfl, hB, heap_alloc_new w _, by omega, h63, by rw [size_madeCells, hs], by simp⟩⟩

/-- append(s, xs...): s nil or the call's own; whatever xs. -/
theorem wp_app (E : Elt P t e zs by_) {w : World} {o : Oper} {a : Act} {K : Act → World → Prop} {Q : Exit → Act → World → Prop}
    (s x : Operand) (ho : o.op = .call { callee := .builtin .append, args := #[s, x], argTypes := #[t, t] })
    (B : Nat) (v : Value) (n : Nat) (xs : List Value) (hs : a.eval s = v) (hown : w.ownsRow B e zs.length v n xs)
    (A : Option Addr) (m c : Nat) (news : List Value) (hx : a.eval x = .slice A m c) (hr : RV w A news) (hm : news.length = m * zs.length) (h1 : ∀ u ∈ news, u.oneCell' = true)
    (h63 : n + m ≤ maxLen) (hbytes : (n + m) * by_ ≤ 140737488355328) (hbase : B ≤ w.heap.size)
    (h : ∀ v' w', w'.ownsRow B e zs.length v' (n + m) (xs ++ news) → w.grownBy w' v.ownBlock → (v'.ownBlock = v.ownBlock ∨ v'.ownBlock = some w.heap.size) → K (a.put o.dst v') w') : o.wp P a w K Q := by
  obtain ⟨i, z', hi, hz, hsz, hby, hcs⟩ := E.inf
  have key : ∃ v' w', (Builtin.append_ #[t, t] o.type #[v, .slice A m c]).run P w = .ok v' w' ∧ w'.ownsRow B e zs.length v' (n + m) (xs ++ news) ∧ w.grownBy w' v.ownBlock ∧ (v'.ownBlock = v.ownBlock ∨ v'.ownBlock = some w.heap.size) := by
    rcases A with _ | ad
    · have hm0 : news = [] := by
        rcases news with _ | ⟨u, r⟩
        · rfl
        · obtain ⟨ad, he, _⟩ := hr 0 (by simp)
          cases he
      subst hm0
      have hm' : m = 0 := by
        rcases Nat.eq_zero_or_pos m with h0 | h0
        · exact h0
        · have := Nat.mul_pos h0 E.pos; simp at hm; omega
      subst hm'
      refine ⟨v, w, ?_, by simpa using hown, World.grownBy.refl w _, .inl rfl⟩
      rcases hown.2 with ⟨rfl, rfl⟩ | ⟨g, cap, cur, rfl, _, _, hnc, _⟩
      · simp [Builtin.append_, run_underlying E.und, sizeOf, typeInfo, hi, Builtin.lenOf, Builtin.firstCells]
      · simp [Builtin.append_, run_underlying E.und, sizeOf, typeInfo, hi, Builtin.lenOf, Builtin.firstCells, hnc, storeCells]
    · obtain ⟨v', w', hrun, h2, h3, _, h5⟩ := run_append_own_at (P := P) w B t o.type e i z' zs.length by_ E.und hi hz hsz hby (by rw [hcs]; simp) E.pos v n xs hown ad m c news hm (hr.cells rfl) h1 h63 hbytes hbase
      exact ⟨v', w', hrun, h2, h3, h5⟩
  obtain ⟨v', w', hrun, h2, h3, h4⟩ := key
  unfold Oper.wp execOp
  simp only [ho, resolve, invoke, builtin, Sem.run_bind, Sem.run_pure, Result.andThen_ok, List.map_toArray, List.map_cons, List.map_nil, hs, hx, hrun]
  exact h v' w' h2 h3 h4

theorem wpList_app (E : Elt P t e zs by_) {w : World} {ops : Array Oper} {rest : List Oper} {o : Oper} {a : Act} {Q : Exit → Act → World → Prop} (hgd : o.guard = none)
    (s x : Operand) (ho : o.op = .call { callee := .builtin .append, args := #[s, x], argTypes := #[t, t] })
    (B : Nat) (v : Value) (n : Nat) (xs : List Value) (hs : a.eval s = v) (hown : w.ownsRow B e zs.length v n xs)
    (A : Option Addr) (m c : Nat) (news : List Value) (hx : a.eval x = .slice A m c) (hr : RV w A news) (hm : news.length = m * zs.length) (h1 : ∀ u ∈ news, u.oneCell' = true)
    (h63 : n + m ≤ maxLen) (hbytes : (n + m) * by_ ≤ 140737488355328) (hbase : B ≤ w.heap.size)
    (h : ∀ v' w', w'.ownsRow B e zs.length v' (n + m) (xs ++ news) → w.grownBy w' v.ownBlock → (v'.ownBlock = v.ownBlock ∨ v'.ownBlock = some w.heap.size) → wpList P ops Q rest (a.put o.dst v') w') : wpList P ops Q (o :: rest) a w :=
  wpList_plain hgd fun _ hK => wp_app E s x ho B v n xs hs hown A m c news hx hr hm h1 h63 hbytes hbase fun v' w' h2 h3 h4 => hK _ _ (h v' w' h2 h3 h4)

/-- .. as one step of a region that draws its order. -/
theorem step_app (E : Elt P t e zs by_) {w : World} {ops : Array Oper} {o : Oper} {a : Act} {K : Act → World → Prop} {Q : Exit → Act → World → Prop} {F : Prop} (hgd : o.guard = none)
    (s x : Operand) (ho : o.op = .call { callee := .builtin .append, args := #[s, x], argTypes := #[t, t] })
    (B : Nat) (v : Value) (n : Nat) (xs : List Value) (hs : a.eval s = v) (hown : w.ownsRow B e zs.length v n xs)
    (A : Option Addr) (m c : Nat) (news : List Value) (hx : a.eval x = .slice A m c) (hr : RV w A news) (hm : news.length = m * zs.length) (h1 : ∀ u ∈ news, u.oneCell' = true)
    (h63 : n + m ≤ maxLen) (hbytes : (n + m) * by_ ≤ 140737488355328) (hbase : B ≤ w.heap.size)
    (h : ∀ v' w', w'.ownsRow B e zs.length v' (n + m) (xs ++ news) → w.grownBy w' v.ownBlock → (v'.ownBlock = v.ownBlock ∨ v'.ownBlock = some w.heap.size) → K (a.put o.dst v') w') :
    if Region.wanted o (yielded ops a.tmps) = true then Oper.wp P o a w K Q else F := by
  have hw : Region.wanted o (yielded ops a.tmps) = true := by simp [Region.wanted, hgd]
  rw [if_pos hw]
  exact wp_app E s x ho B v n xs hs hown A m c news hx hr hm h1 h63 hbytes hbase h

/-- copy into a block that is known whole (elements of one cell), the source whatever. -/
theorem wpList_copy1 {z : Value} (E : Elt P t e [z] by_) {w : World} {ops : Array Oper} {rest : List Oper} {o : Oper} {a : Act} {Q : Exit → Act → World → Prop} (hgd : o.guard = none)
    (d s : Operand) (ho : o.op = .call { callee := .builtin .copy, args := #[d, s], argTypes := #[t, t] })
    (g off dLen dCap : Nat) (A : Option Addr) (sLen sCap : Nat) (hd : a.eval d = .slice (some ⟨g, off, none⟩) dLen dCap) (hs : a.eval s = .slice A sLen sCap)
    (T : TypeId) (cur : List Value) (hB : Blk w g T cur) (xs : List Value) (hlen : xs.length = sLen) (hr : RV w A xs) (hfit : off + dLen ≤ cur.length) (h1 : ∀ u ∈ xs, u.oneCell' = true)
    (h : ∀ w', Blk w' g T (splice cur off (xs.take dLen)) → Below g w w' → w'.heap.size = w.heap.size → w.grownBy w' (some g) → wpList P ops Q rest (a.put o.dst (.int .i64 (Nat.min sLen dLen : Nat))) w') :
    wpList P ops Q (o :: rest) a w := by
  have hmin : (xs.take dLen).length = Nat.min sLen dLen := by rw [List.length_take, hlen]; exact Nat.min_comm _ _
  by_cases h0 : Nat.min sLen dLen = 0
  · have hnil : xs.take dLen = [] := List.eq_nil_of_length_eq_zero (by omega)
    refine wpList_copy_nothing hgd d s t t ho e E.und E.size _ _ dLen dCap sLen sCap hd hs h0 ?_
    have := h w (by rw [hnil]; simpa [splice] using hB) (Below.refl _ _) rfl (World.grownBy.refl w _)
    rw [h0] at this
    exact this
  · have hpos : 0 < xs.length := by
      have : Nat.min sLen dLen ≤ sLen := Nat.min_le_left _ _
      omega
    obtain ⟨ad, rfl, _⟩ := hr 0 hpos
    refine wpList_copy_own hgd d s t t ho e E.und E.size g off dLen dCap ad sLen sCap hd hs cur.toArray T hB (xs.take dLen) hmin ((hr.take _).cells rfl) (by rw [hmin]; have := Nat.min_le_right sLen dLen; simp only [List.size_toArray]; exact Nat.le_trans (Nat.add_le_add_left this _) hfit) (fun v hv => h1 v (List.mem_of_mem_take hv)) ?_
    rw [hmin]
    refine h _ ?_ (below_setRow (Below.refl _ _) (Nat.le_refl _) _) (by simp) ⟨rfl, rfl, rfl, by simp, fun k hk hne => setRow_other w g k _ (fun e => hne (by rw [e]))⟩
    have := setRow_heap w g _ (splice cur off (xs.take dLen)).toArray T (0, 0) hB
    unfold Blk
    simpa [splice, hmin] using this

/-- string(b) -/
theorem conv_rb {w : World} {src dst : TypeId} {A : Option Addr} {l : List UInt8} (hs : P.underlying src = some (.slice e)) (he : P.underlying e = some (.int .u8)) (hd : P.underlying dst = some .string) (h : RB w A l) (cap : Nat) :
    (convert src dst (.slice A l.length cap)).run P w = .ok (.string ⟨l.toArray⟩) w := by
  rcases A with _ | ad
  · have hl : l = [] := by
      rcases l with _ | ⟨c, r⟩
      · rfl
      · obtain ⟨ad, he, _⟩ := h 0 (by simp)
        cases he
    subst hl
    exact Lib.run_convert_nil_bytes w src dst e cap hs he hd
  · refine run_convert_bytes_back w src dst e ad cap l hs he hd fun j hj => ?_
    obtain ⟨ad', e', hc⟩ := h j hj
    injection e' with e'
    subst e'
    exact hc
end
end Go.Proofs.YtojemdggbcklkaaDoor.Mem
