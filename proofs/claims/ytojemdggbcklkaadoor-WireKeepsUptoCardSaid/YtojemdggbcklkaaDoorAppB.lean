/- append onto bytes that the call has made itself, those of []byte(s) among them (their block bears a mark behind its end). Plain theorems over any program. -/
import Derived.Test.YtojemdggbcklkaaDoorRgLite
import Derived.Lib.SmallJoins
import Derived.Lib.AppendIntMem
namespace Go.Proofs.YtojemdggbcklkaaDoor.Mem
open Go.RowKit
set_option linter.unusedVariables false
set_option linter.unusedSimpArgs false

theorem run_storeCells_m (P : Program) (g o : Nat) (t : TypeId) (fz : Nat × Nat) : ∀ (vs : List Value) (i : Nat) (cur : Array Value) (w : World), w.heap[g]? = some (.cells cur t fz) → (fz.2 = 0 ∨ cur.size ≤ fz.1) → o + i + vs.length ≤ cur.size → (∀ v ∈ vs, v.oneCell' = true) →
    (storeCells ⟨g, o, none⟩ vs i).run P w = .ok () (w.setRow g (cur.toList.take (o + i) ++ vs ++ cur.toList.drop (o + i + vs.length)).toArray)
  | [], i, cur, w, hg, _, _, _ => by
    simp only [storeCells, List.append_nil, List.length_nil, Nat.add_zero, List.take_append_drop, Array.toArray_toList]
    rw [setRow_self w g cur t fz hg]
    rfl
  | v :: rest, i, cur, w, hg, hfz, hl, h1 => by
    have hi : o + i < cur.size := by simp at hl; omega
    have hadd : (⟨g, o, none⟩ : Addr).add i = ⟨g, o + i, none⟩ := by unfold Addr.add; split <;> simp_all
    have hcell : w.cell? ⟨g, o + i, none⟩ = some cur[o + i] := by simp [World.cell?, hg, hi]
    have hfro : w.frozen? ⟨g, o + i, none⟩ = false := by
      obtain ⟨lo, hi'⟩ := fz
      simp only [World.frozen?, hg, Bool.and_eq_false_iff, decide_eq_false_iff_not]
      simp only at hfz
      omega
    have hst : (store ((⟨g, o, none⟩ : Addr).add i) v).run P w = .ok () (w.setRow g (cur.setIfInBounds (o + i) v)) := by
      rw [hadd, run_store P w _ v _ (h1 v (by simp)), hcell]
      simp [hfro, setCell_eq_setRow w g (o + i) cur t fz v hg]
    have ih := run_storeCells_m P g o t fz rest (i + 1) (cur.setIfInBounds (o + i) v) (w.setRow g (cur.setIfInBounds (o + i) v)) (setRow_heap w g cur _ t _ hg) (by simpa using hfz) (by simp at hl ⊢; omega) (fun x hx => h1 x (by simp [hx]))
    simp only [storeCells, Sem.run_bind, hst, Result.andThen_ok, ih, setRow_setRow]
    congr 3
    have e := list_seg_step cur.toList (o + i) v rest (by simp at hl ⊢; omega)
    simpa [Array.toList_setIfInBounds, Nat.add_assoc] using e

/-- bytes of the call's own: nil, or a block from B on, none of whose cells is shared with a text -/
def OwnB (w : World) (B : Nat) (e : TypeId) (v : Value) (l : List UInt8) : Prop :=
  (v = .slice none 0 0 ∧ l = []) ∨ ∃ g cap cur fz, v = .slice (some ⟨g, 0, none⟩) l.length cap ∧ B ≤ g ∧ w.heap[g]? = some (.cells cur e fz) ∧ l.length ≤ cap ∧ cap ≤ maxLen ∧ cur.size = cap ∧ cur.toList.take l.length = l.map bv ∧ (fz.2 = 0 ∨ cap ≤ fz.1)
section
variable {w w' : World} {B : Nat} {e : TypeId} {v : Value} {l : List UInt8}
theorem OwnB.rb (h : OwnB w B e v l) : ∃ A c, v = .slice A l.length c ∧ RB w A l := by
  rcases h with ⟨rfl, rfl⟩ | ⟨g, cap, cur, fz, rfl, hb, hg, h1, h2, h3, h4, h5⟩
  · exact ⟨_, _, rfl, RB.nil _ _⟩
  · refine ⟨_, _, rfl, fun k hk => ⟨_, rfl, ?_⟩⟩
    rw [add_none, Nat.zero_add, World.cell?, hg]
    have := congrArg (·[k]?) h4
    simp only [List.getElem?_take, List.getElem?_map, List.getElem?_eq_getElem hk, if_pos hk, Option.map_some] at this
    simpa using this
theorem OwnB.grow (h : OwnB w B e v l) (hb : Below w.heap.size w w') : OwnB w' B e v l := by
  rcases h with h | ⟨g, cap, cur, fz, h0, hB, hg, h1⟩
  · exact .inl h
  · exact .inr ⟨g, cap, cur, fz, h0, hB, (hb.block g (Array.getElem?_eq_some_iff.1 hg).1).trans hg, h1⟩
theorem OwnB.of_own {n : Nat} (h : w.ownsRow B e 1 v n (l.map bv)) : OwnB w B e v l := by
  have hn : n = l.length := by have := h.1; simp at this; exact this.symm
  subst hn
  rcases h.2 with ⟨h1, h2⟩ | ⟨g, cap, cur, h1, h2, h3, h4, h5, h6, h7⟩
  · exact .inl ⟨h1, List.eq_nil_of_length_eq_zero h2⟩
  · exact .inr ⟨g, cap, cur, (0, 0), h1, h2, h3, h4, h5, by simpa using h6, by simpa using h7, .inl rfl⟩
theorem conv_own {P : Program} {src dst : TypeId} (hs : P.underlying src = some .string) (hd : P.underlying dst = some (.slice e)) (he : P.underlying e = some (.int .u8)) (hl : l.length ≤ maxLen) :
    ∃ v w', (convert src dst (.string ⟨l.toArray⟩)).run P w = .ok v w' ∧ OwnB w' w.heap.size e v l ∧ Below w.heap.size w w' := by
  have h := run_bytes_of_string (P := P) w src dst e ⟨l.toArray⟩ hs hd he
  have hsz : (⟨l.toArray⟩ : ByteArray).size = l.length := by simp [ByteArray.size]
  rw [hsz] at h
  refine ⟨_, _, h, .inr ⟨w.heap.size, _, _, _, rfl, Nat.le_refl _, heap_alloc_new w.drew _, grownCap_ge w l.length 0 e, grownCap_le_maxLen w l.length 0 e hl, ?_, ?_, ?_⟩, ga (gr w).drew _⟩
  · have := grownCap_ge w l.length 0 e
    simp [bytesRow, ByteArray.size]
    omega
  · refine List.ext_getElem? fun k => ?_
    rw [List.getElem?_take]
    by_cases hk : k < l.length
    · rw [if_pos hk]
      have hb := bytesRow_at ⟨l.toArray⟩ (grownCap w l.length 0 e) k (by simpa using hk)
      simp only [Array.getElem?_toList, hb, List.getElem?_map, List.getElem?_eq_getElem hk, Option.map_some]
      simp [bv]
    · rw [if_neg hk, List.getElem?_eq_none (by simpa using hk)]
  · have := grownCap_ge w l.length 0 e
    right
    simp [bytesRow, ByteArray.size]
    omega
/-- append, whatever the source's bytes lie in -/
theorem run_appB {P : Program} {t u ty : TypeId} {x : Value} {m : List UInt8} (ht : P.underlying t = some (.slice e)) {i : TypeInfo} (hi : P.info? e = some i) (hz : i.zero = some (.int .u8 0)) (hsize : i.size = 1) (hby : i.bytes = 1)
    (hown : OwnB w B e v l) (hB : B ≤ w.heap.size)
    (hroom : ∀ g cap cur fz, w.heap[g]? = some (.cells cur e fz) → (fz.2 = 0 ∨ cur.size ≤ fz.1) → l.length + m.length ≤ cap → cur.size = cap → (Builtin.append_ #[t, u] ty #[.slice (some ⟨g, 0, none⟩) l.length cap, x]).run P w = .ok (.slice (some ⟨g, 0, none⟩) (l.length + m.length) cap) (w.setRow g (cur.toList.take l.length ++ m.map bv ++ cur.toList.drop (l.length + m.length)).toArray))
    (hgrow : ∀ g cap, ¬ l.length + m.length ≤ cap → (∀ j y, (l.map bv)[j]? = some y → w.cell? ((⟨g, 0, none⟩ : Addr).add j) = some y) → (Builtin.append_ #[t, u] ty #[.slice (some ⟨g, 0, none⟩) l.length cap, x]).run P w = .ok (.slice (some ⟨w.heap.size, 0, none⟩) (l.length + m.length) (grownCap w (l.length + m.length) cap e)) (w.drew.alloc (.cells ((l.map bv).toArray ++ (m.map bv).toArray ++ Builtin.zeroCells #[.int .u8 0] (grownCap w (l.length + m.length) cap e - (l.length + m.length))) e)))
    (hnil : l = [] → ∃ v' w', (Builtin.append_ #[t, u] ty #[.slice none 0 0, x]).run P w = .ok v' w' ∧ OwnB w' B e v' m ∧ w.grownBy w' none)
    (h63 : l.length + m.length ≤ maxLen) :
    ∃ v' w', (Builtin.append_ #[t, u] ty #[v, x]).run P w = .ok v' w' ∧ OwnB w' B e v' (l ++ m) ∧ w.grownBy w' v.ownBlock := by
  rcases hown with ⟨rfl, rfl⟩ | ⟨g, cap, cur, fz, rfl, hbg, hg, hnc, hcm, hcs, htake, hfz⟩
  · obtain ⟨v', w', h1, h2, h3⟩ := hnil rfl
    exact ⟨v', w', h1, by simpa using h2, h3⟩
  · by_cases hr : l.length + m.length ≤ cap
    · refine ⟨_, _, hroom g cap cur fz hg (by rw [hcs]; exact hfz) hr hcs, .inr ⟨g, cap, _, fz, by rw [List.length_append], hbg, setRow_heap w g cur _ e _ hg, by rw [List.length_append]; exact hr, hcm, ?_, ?_, hfz⟩, ⟨rfl, rfl, rfl, by simp, fun k _ hk => setRow_other w g k _ (fun e => hk (by simp [Value.ownBlock, e]))⟩⟩
      · simp only [List.size_toArray, List.length_append, List.length_take, List.length_drop, Array.length_toList, List.length_map]
        omega
      · rw [htake, List.length_append, ← List.map_append, List.take_left' (by simp)]
    · have hc : ∀ j y, (l.map bv)[j]? = some y → w.cell? ((⟨g, 0, none⟩ : Addr).add j) = some y := fun j y hj => by
        rw [← htake, List.getElem?_take] at hj
        split at hj
        · rw [add_none, Nat.zero_add, World.cell?, hg]
          simpa using hj
        · cases hj
      have hge := grownCap_ge w (l.length + m.length) cap e
      have hcm2 := grownCap_le_maxLen w (l.length + m.length) cap e h63
      refine ⟨_, _, hgrow g cap hr hc, .inr ⟨w.heap.size, _, _, (0, 0), by rw [List.length_append], hB, heap_alloc_new w.drew _, by rw [List.length_append]; exact hge, hcm2, ?_, ?_, .inl rfl⟩, ⟨rfl, rfl, rfl, by simp, fun k hk _ => heap_alloc_old w.drew _ hk⟩⟩
      · simp only [Array.size_append, List.size_toArray, size_zeroCells, List.length_map]
        simp
        omega
      · simp only [Array.toList_append, List.append_assoc]
        rw [← List.append_assoc, ← List.map_append, List.take_left' (by simp)]
variable {P : Program} {t u : TypeId}
theorem wpList_appBS {ops : Array Oper} {rest : List Oper} {o : Oper} {a : Act} {Q : Exit → Act → World → Prop} (hgd : o.guard = none) (s x : Operand) (ho : o.op = .call { callee := .builtin .append, args := #[s, x], argTypes := #[t, u] })
    (ht : P.underlying t = some (.slice e)) (hu : P.underlying u = some .string) (hinf : (P.info? e).map (fun i => (i.zero, i.size, i.bytes)) = some (some (.int .u8 0), 1, 1))
    (hs : a.eval s = v) (hown : OwnB w B e v l) (hB : B ≤ w.heap.size) (m : List UInt8) (hx : a.eval x = .string ⟨m.toArray⟩) (hn : l.length + m.length ≤ 140737488355328)
    (h : ∀ v' w', OwnB w' B e v' (l ++ m) → w.grownBy w' v.ownBlock → wpList P ops Q rest (a.put o.dst v') w') : wpList P ops Q (o :: rest) a w := by
  obtain ⟨i, hi, hz, hsize, hby⟩ := info_parts hinf
  have hsz : (⟨m.toArray⟩ : ByteArray).size = m.length := by simp [ByteArray.size]
  have hsc : Lib.strCells ⟨m.toArray⟩ = m.map bv := by
    refine List.ext_getElem? fun k => ?_
    simp [Lib.strCells, bv]
  obtain ⟨v', w', hr, h2, h3⟩ := run_appB (P := P) (t := t) (u := u) (ty := o.type) (x := .string ⟨m.toArray⟩) (m := m) ht hi hz hsize hby hown hB
    (fun g cap cur fz hg hfz hroom hcs => by
      have hf := Lib.run_firstCells_string (P := P) w 1 ⟨m.toArray⟩
      have hst := run_storeCells_m P g l.length e fz (m.map bv) 0 cur w hg hfz (by simp; omega) (bytes_oneCell m)
      rw [hsc, hsz] at hf
      simp only [Nat.add_zero, List.length_map] at hst
      simp [Builtin.append_, run_underlying ht, run_underlying hu, sizeOf, typeInfo, hi, hsize, Builtin.lenOf, hsz, hroom, hf, Addr.add_lit, hst])
    (fun g cap hr hc => by
      have := Lib.run_append_grow_string (P := P) w t u o.type e i (.int .u8 0) ht hu hi hz ⟨g, 0, none⟩ l.length cap (l.map bv) (by rw [hsize]; simp) hc ⟨m.toArray⟩ (by rw [hsz]; omega) (by rw [hsz]; omega) (by rw [hsz, hby]; exact growslice_fits (by omega) (by omega))
      rw [hsz, hsc] at this
      exact this)
    (fun he => by
      subst he
      obtain ⟨v', w', h1, h2, h3, h4⟩ := Lib.run_append_own_string (P := P) w B t u o.type e i ht hu hi hz hsize hby (.slice none 0 0) 0 [] (World.ownsRow_nil _ _ _ _) ⟨m.toArray⟩ (by rw [hsz]; unfold maxLen; simp at hn; omega) (by rw [hsz]; simp at hn; omega) hB
      rw [hsz, hsc] at h2
      exact ⟨v', w', h1, OwnB.of_own (by simpa using h2), h3⟩)
    (by unfold maxLen; omega)
  refine wpList_plain hgd fun K hK => ?_
  unfold Oper.wp execOp
  simp only [ho, resolve, invoke, builtin, Sem.run_bind, Sem.run_pure, Result.andThen_ok, List.map_toArray, List.map_cons, List.map_nil, hs, hx, hr]
  exact hK _ _ (h v' w' h2 h3)
theorem wpList_appBB {ops : Array Oper} {rest : List Oper} {o : Oper} {a : Act} {Q : Exit → Act → World → Prop} (hgd : o.guard = none) (s x : Operand) (ho : o.op = .call { callee := .builtin .append, args := #[s, x], argTypes := #[t, t] })
    (ht : P.underlying t = some (.slice e)) (hinf : (P.info? e).map (fun i => (i.zero, i.size, i.bytes)) = some (some (.int .u8 0), 1, 1))
    (hs : a.eval s = v) (hown : OwnB w B e v l) (hB : B ≤ w.heap.size) (A : Option Addr) (k c : Nat) (m : List UInt8) (hx : a.eval x = .slice A k c) (hk : k = m.length) (hrb : RB w A m) (hn : l.length + m.length ≤ 140737488355328)
    (h : ∀ v' w', OwnB w' B e v' (l ++ m) → w.grownBy w' v.ownBlock → wpList P ops Q rest (a.put o.dst v') w') : wpList P ops Q (o :: rest) a w := by
  subst hk
  obtain ⟨i, hi, hz, hsize, hby⟩ := info_parts hinf
  have key : ∃ v' w', (Builtin.append_ #[t, t] o.type #[v, .slice A m.length c]).run P w = .ok v' w' ∧ OwnB w' B e v' (l ++ m) ∧ w.grownBy w' v.ownBlock := by
    rcases A with _ | ad
    · have hm : m = [] := by
        rcases m with _ | ⟨y, r⟩
        · rfl
        · obtain ⟨ad, he, _⟩ := hrb 0 (by simp)
          cases he
      subst hm
      refine ⟨v, w, ?_, by simpa using hown, World.grownBy.refl w _⟩
      rcases hown with ⟨rfl, rfl⟩ | ⟨g, cap, cur, fz, rfl, _, _, hnc, _⟩
      · simp [Builtin.append_, run_underlying ht, sizeOf, typeInfo, hi, Builtin.lenOf, Builtin.firstCells]
      · simp [Builtin.append_, run_underlying ht, sizeOf, typeInfo, hi, Builtin.lenOf, Builtin.firstCells, hnc, storeCells]
    · have hld := run_loadCells_list (P := P) w ad (m.map bv) (hrb.rv.cells rfl)
      rw [List.length_map] at hld
      refine run_appB (P := P) (t := t) (u := t) (ty := o.type) (x := .slice (some ad) m.length c) (m := m) ht hi hz hsize hby hown hB ?_ ?_ ?_ (by unfold maxLen; omega)
      · intro g cap cur fz hg hfz hroom hcs
        have hst := run_storeCells_m P g l.length e fz (m.map bv) 0 cur w hg hfz (by simp; omega) (bytes_oneCell m)
        simp only [Nat.add_zero, List.length_map] at hst
        simp [Builtin.append_, run_underlying ht, sizeOf, typeInfo, hi, hsize, Builtin.lenOf, Builtin.firstCells, hroom, hld, Addr.add_lit, hst]
      · intro g cap hr hc
        exact run_append_grow (P := P) w t o.type e i (.int .u8 0) ht hi hz ⟨g, 0, none⟩ l.length cap (l.map bv) (by rw [hsize]; simp) hc ad m.length c (m.map bv) (by rw [hsize]; simp) (hrb.rv.cells rfl) (by omega) (by omega) (by rw [hby]; exact growslice_fits (by omega) (by omega))
      · intro he
        subst he
        obtain ⟨v', w', h1, h2, h3, _, _⟩ := run_append_own_at (P := P) w B t o.type e i (.int .u8 0) 1 1 ht hi hz hsize hby rfl (by decide) (.slice none 0 0) 0 [] (World.ownsRow_nil _ _ _ _) ad m.length c (m.map bv) (by simp) (hrb.rv.cells rfl) (bytes_oneCell m) (by unfold maxLen; simp at hn; omega) (by simp at hn; omega) hB
        exact ⟨v', w', h1, OwnB.of_own (by simpa using h2), h3⟩
  obtain ⟨v', w', hr, h2, h3⟩ := key
  refine wpList_plain hgd fun K hK => ?_
  unfold Oper.wp execOp
  simp only [ho, resolve, invoke, builtin, Sem.run_bind, Sem.run_pure, Result.andThen_ok, List.map_toArray, List.map_cons, List.map_nil, hs, hx, hr]
  exact hK _ _ (h v' w' h2 h3)
end
/-- what an append onto the call's own bytes leaves -/
theorem OwnB.below {w0 w w' : World} {B : Nat} {e : TypeId} {v : Value} {l : List UInt8} (h : OwnB w B e v l) (hb : Below B w0 w) (hg : w.grownBy w' v.ownBlock) (hB : B ≤ w.heap.size) : Below B w0 w' :=
  hb.grown hg hB fun k hk => by
    rcases h with ⟨rfl, _⟩ | ⟨g, cap, cur, fz, rfl, hb', _⟩
    · cases hk
    · simp [Value.ownBlock] at hk; omega
end Go.Proofs.YtojemdggbcklkaaDoor.Mem
