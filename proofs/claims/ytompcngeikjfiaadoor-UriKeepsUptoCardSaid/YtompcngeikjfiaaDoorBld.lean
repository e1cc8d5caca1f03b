/- strings.Builder: copyCheck, WriteByte, WriteString, walked; String off the kit's shelf. -/
import Derived.Test.YtompcngeikjfiaaDoorUri2
import Derived.Lib.Builder
import Derived.Shelf.Strings.Builder1
namespace Go.Proofs.YtompcngeikjfiaaDoor.Uri
open Go.RowKit Go.Proofs.YtompcngeikjfiaaDoor.Mem Go.Proofs.YtompcngeikjfiaaDoor.Seal
set_option linter.unusedVariables false

abbrev BT : TypeId := 58
def Bld (w : World) (B b : Nat) (l : List UInt8) : Prop := Lib.IsBuilder BT 5 B b (l.map bv) w
theorem Bld.blk {w : World} {B b : Nat} {l : List UInt8} (h : Bld w B b l) : ∃ p v, (p = .pointer none ∨ p = .pointer (some ⟨b, 0, none⟩)) ∧ B ≤ b ∧ Blk w b BT [p, v] ∧ w.ownsRow B 5 1 v l.length (l.map bv) ∧ v.ownBlock ≠ some b := by
  rcases h with ⟨h1, v, h2, h3, h4⟩ | ⟨h1, v, h2, h3, h4⟩
  · exact ⟨_, v, .inl rfl, h1, h2, by rw [List.length_map] at h3; exact h3, h4⟩
  · exact ⟨_, v, .inr rfl, h1, h2, by rw [List.length_map] at h3; exact h3, h4⟩
theorem Bld.of {w : World} {B b : Nat} {l : List UInt8} {v : Value} (h1 : B ≤ b) (h2 : Blk w b BT [.pointer (some ⟨b, 0, none⟩), v]) (h3 : w.ownsRow B 5 1 v l.length (l.map bv)) (h4 : v.ownBlock ≠ some b) : Bld w B b l :=
  .inr ⟨h1, v, h2, by rw [List.length_map]; exact h3, h4⟩

theorem szB : (Tryd.prog.info? BT).map (·.size) = some 2 := by kernel_rfl
theorem liesB : liesAt Tryd.prog Tryd.prog.depth BT (2 / Tryd.prog.cellsOf BT) 0 BT 1 = true := by kernel_rfl
theorem infoB : (Tryd.prog.info? 5).map (fun i => (i.zero, i.size, i.bytes)) = some (some (.int .u8 0), 1, 1) := by kernel_rfl

set_option maxHeartbeats 1000000 in
theorem copyCheck_any (B b : Nat) (bs : List Value) (w : World) (h : Lib.IsBuilder BT 5 B b bs w) :
    Calls Tryd.prog 39 #[.pointer (some ⟨b, 0, none⟩)] w fun e w' => e = .returned (.tuple #[]) ∧ Lib.BuilderAt BT 5 B b (.pointer (some ⟨b, 0, none⟩)) bs w' ∧ Below B w w' ∧ ∀ (g : Nat) (T : TypeId) (cs : List Value), Blk w g T cs → T ≠ 5 → g ≠ b → Blk w' g T cs := by
  obtain ⟨j, hj, hjs⟩ := Option.map_eq_some_iff.1 szB
  rcases h with h | h
  · have h0 := h.cell0
    have hsh := h.shape
    have hfz := h.frozen0
    have HH := Lib.hid h
    clear h
    go_enter Tryd.func39, Tryd.ntmps39
    go_wp2
    rw [Lib.run_to_unsafe w ⟨b, 0, none⟩ Tryd.underlying56 Tryd.underlying75 hj (by rw [hjs]; decide) hsh (Nat.zero_lt_succ 1)]
    simp only [Result.andThen]
    rw [Oper.upon_value]
    go_wp2
    rw [run_callFunc_extern Tryd.func42 (by kernel_rfl) (by kernel_rfl) (by kernel_rfl) (e := Extern.AbiNoEscape.same) (by kernel_rfl)]
    rw [Lib.run_noEscape]
    simp only [Result.andThen]
    rw [Oper.upon_value]
    go_wp2
    rw [Lib.run_from_unsafe w ⟨b, 0, none⟩ Tryd.underlying75 Tryd.underlying56 hj hsh liesB]
    simp only [Result.andThen]
    rw [Oper.upon_value]
    go_wp2
    go_end0
    exact ⟨rfl, HH.out.used _, (Below.refl B w).setCell (p := ⟨b, 0, none⟩) HH.out.1 _, fun g T cs hg _ hne => hg.far (p := ⟨b, 0, none⟩) hne _⟩
  · have h0 := h.cell0
    have HH := Lib.hid h
    clear h
    go_enter Tryd.func39, Tryd.ntmps39
    go_wp2
    rw [Lib.run_neq_ptr_same w _ Tryd.underlying56 hj]
    go_wp2
    go_end0
    exact ⟨rfl, HH.out, Below.refl B _, fun g T cs hg _ _ => hg⟩

theorem own_other {w : World} {B n g : Nat} {v : Value} {xs cs : List Value} {T : TypeId} (h : w.ownsRow B 5 1 v n xs) (hg : Blk w g T cs) (hT : T ≠ 5) : some g ≠ v.ownBlock := fun e => by
  rcases h.2 with ⟨rfl, _⟩ | ⟨g', cap, cur, rfl, _, h2, _⟩
  · simp [Value.ownBlock] at e
  · have : g = g' := by simpa [Value.ownBlock] using e
    subst this
    unfold Blk at hg
    rw [h2] at hg
    injection hg with hg
    injection hg with _ hg _
    exact hT hg.symm
set_option maxHeartbeats 2000000 in
theorem writeByte_k (B b : Nat) (l : List UInt8) (c : UInt8) (w : World) (h : Bld w B b l) (hlen : l.length + 1 ≤ 140737488355328) (hBw : B ≤ w.heap.size) :
    Calls Tryd.prog 32 #[.pointer (some ⟨b, 0, none⟩), .int .u8 (c.toNat : Int)] w fun e w' => e = .returned .nilIface ∧ Bld w' B b (l ++ [c]) ∧ Below B w w' ∧ ∀ (g : Nat) (T : TypeId) (cs : List Value), Blk w g T cs → T ≠ 5 → g ≠ b → Blk w' g T cs := by
  obtain ⟨i0, hi, hz0, hz1, hz2⟩ := info_parts infoB
  unfold Bld at *
  obtain ⟨bs, hbs⟩ : ∃ x, x = l.map bv := ⟨_, rfl⟩
  obtain ⟨cv, hcv⟩ : ∃ x, x = (c.toNat : Int) := ⟨_, rfl⟩
  have hl2 : bs.length + 1 ≤ 140737488355328 := by rw [hbs, List.length_map]; exact hlen
  have HE := Lib.hid (show (l ++ [c]).map bv = bs ++ [.int .u8 cv] by rw [hbs, hcv, List.map_append]; rfl)
  rw [HE.out, ← hcv]
  rw [← hbs] at h
  clear hbs hcv hlen HE
  go_enter Tryd.func32, Tryd.ntmps32
  go_wp2_with (go_at_call 39; refine (copyCheck_any B b bs _ h).mono ?_)
  rintro e w1 ⟨rfl, h1, hb1, hk1⟩
  obtain ⟨hB, v, hbk, hown, hne⟩ := h1
  have c0 : w1.cell? ⟨b, 0, none⟩ = some (.pointer (some ⟨b, 0, none⟩)) := by rw [Lib.cell_of_heap hbk]; rfl
  have c1 : w1.cell? ⟨b, 1, none⟩ = some v := by rw [Lib.cell_of_heap hbk]; rfl
  go_wp2_with (at_builtin; refine wpList_append_own _ rfl _ _ 53 rfl B 5 i0 (.int .u8 0) 1 1 Tryd.underlying53 hi hz0 hz1 hz2 rfl (by decide) _ _ _ rfl (hown.alloc _) ⟨w1.heap.size, 0, none⟩ 1 1 [.int .u8 cv] rfl rfl ?c1 ?c2 ?c3 ?c4 ?c5 ?_)
  case c1 =>
    intro j u hj
    match j, hj with
    | 0, hj => simp at hj; subst hj; simp [Addr.add]
  case c2 => intro u hu; simp at hu; subst hu; rfl
  case c3 => unfold maxLen; omega
  case c4 => omega
  case c5 => have := hb1.size; simp; omega
  intro v' w2 hown' hgrow _
  have hlt : b < w1.heap.size := by
    rcases Nat.lt_or_ge b w1.heap.size with h' | h'
    · exact h'
    · simp [Array.getElem?_eq_none h'] at hbk
  have hb2 : w2.heap[b]? = some (.cells #[.pointer (some ⟨b, 0, none⟩), v] BT (0, 0)) := by
    rw [hgrow.block b (by simp; omega) (fun e => hne e.symm), Lib.alloc_old w1 _ b hlt]
    exact hbk
  have d0 : w2.cell? ⟨b, 0, none⟩ = some (.pointer (some ⟨b, 0, none⟩)) := by rw [Lib.cell_of_heap hb2]; rfl
  have d1 : w2.cell? ⟨b, 1, none⟩ = some v := by rw [Lib.cell_of_heap hb2]; rfl
  have f1 : w2.frozen? ⟨b, 1, none⟩ = false := Lib.frozen_of_heap hb2 1
  obtain ⟨g, cap, rfl⟩ : ∃ g cap, v' = .slice (some ⟨g, 0, none⟩) (bs.length + 1) cap := by
    rcases hown'.2 with ⟨_, h0⟩ | ⟨g, cap, cur, hv, _⟩
    · omega
    · exact ⟨g, cap, hv⟩
  go_wp2
  go_ret
  refine ⟨rfl, .inr ?_, ?_, fun g T cs hg hT hne' => ?_⟩
  · exact Lib.BuilderAt.put (T := BT) (e := 5) hB hb2 (bs' := bs ++ [.int .u8 cv]) (by simpa using hown') (by decide)
  · exact ((hb1.alloc (by have := hb1.size; omega) _).grown hgrow (by have := hb1.size; simp; omega) (fun k hk => (hown.lt k hk).1)).setCell (p := ⟨b, 1, none⟩) hB _
  · have h1 := hk1 g T cs hg hT hne'
    exact (((h1.alloc _).grown hgrow (own_other hown h1 hT)).far (p := ⟨b, 1, none⟩) hne' _)

theorem strCells_eq (m : List UInt8) : Lib.strCells ⟨m.toArray⟩ = m.map bv := by
  unfold Lib.strCells
  rfl
set_option maxHeartbeats 2000000 in
theorem writeString_k (B b : Nat) (l m : List UInt8) (w : World) (h : Bld w B b l) (hlen : l.length + m.length ≤ 140737488355328) (hBw : B ≤ w.heap.size) :
    Calls Tryd.prog 38 #[.pointer (some ⟨b, 0, none⟩), .string ⟨m.toArray⟩] w fun e w' => e = .returned (.tuple #[.int .i64 m.length, .nilIface]) ∧ Bld w' B b (l ++ m) ∧ Below B w w' ∧ ∀ (g : Nat) (T : TypeId) (cs : List Value), Blk w g T cs → T ≠ 5 → g ≠ b → Blk w' g T cs := by
  obtain ⟨i0, hi, hz0, hz1, hz2⟩ := info_parts infoB
  unfold Bld at *
  obtain ⟨bs, hbs⟩ : ∃ x, x = l.map bv := ⟨_, rfl⟩
  obtain ⟨s, hs⟩ : ∃ x, x = (⟨m.toArray⟩ : ByteArray) := ⟨_, rfl⟩
  have hsz : m.length = s.size := by rw [hs]; simp [ByteArray.size]
  have hl2 : bs.length + s.size ≤ 140737488355328 := by rw [hbs, List.length_map, ← hsz]; exact hlen
  have HE := Lib.hid (show (l ++ m).map bv = bs ++ Lib.strCells s by rw [hbs, hs, strCells_eq, List.map_append])
  rw [HE.out, ← hs, hsz]
  rw [← hbs] at h
  clear hbs hs hlen HE hsz
  go_enter Tryd.func38, Tryd.ntmps38
  go_wp2_with (go_at_call 39; refine (copyCheck_any B b bs _ h).mono ?_)
  rintro e w1 ⟨rfl, h1, hb1, hk1⟩
  obtain ⟨hB, v, hbk, hown, hne⟩ := h1
  have c0 : w1.cell? ⟨b, 0, none⟩ = some (.pointer (some ⟨b, 0, none⟩)) := by rw [Lib.cell_of_heap hbk]; rfl
  have c1 : w1.cell? ⟨b, 1, none⟩ = some v := by rw [Lib.cell_of_heap hbk]; rfl
  go_wp2_with (at_builtin; refine Lib.wpList_append_own_string _ rfl _ _ 53 9 rfl B 5 i0 Tryd.underlying53 Tryd.underlying9 hi hz0 hz1 hz2 _ _ _ rfl hown s rfl ?c3 ?c4 ?c5 ?_)
  case c3 => unfold maxLen; omega
  case c4 => omega
  case c5 => have := hb1.size; omega
  intro v' w2 hown' hgrow _
  have hlt : b < w1.heap.size := by
    rcases Nat.lt_or_ge b w1.heap.size with h' | h'
    · exact h'
    · simp [Array.getElem?_eq_none h'] at hbk
  have hb2 : w2.heap[b]? = some (.cells #[.pointer (some ⟨b, 0, none⟩), v] BT (0, 0)) := by
    rw [hgrow.block b hlt (fun e => hne e.symm)]
    exact hbk
  have d0 : w2.cell? ⟨b, 0, none⟩ = some (.pointer (some ⟨b, 0, none⟩)) := by rw [Lib.cell_of_heap hb2]; rfl
  have d1 : w2.cell? ⟨b, 1, none⟩ = some v := by rw [Lib.cell_of_heap hb2]; rfl
  have f1 : w2.frozen? ⟨b, 1, none⟩ = false := Lib.frozen_of_heap hb2 1
  obtain ⟨ao, n', cap, rfl⟩ : ∃ ao n' cap, v' = .slice ao n' cap := by
    rcases hown'.2 with ⟨hv, _⟩ | ⟨g, cap, cur, hv, _⟩
    · exact ⟨_, _, _, hv⟩
    · exact ⟨_, _, _, hv⟩
  go_wp2
  go_ret2
  refine ⟨rfl, .inr ?_, ?_, fun g T cs hg hT hne' => ?_⟩
  · exact Lib.BuilderAt.put (T := BT) (e := 5) hB hb2 (bs' := bs ++ Lib.strCells s) (by simpa [Lib.strCells_length] using hown') (by decide)
  · exact (hb1.grown hgrow (by have := hb1.size; omega) (fun k hk => (hown.lt k hk).1)).setCell (p := ⟨b, 1, none⟩) hB _
  · have h1 := hk1 g T cs hg hT hne'
    exact ((h1.grown hgrow (own_other hown h1 hT)).far (p := ⟨b, 1, none⟩) hne' _)

theorem writeByte_any (B b : Nat) (l : List UInt8) (c : UInt8) (w : World) (h : Bld w B b l) (hlen : l.length + 1 ≤ 140737488355328) (hBw : B ≤ w.heap.size) :
    Calls Tryd.prog 32 #[.pointer (some ⟨b, 0, none⟩), .int .u8 (c.toNat : Int)] w fun e w' => e = .returned .nilIface ∧ Bld w' B b (l ++ [c]) ∧ Below B w w' :=
  (writeByte_k B b l c w h hlen hBw).mono fun _ _ h => ⟨h.1, h.2.1, h.2.2.1⟩
theorem writeString_any (B b : Nat) (l m : List UInt8) (w : World) (h : Bld w B b l) (hlen : l.length + m.length ≤ 140737488355328) (hBw : B ≤ w.heap.size) :
    Calls Tryd.prog 38 #[.pointer (some ⟨b, 0, none⟩), .string ⟨m.toArray⟩] w fun e w' => e = .returned (.tuple #[.int .i64 m.length, .nilIface]) ∧ Bld w' B b (l ++ m) ∧ Below B w w' :=
  (writeString_k B b l m w h hlen hBw).mono fun _ _ h => ⟨h.1, h.2.1, h.2.2.1⟩
end Go.Proofs.YtompcngeikjfiaaDoor.Uri
