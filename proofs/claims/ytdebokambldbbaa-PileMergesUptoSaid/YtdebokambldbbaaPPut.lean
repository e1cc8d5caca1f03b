/- weirlaw07.put: a list in new memory, with marked room behind it. -/
import Derived.Test.YtdebokambldbbaaPBest
import Derived.Test.YtdebokambldbbaaRgF
import Derived.Test.YtdebokambldbbaaLaws
import Derived.Test.YtdebokambldbbaaPlBstI
import Derived.Test.YtdebokambldbbaaBuildN

/- weirlaw07.whole: true where a list and the marked room behind it are as they were put. -/
namespace Go.Proofs.Ytdebokambldbbaa.LawP
open Go.RowKit Go.Shelf Go.Proofs.Ytdebokambldbbaa.Mem Go.Proofs.Ytdebokambldbbaa.Heap Go.Proofs.Ytdebokambldbbaa.Pile Go.Proofs.Ytdebokambldbbaa.PileI
set_option linter.unusedVariables false
set_option linter.unusedSectionVars false
set_option linter.unusedSimpArgs false
set_option maxRecDepth 8000
set_option maxHeartbeats 6400000

theorem cut_items_from {ρ : Operand → Value} {w : World} {o : Oper} {x y : Operand} {ad : Addr} {n c m : Nat} {mi : Int} (ho : o.op = .slice 32 x (some y) none none) (hx : ρ x = .slice (some ad) n c) (hy : ρ y = .int .i64 mi) (he : mi = m) (hm : m ≤ n) (hc : m < c) :
    (execOp ρ o).run Try.prog w = .ok (.value (.slice (some (ad.add (m * 2))) (n - m) (c - m))) w := by
  subst he
  have h := run_slice_l (P := Try.prog) (w := w) 32 (some ad) n c (by rfl) .i64 (m : Int) (by omega) (by omega)
  have hs : (sizeOf (Try.prog.elem 32)).run Try.prog w = .ok 2 w := by rfl
  rw [hs] at h
  have e : sliced (some ad) (m : Int).toNat n c 2 = .slice (some (ad.add (m * 2))) (n - m) (c - m) := by
    unfold sliced
    simp
    omega
  simp only [Result.andThen, e] at h
  simp [execOp, ho, hx, hy, run_sliceAt_slice, h, Result.andThen, (show Try.prog.underlying 32 = some (.slice (Try.prog.elem 32)) from rfl)]
abbrev mark : Itm := (-7, -7)
/-- what put lays -/
def laid (l : List Itm) : List Itm := l ++ List.replicate 40 mark
theorem laid_len (l : List Itm) : (laid l).length = l.length + 40 := by unfold laid; simp
theorem laid_take (l : List Itm) : (laid l).take l.length = l := by unfold laid; simp
theorem laid_drop (l : List Itm) : (laid l).drop l.length = List.replicate 40 mark := by unfold laid; simp
theorem whole_any (ad : Addr) (A : Option Addr) (n N c cF : Nat) (l : List Itm) (W : World) (hF : RV W (some ad) ((laid l).flatMap Itm.cells)) (hr : RV W A (l.flatMap Itm.cells)) (hn : n = l.length) (hN : N = n + 40) (hc : N ≤ cF) (hl : l.length ≤ 1073741824) :
    Calls Try.prog 34 #[.slice (some ad) N cF, .slice A n c] W fun e W' => e = .returned (.bool true) ∧ Below W.heap.size W W' := by
  subst hN
  have hnb : n ≤ 1073741824 := by omega
  have cS : ∀ w, Below W.heap.size W w → Calls Try.prog 32 #[.slice (some ad) n cF, .slice A n c] w fun e W' => e = .returned (.bool true) ∧ Below w.heap.size w W' := fun w hb =>
    same_items (some ad) A n cF c l w (by have := rv_items_to (hF.below hb) l.length; rwa [laid_take] at this) (hr.below hb) hn (by omega)
  obtain ⟨adn, hadn⟩ : ∃ adn, adn = ad.add (n * 2) := ⟨_, rfl⟩
  have rM : RV W (some adn) ((List.replicate 40 mark).flatMap Itm.cells) := by
    rw [hadn, hn, ← laid_drop]; exact rv_drop hF _
  have H0 := Lib.hid (And.intro cS (And.intro rM hadn))
  have HC := Lib.hid hc
  clear cS rM hadn hF hr hn hl hc
  go_enter Try.func34, Try.ntmps34
  go_wp2_with (first
    | ((with_reducible show wpList _ _ _ (⟨some 10, _, _, _, _, _⟩ :: _) _ _)
       go_must (refine wpList_is (o := ⟨some 10, _, _, _, _, _⟩) rfl (cut_items (x := .tmp 7) (y := .tmp 9) rfl rfl rfl rfl (by have := HC.out; omega)) ?_))
    | (go_at_call 32
       go_must (refine (H0.out.1 W (gr W)).mono ?_)
       rintro e w1 ⟨rfl, hb1⟩)
    | ((with_reducible show wpList _ _ _ (⟨some 17, _, _, _, _, _⟩ :: _) _ _)
       go_must (refine wpList_is (o := ⟨some 17, _, _, _, _, _⟩) rfl (by rw [H0.out.2.2]; exact cut_items_from (x := .tmp 14) (y := .tmp 16) rfl rfl rfl rfl (by omega) (by have := HC.out; omega)) (v := .slice (some adn) (n + 40 - n) (cF - n)) ?_)
       rw [show n + 40 - n = 40 by omega]))
  have B1 := Lib.hid hb1
  clear hb1
  go_loopw [19] (fun v19 wr => ∃ k : Nat, k ≤ 40 ∧ v19 = .int .i64 k ∧ Below w1.heap.size w1 wr) (fun v _ => 40 - (intOf v).toNat)
  case atStart => exact ⟨0, Nat.zero_le _, rfl, gr w1⟩
  case round =>
    obtain ⟨k, hk, rfl, hb⟩ := hrel
    by_cases hlt : k < 40
    · obtain ⟨ad', e', d1, d2⟩ := item_gen (H0.out.2.1.below (gt B1.out hb)) (k := k) (by rw [List.length_replicate]; exact hlt)
      injection e' with e'
      subst e'
      rw [List.getElem_replicate] at d1 d2
      simp only [mark] at d1 d2
      have hki : (k : Int) < 40 := by omega
      have hk0 : (0 : Int) ≤ (k : Int) := by omega
      have Q := Lib.hid (And.intro hlt hb)
      clear hk hb
      go_wp2
      refine wp_region_qb (by kernel_rfl) (by kernel_rfl) ?_
      refine wq_val (o := ⟨some 23, _, _, _, _, _⟩) (v := .agg #[.int .i64 (-7), .int .i64 (-7)]) rfl (fun w' hC => by
        have b := (Blk.new wr 35 [.int .i64 (-7), .int .i64 (-7)]).grow hC
        have q1 := b.cell 0
        have q2 := b.cell 1
        simp only [List.getElem?_cons_zero, List.getElem?_cons_succ] at q1 q2
        go_simp) ?_
      simp only [Act.put, List.setIfInBounds_toArray, List.set_cons_succ, List.set_cons_zero]
      refine wq_call (f := 15) (args := #[.int .i64 (-7), .int .i64 (-7)]) (v := Itm.val (-7, -7)) rfl (fun w' _ => by go_simp) (fun w' hC => ?_) ?_
      · exact it_any (-7) (-7) w'
      simp only [Act.put, List.setIfInBounds_toArray, List.set_cons_succ, List.set_cons_zero, Itm.val]
      refine wq_val (o := ⟨some 25, _, _, _, _, _⟩) (v := .bool false) rfl (fun w' hC => by go_simp) ?_
      simp only [Act.put, List.setIfInBounds_toArray, List.set_cons_succ, List.set_cons_zero]
      refine wpQuiet_nil ?_
      intro w5 hC5
      have hb5 : Below w1.heap.size w1 w5 := gt (ga Q.out.2 _) hC5
      have Z := Lib.hid (And.intro Q.out.1 hb5)
      clear Q hC5 hb5
      go_wp2
      go_roundw
      case rel => exact ⟨k + 1, Z.out.1, by go_num, Z.out.2⟩
      case measure => exact meas_in Z.out.1
    · have X := Lib.hid (gt B1.out hb)
      obtain rfl : k = 40 := by omega
      clear hb hk hlt
      go_wp2
      go_ret
      exact ⟨rfl, X.out⟩
end Go.Proofs.Ytdebokambldbbaa.LawP

/- copy of elements of many cells into a block that is known whole, from its beginning. Plain theorem over any program. -/
namespace Go.Proofs.Ytdebokambldbbaa.Mem
open Go.RowKit
theorem wpList_copyM {P : Program} {t e : TypeId} {zs : List Value} {by_ : Nat} (E : Elt P t e zs by_) {w : World} {ops : Array Oper} {rest : List Oper} {o : Oper} {a : Act} {Q : Exit → Act → World → Prop} (hgd : o.guard = none)
    (d s : Operand) (ho : o.op = .call { callee := .builtin .copy, args := #[d, s], argTypes := #[t, t] })
    (g dLen dCap : Nat) (A : Option Addr) (sLen sCap : Nat) (hd : a.eval d = .slice (some ⟨g, 0, none⟩) dLen dCap) (hs : a.eval s = .slice A sLen sCap)
    (T : TypeId) (cur : List Value) (hB : Blk w g T cur) (xs : List Value) (hlen : xs.length = sLen * zs.length) (hle : sLen ≤ dLen) (hr : RV w A xs) (hfit : xs.length ≤ cur.length) (h1 : ∀ u ∈ xs, u.oneCell' = true)
    (h : ∀ w', Blk w' g T (xs ++ cur.drop xs.length) → w'.heap.size = w.heap.size → w.grownBy w' (some g) → wpList P ops Q rest (a.put o.dst (.int .i64 (sLen : Nat))) w') :
    wpList P ops Q (o :: rest) a w := by
  obtain ⟨i, z', hi, hz, hsz, hby, hcs⟩ := E.inf
  refine wpList_plain hgd fun K hK => ?_
  have hmin : min sLen dLen = sLen := Nat.min_eq_left hle
  have hrun : (Builtin.copy_ #[t, t] o.type #[.slice (some ⟨g, 0, none⟩) dLen dCap, .slice A sLen sCap]).run P w = .ok (goInt sLen) (w.setRow g (xs ++ cur.drop xs.length).toArray) := by
    have hst := run_storeCells_at P g 0 T xs 0 cur.toArray w hB (by simpa using hfit) h1
    rcases A with _ | ad
    · have hx : xs = [] := by
        rcases xs with _ | ⟨u, r⟩
        · rfl
        · obtain ⟨ad, he, _⟩ := hr 0 (by simp)
          cases he
      subst hx
      have h0 : sLen = 0 := by
        rcases Nat.eq_zero_or_pos sLen with h0 | h0
        · exact h0
        · have := Nat.mul_pos h0 E.pos; simp at hlen; omega
      subst h0
      have hself := setRow_self w g cur.toArray T (0, 0) hB
      simp [Builtin.copy_, run_underlying E.und, Builtin.lenOf, Builtin.firstCells, sizeOf, typeInfo, hi, storeCells, hself]
    · have hl := run_loadCells_list (P := P) w ad xs (hr.cells rfl)
      simp only [Nat.add_zero, Nat.zero_add, List.take_zero, List.nil_append, List.toList_toArray] at hst
      simp [Builtin.copy_, run_underlying E.und, Builtin.lenOf, Builtin.firstCells, sizeOf, typeInfo, hi, hsz, hmin, ← hlen, hl, hst]
  unfold Oper.wp
  simp [execOp, ho, resolve, invoke, builtin, hd, hs, hrun, Result.andThen]
  refine hK _ _ (h _ ?_ (by simp) ⟨rfl, rfl, rfl, by simp, fun k hk hne => setRow_other w g k _ (fun e => hne (by rw [e]))⟩)
  exact setRow_heap w g _ _ T (0, 0) hB
end Go.Proofs.Ytdebokambldbbaa.Mem
namespace Go.Proofs.Ytdebokambldbbaa.LawP
open Go.RowKit Go.Shelf Go.Proofs.Ytdebokambldbbaa.Mem Go.Proofs.Ytdebokambldbbaa.Heap Go.Proofs.Ytdebokambldbbaa.Pile Go.Proofs.Ytdebokambldbbaa.PileI
set_option linter.unusedVariables false
set_option linter.unusedSectionVars false
set_option linter.unusedSimpArgs false
set_option maxRecDepth 8000
set_option maxHeartbeats 6400000

def zer : Itm := (0, 0)
/-- the room while k marks are laid -/
def lay (l : List Itm) (k : Nat) : List Value := l.flatMap Itm.cells ++ ((List.replicate k mark).flatMap Itm.cells ++ (List.replicate (40 - k) zer).flatMap Itm.cells)
theorem repf_len (n : Nat) (x : Itm) : ((List.replicate n x).flatMap Itm.cells).length = n * 2 := by rw [fl_len, List.length_replicate]
theorem lay_len (l : List Itm) {k : Nat} (h : k ≤ 40) : (lay l k).length = (l.length + 40) * 2 := by
  unfold lay
  rw [List.length_append, List.length_append, repf_len, repf_len, fl_len]
  omega
theorem lay_done (l : List Itm) : lay l 40 = (laid l).flatMap Itm.cells := by
  unfold lay laid
  rw [List.flatMap_append]
  simp
theorem splice_mid {α : Type} (X R zc Z mc : List α) (h : zc.length = mc.length) {m : Nat} (hm : m = X.length + R.length) : splice (X ++ (R ++ (zc ++ Z))) m mc = X ++ ((R ++ mc) ++ Z) := by
  unfold splice
  rw [← List.append_assoc X R, List.take_left' (by rw [List.length_append, hm]), ← List.append_assoc (X ++ R) zc Z, List.drop_left' (by rw [List.length_append, List.length_append, hm, h])]
  simp
theorem lay_step (l : List Itm) {k : Nat} (h : k < 40) : splice (lay l k) ((l.length + k) * 2) (Itm.cells mark) = lay l (k + 1) := by
  have e1 : (List.replicate (40 - k) zer) = zer :: List.replicate (40 - (k + 1)) zer := by rw [← List.replicate_succ]; congr 1; omega
  have e2 : List.replicate (k + 1) mark = List.replicate k mark ++ [mark] := List.replicate_succ'
  unfold lay
  rw [e1, e2, List.flatMap_cons, List.flatMap_append, splice_mid _ _ (Itm.cells zer) _ (Itm.cells mark) rfl (by rw [repf_len, fl_len]; omega)]
  rfl
theorem zero_cells (m : Nat) : ((List.replicate m [Value.int .i64 0, Value.int .i64 0]).flatten) = (List.replicate m zer).flatMap Itm.cells := by
  rw [List.flatMap_def, List.map_replicate]; rfl
theorem put_any (A : Option Addr) (n c : Nat) (l : List Itm) (W : World) (hr : RV W A (l.flatMap Itm.cells)) (hn : n = l.length) (hl : l.length ≤ 1073741824) :
    Calls Try.prog 30 #[.slice A n c] W fun e W' => e = .returned (.tuple #[.slice (some ⟨W.heap.size, 0, none⟩) n (n + 40), .slice (some ⟨W.heap.size, 0, none⟩) (n + 40) (n + 40)]) ∧ Blk W' W.heap.size 35 ((laid l).flatMap Itm.cells) ∧ Below W.heap.size W W' := by
  have hnb : n ≤ 1073741824 := by omega
  obtain ⟨H, hH⟩ : ∃ H, H = W.heap.size := ⟨_, rfl⟩
  rw [← hH]
  have H0 := Lib.hid (And.intro hr (And.intro hn hH))
  clear hr hn hl hH
  go_enter Try.func30, Try.ntmps30
  go_wp2_with (first
    | ((with_reducible show wpList _ _ _ (⟨some 8, _, _, _, _, _⟩ :: _) _ _)
       go_must (refine wpList_makeM ET (o := ⟨some 8, _, _, _, _, _⟩) rfl _ _ rfl .i64 .i64 _ _ (n + 40) (n + 40) rfl rfl (by go_simp) (by go_simp) (Nat.le_refl _) (by omega) (by unfold maxLen; omega) H H0.out.2.2.symm ?_)
       intro w1 hB1 hb1 hz1)
    | ((with_reducible show wpList _ _ _ (⟨some 11, _, _, _, _, _⟩ :: _) _ _)
       go_must (refine wpList_copyM ET (o := ⟨some 11, _, _, _, _, _⟩) rfl (.tmp 9) (.tmp 10) rfl H (n + 40) (n + 40) A n c rfl rfl 35 _ hB1 (l.flatMap Itm.cells) (by rw [fl_len, H0.out.2.1]; rfl) (by omega) (H0.out.1.below (by rw [← H0.out.2.2]; exact hb1)) (by rw [zero_cells, fl_len, repf_len, ← H0.out.2.1]; omega) fl_one ?_)
       intro w2 hB2 hz2 hg2))
  have hB3 : Blk w2 H 35 (lay l 0) := by
    have h := hB2
    rw [zero_cells, fl_len, ← H0.out.2.1] at h
    unfold lay
    rw [show (List.replicate (n + 40) zer).flatMap Itm.cells = (List.replicate n zer).flatMap Itm.cells ++ (List.replicate (40 - 0) zer).flatMap Itm.cells by rw [← List.flatMap_append, List.replicate_append_replicate], List.drop_left' (repf_len n zer)] at h
    simpa using h
  have hb2 : Below H W w2 := hb1.grown hg2 (by omega) (fun k hk => by cases hk; exact Nat.le_refl _)
  have X := Lib.hid (And.intro hB3 hb2)
  clear hB1 hb1 hz1 hB2 hz2 hg2 hB3 hb2
  go_loopw [4] (fun v4 wr => ∃ k : Nat, k ≤ 40 ∧ v4 = .int .i64 ((n + k : Nat) : Int) ∧ Blk wr H 35 (lay l k) ∧ Below H W wr) (fun v _ => n + 40 - (intOf v).toNat)
  case atStart => exact ⟨0, Nat.zero_le _, by go_num, X.out.1, X.out.2⟩
  case round =>
    clear X
    obtain ⟨k, hk, rfl, hB, hb⟩ := hrel
    by_cases hlt : k < 40
    · have hki : ((n + k : Nat) : Int) < ((n + 40 : Nat) : Int) := by omega
      have hk0 : (0 : Int) ≤ ((n + k : Nat) : Int) := by omega
      obtain ⟨m, hm⟩ : ∃ m, m = n + k := ⟨_, rfl⟩
      rw [← hm] at hki hk0 ⊢
      have Q := Lib.hid (And.intro hB (And.intro hb (And.intro hlt hm)))
      clear hB hb hlt hk hm
      go_wp2_with (first
        | (go_at_call 15; go_must (refine (it_any (-7) (-7) _).mono ?_); rintro e w3 ⟨rfl, hb3⟩; unfold Itm.val)
        | ((with_reducible show wpList _ _ _ (⟨none, .store 35 (.tmp 23) _, _, _, _, _⟩ :: _) _ _)
           go_must (refine wpList_storeAtT (th := thI) (o := ⟨none, .store 35 (.tmp 23) _, _, _, _, _⟩) rfl (.tmp 23) (.tmp 22) rfl H (m * 2) (by go_simp) mark (by go_simp; rfl) _ _ (Q.out.1.grow hb3) (by rw [lay_len l (by have := Q.out; omega), ← H0.out.2.1]; have := Q.out; omega) ?_)
           intro w4 hB4 hg4 hz4))
      have hB5 : Blk w4 H 35 (lay l (k + 1)) := by
        have h := hB4
        rw [Q.out.2.2.2, H0.out.2.1] at h
        rw [← lay_step l Q.out.2.2.1]
        exact h
      have hb5 : Below H W w4 := (Q.out.2.1.trans (hb3.mono (Nat.le_of_lt Q.out.1.lt))).grown hg4 (by have := Q.out.1.lt; have := hb3.size; omega) (fun k hk => by cases hk; exact Nat.le_refl _)
      have Z := Lib.hid (And.intro hB5 (And.intro hb5 (And.intro Q.out.2.2.1 Q.out.2.2.2)))
      clear Q hB4 hg4 hz4 hb3 hB5 hb5
      go_roundw
      case rel => exact ⟨k + 1, Z.out.2.2.1, by rw [Z.out.2.2.2]; go_num, Z.out.1, Z.out.2.1⟩
      case measure => have := Z.out.2.2; simp [intOf]; omega
    · obtain rfl : k = 40 := by omega
      have X := Lib.hid (And.intro hB hb)
      clear hB hb hlt hk
      go_wp2
      go_ret2
      exact ⟨rfl, by rw [← lay_done]; exact X.out.1, X.out.2⟩
end Go.Proofs.Ytdebokambldbbaa.LawP
