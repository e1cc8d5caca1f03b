/- weirlaw07.whole: true where a list and the marked room behind it are as they were put. -/
import Derived.Test.YtdebokambldbbaaPSame
import Derived.Test.YtdebokambldbbaaPBest
import Derived.Test.YtdebokambldbbaaRgF
namespace Go.Proofs.Ytdebokambldbbaa.LawP
open Go.RowKit Go.Shelf Go.Proofs.Ytdebokambldbbaa.Mem Go.Proofs.Ytdebokambldbbaa.Heap Go.Proofs.Ytdebokambldbbaa.Pile Go.Proofs.Ytdebokambldbbaa.PileI
set_option linter.unusedVariables false
set_option linter.unusedSectionVars false
set_option linter.unusedSimpArgs false
set_option maxRecDepth 8000
set_option maxHeartbeats 6400000

theorem cut_items_from {ρ : Operand → Value} {w : World} {o : Oper} {x y : Operand} {ad : Addr} {n c m : Nat} {mi : Int} (ho : o.op = .slice 32 x (some y) none none) (hx : ρ x = .slice (some ad) n c) (hy : ρ y = .int .i64 mi) (he : mi = m) (hm : m ≤ n) (hc : m < c) :
    (execOp ρ o).run Try.prog w = .ok (.value (.slice (some (ad.add (m * 2))) (n - m) (c - m))) w := by
  subst he
  have h := run_slice_l (P := Try.prog) (w := w) 32 (some ad) n c (by rfl) .i64 (m : Int) (by omega) (by omega)
  have hs : (sizeOf (Try.prog.elem 32)).run Try.prog w = .ok 2 w := by rfl
  rw [hs] at h
  have e : sliced (some ad) (m : Int).toNat n c 2 = .slice (some (ad.add (m * 2))) (n - m) (c - m) := by
    unfold sliced
    simp
    omega
  simp only [Result.andThen, e] at h
  simp [execOp, ho, hx, hy, run_sliceAt_slice, h, Result.andThen, (show Try.prog.underlying 32 = some (.slice (Try.prog.elem 32)) from rfl)]
abbrev mark : Itm := (-7, -7)
/-- what put lays -/
def laid (l : List Itm) : List Itm := l ++ List.replicate 40 mark
theorem laid_len (l : List Itm) : (laid l).length = l.length + 40 := by unfold laid; simp
theorem laid_take (l : List Itm) : (laid l).take l.length = l := by unfold laid; simp
theorem laid_drop (l : List Itm) : (laid l).drop l.length = List.replicate 40 mark := by unfold laid; simp
theorem whole_any (ad : Addr) (A : Option Addr) (n N c cF : Nat) (l : List Itm) (W : World) (hF : RV W (some ad) ((laid l).flatMap Itm.cells)) (hr : RV W A (l.flatMap Itm.cells)) (hn : n = l.length) (hN : N = n + 40) (hc : N ≤ cF) (hl : l.length ≤ 1073741824) :
    Calls Try.prog 34 #[.slice (some ad) N cF, .slice A n c] W fun e W' => e = .returned (.bool true) ∧ Below W.heap.size W W' := by
  subst hN
  have hnb : n ≤ 1073741824 := by omega
  have cS : ∀ w, Below W.heap.size W w → Calls Try.prog 32 #[.slice (some ad) n cF, .slice A n c] w fun e W' => e = .returned (.bool true) ∧ Below w.heap.size w W' := fun w hb =>
    same_items (some ad) A n cF c l w (by have := rv_items_to (hF.below hb) l.length; rwa [laid_take] at this) (hr.below hb) hn (by omega)
  obtain ⟨adn, hadn⟩ : ∃ adn, adn = ad.add (n * 2) := ⟨_, rfl⟩
  have rM : RV W (some adn) ((List.replicate 40 mark).flatMap Itm.cells) := by
    rw [hadn, hn, ← laid_drop]; exact rv_drop hF _
  have H0 := Lib.hid (And.intro cS (And.intro rM hadn))
  have HC := Lib.hid hc
  clear cS rM hadn hF hr hn hl hc
  go_enter Try.func34, Try.ntmps34
  go_wp2_with (first
    | ((with_reducible show wpList _ _ _ (⟨some 10, _, _, _, _, _⟩ :: _) _ _)
       go_must (refine wpList_is (o := ⟨some 10, _, _, _, _, _⟩) rfl (cut_items (x := .tmp 7) (y := .tmp 9) rfl rfl rfl rfl (by have := HC.out; omega)) ?_))
    | (go_at_call 32
       go_must (refine (H0.out.1 W (gr W)).mono ?_)
       rintro e w1 ⟨rfl, hb1⟩)
    | ((with_reducible show wpList _ _ _ (⟨some 17, _, _, _, _, _⟩ :: _) _ _)
       go_must (refine wpList_is (o := ⟨some 17, _, _, _, _, _⟩) rfl (by rw [H0.out.2.2]; exact cut_items_from (x := .tmp 14) (y := .tmp 16) rfl rfl rfl rfl (by omega) (by have := HC.out; omega)) (v := .slice (some adn) (n + 40 - n) (cF - n)) ?_)
       rw [show n + 40 - n = 40 by omega]))
  have B1 := Lib.hid hb1
  clear hb1
  go_loopw [19] (fun v19 wr => ∃ k : Nat, k ≤ 40 ∧ v19 = .int .i64 k ∧ Below w1.heap.size w1 wr) (fun v _ => 40 - (intOf v).toNat)
  case atStart => exact ⟨0, Nat.zero_le _, rfl, gr w1⟩
  case round =>
    obtain ⟨k, hk, rfl, hb⟩ := hrel
    by_cases hlt : k < 40
    · obtain ⟨ad', e', d1, d2⟩ := item_gen (H0.out.2.1.below (gt B1.out hb)) (k := k) (by rw [List.length_replicate]; exact hlt)
      injection e' with e'
      subst e'
      rw [List.getElem_replicate] at d1 d2
      simp only [mark] at d1 d2
      have hki : (k : Int) < 40 := by omega
      have hk0 : (0 : Int) ≤ (k : Int) := by omega
      have Q := Lib.hid (And.intro hlt hb)
      clear hk hb
      go_wp2
      refine wp_region_qb (by kernel_rfl) (by kernel_rfl) ?_
      refine wq_val (o := ⟨some 23, _, _, _, _, _⟩) (v := .agg #[.int .i64 (-7), .int .i64 (-7)]) rfl (fun w' hC => by
        have b := (Blk.new wr 35 [.int .i64 (-7), .int .i64 (-7)]).grow hC
        have q1 := b.cell 0
        have q2 := b.cell 1
        simp only [List.getElem?_cons_zero, List.getElem?_cons_succ] at q1 q2
        go_simp) ?_
      simp only [Act.put, List.setIfInBounds_toArray, List.set_cons_succ, List.set_cons_zero]
      refine wq_call (f := 15) (args := #[.int .i64 (-7), .int .i64 (-7)]) (v := Itm.val (-7, -7)) rfl (fun w' _ => by go_simp) (fun w' hC => ?_) ?_
      · exact it_any (-7) (-7) w'
      simp only [Act.put, List.setIfInBounds_toArray, List.set_cons_succ, List.set_cons_zero, Itm.val]
      refine wq_val (o := ⟨some 25, _, _, _, _, _⟩) (v := .bool false) rfl (fun w' hC => by go_simp) ?_
      simp only [Act.put, List.setIfInBounds_toArray, List.set_cons_succ, List.set_cons_zero]
      refine wpQuiet_nil ?_
      intro w5 hC5
      have hb5 : Below w1.heap.size w1 w5 := gt (ga Q.out.2 _) hC5
      have Z := Lib.hid (And.intro Q.out.1 hb5)
      clear Q hC5 hb5
      go_wp2
      go_roundw
      case rel => exact ⟨k + 1, Z.out.1, by go_num, Z.out.2⟩
      case measure => exact meas_in Z.out.1
    · have X := Lib.hid (gt B1.out hb)
      obtain rfl : k = 40 := by omega
      clear hb hk hlt
      go_wp2
      go_ret
      exact ⟨rfl, X.out⟩
end Go.Proofs.Ytdebokambldbbaa.LawP
