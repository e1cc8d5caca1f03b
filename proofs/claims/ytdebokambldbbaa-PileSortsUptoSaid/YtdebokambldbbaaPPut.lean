/- weirlaw07.put: a list in new memory, with marked room behind it. -/
import Derived.Test.YtdebokambldbbaaPWhole
import Derived.Test.YtdebokambldbbaaCopyM
import Derived.Test.YtdebokambldbbaaPlBstI
import Derived.Test.YtdebokambldbbaaBuildN
namespace Go.Proofs.Ytdebokambldbbaa.LawP
open Go.RowKit Go.Shelf Go.Proofs.Ytdebokambldbbaa.Mem Go.Proofs.Ytdebokambldbbaa.Heap Go.Proofs.Ytdebokambldbbaa.Pile Go.Proofs.Ytdebokambldbbaa.PileI
set_option linter.unusedVariables false
set_option linter.unusedSectionVars false
set_option linter.unusedSimpArgs false
set_option maxRecDepth 8000
set_option maxHeartbeats 6400000

def zer : Itm := (0, 0)
/-- the room while k marks are laid -/
def lay (l : List Itm) (k : Nat) : List Value := l.flatMap Itm.cells ++ ((List.replicate k mark).flatMap Itm.cells ++ (List.replicate (40 - k) zer).flatMap Itm.cells)
theorem repf_len (n : Nat) (x : Itm) : ((List.replicate n x).flatMap Itm.cells).length = n * 2 := by rw [fl_len, List.length_replicate]
theorem lay_len (l : List Itm) {k : Nat} (h : k ≤ 40) : (lay l k).length = (l.length + 40) * 2 := by
  unfold lay
  rw [List.length_append, List.length_append, repf_len, repf_len, fl_len]
  omega
theorem lay_done (l : List Itm) : lay l 40 = (laid l).flatMap Itm.cells := by
  unfold lay laid
  rw [List.flatMap_append]
  simp
theorem splice_mid {α : Type} (X R zc Z mc : List α) (h : zc.length = mc.length) {m : Nat} (hm : m = X.length + R.length) : splice (X ++ (R ++ (zc ++ Z))) m mc = X ++ ((R ++ mc) ++ Z) := by
  unfold splice
  rw [← List.append_assoc X R, List.take_left' (by rw [List.length_append, hm]), ← List.append_assoc (X ++ R) zc Z, List.drop_left' (by rw [List.length_append, List.length_append, hm, h])]
  simp
theorem lay_step (l : List Itm) {k : Nat} (h : k < 40) : splice (lay l k) ((l.length + k) * 2) (Itm.cells mark) = lay l (k + 1) := by
  have e1 : (List.replicate (40 - k) zer) = zer :: List.replicate (40 - (k + 1)) zer := by rw [← List.replicate_succ]; congr 1; omega
  have e2 : List.replicate (k + 1) mark = List.replicate k mark ++ [mark] := List.replicate_succ'
  unfold lay
  rw [e1, e2, List.flatMap_cons, List.flatMap_append, splice_mid _ _ (Itm.cells zer) _ (Itm.cells mark) rfl (by rw [repf_len, fl_len]; omega)]
  rfl
theorem zero_cells (m : Nat) : ((List.replicate m [Value.int .i64 0, Value.int .i64 0]).flatten) = (List.replicate m zer).flatMap Itm.cells := by
  rw [List.flatMap_def, List.map_replicate]; rfl
theorem put_any (A : Option Addr) (n c : Nat) (l : List Itm) (W : World) (hr : RV W A (l.flatMap Itm.cells)) (hn : n = l.length) (hl : l.length ≤ 1073741824) :
    Calls Try.prog 30 #[.slice A n c] W fun e W' => e = .returned (.tuple #[.slice (some ⟨W.heap.size, 0, none⟩) n (n + 40), .slice (some ⟨W.heap.size, 0, none⟩) (n + 40) (n + 40)]) ∧ Blk W' W.heap.size 35 ((laid l).flatMap Itm.cells) ∧ Below W.heap.size W W' := by
  have hnb : n ≤ 1073741824 := by omega
  obtain ⟨H, hH⟩ : ∃ H, H = W.heap.size := ⟨_, rfl⟩
  rw [← hH]
  have H0 := Lib.hid (And.intro hr (And.intro hn hH))
  clear hr hn hl hH
  go_enter Try.func30, Try.ntmps30
  go_wp2_with (first
    | ((with_reducible show wpList _ _ _ (⟨some 8, _, _, _, _, _⟩ :: _) _ _)
       go_must (refine wpList_makeM ET (o := ⟨some 8, _, _, _, _, _⟩) rfl _ _ rfl .i64 .i64 _ _ (n + 40) (n + 40) rfl rfl (by go_simp) (by go_simp) (Nat.le_refl _) (by omega) (by unfold maxLen; omega) H H0.out.2.2.symm ?_)
       intro w1 hB1 hb1 hz1)
    | ((with_reducible show wpList _ _ _ (⟨some 11, _, _, _, _, _⟩ :: _) _ _)
       go_must (refine wpList_copyM ET (o := ⟨some 11, _, _, _, _, _⟩) rfl (.tmp 9) (.tmp 10) rfl H (n + 40) (n + 40) A n c rfl rfl 35 _ hB1 (l.flatMap Itm.cells) (by rw [fl_len, H0.out.2.1]; rfl) (by omega) (H0.out.1.below (by rw [← H0.out.2.2]; exact hb1)) (by rw [zero_cells, fl_len, repf_len, ← H0.out.2.1]; omega) fl_one ?_)
       intro w2 hB2 hz2 hg2))
  have hB3 : Blk w2 H 35 (lay l 0) := by
    have h := hB2
    rw [zero_cells, fl_len, ← H0.out.2.1] at h
    unfold lay
    rw [show (List.replicate (n + 40) zer).flatMap Itm.cells = (List.replicate n zer).flatMap Itm.cells ++ (List.replicate (40 - 0) zer).flatMap Itm.cells by rw [← List.flatMap_append, List.replicate_append_replicate], List.drop_left' (repf_len n zer)] at h
    simpa using h
  have hb2 : Below H W w2 := hb1.grown hg2 (by omega) (fun k hk => by cases hk; exact Nat.le_refl _)
  have X := Lib.hid (And.intro hB3 hb2)
  clear hB1 hb1 hz1 hB2 hz2 hg2 hB3 hb2
  go_loopw [4] (fun v4 wr => ∃ k : Nat, k ≤ 40 ∧ v4 = .int .i64 ((n + k : Nat) : Int) ∧ Blk wr H 35 (lay l k) ∧ Below H W wr) (fun v _ => n + 40 - (intOf v).toNat)
  case atStart => exact ⟨0, Nat.zero_le _, by go_num, X.out.1, X.out.2⟩
  case round =>
    clear X
    obtain ⟨k, hk, rfl, hB, hb⟩ := hrel
    by_cases hlt : k < 40
    · have hki : ((n + k : Nat) : Int) < ((n + 40 : Nat) : Int) := by omega
      have hk0 : (0 : Int) ≤ ((n + k : Nat) : Int) := by omega
      obtain ⟨m, hm⟩ : ∃ m, m = n + k := ⟨_, rfl⟩
      rw [← hm] at hki hk0 ⊢
      have Q := Lib.hid (And.intro hB (And.intro hb (And.intro hlt hm)))
      clear hB hb hlt hk hm
      go_wp2_with (first
        | (go_at_call 15; go_must (refine (it_any (-7) (-7) _).mono ?_); rintro e w3 ⟨rfl, hb3⟩; unfold Itm.val)
        | ((with_reducible show wpList _ _ _ (⟨none, .store 35 (.tmp 23) _, _, _, _, _⟩ :: _) _ _)
           go_must (refine wpList_storeAtT (th := thI) (o := ⟨none, .store 35 (.tmp 23) _, _, _, _, _⟩) rfl (.tmp 23) (.tmp 22) rfl H (m * 2) (by go_simp) mark (by go_simp; rfl) _ _ (Q.out.1.grow hb3) (by rw [lay_len l (by have := Q.out; omega), ← H0.out.2.1]; have := Q.out; omega) ?_)
           intro w4 hB4 hg4 hz4))
      have hB5 : Blk w4 H 35 (lay l (k + 1)) := by
        have h := hB4
        rw [Q.out.2.2.2, H0.out.2.1] at h
        rw [← lay_step l Q.out.2.2.1]
        exact h
      have hb5 : Below H W w4 := (Q.out.2.1.trans (hb3.mono (Nat.le_of_lt Q.out.1.lt))).grown hg4 (by have := Q.out.1.lt; have := hb3.size; omega) (fun k hk => by cases hk; exact Nat.le_refl _)
      have Z := Lib.hid (And.intro hB5 (And.intro hb5 (And.intro Q.out.2.2.1 Q.out.2.2.2)))
      clear Q hB4 hg4 hz4 hb3 hB5 hb5
      go_roundw
      case rel => exact ⟨k + 1, Z.out.2.2.1, by rw [Z.out.2.2.2]; go_num, Z.out.1, Z.out.2.1⟩
      case measure => have := Z.out.2.2; simp [intOf]; omega
    · obtain rfl : k = 40 := by omega
      have X := Lib.hid (And.intro hB hb)
      clear hB hb hlt hk
      go_wp2
      go_ret2
      exact ⟨rfl, by rw [← lay_done]; exact X.out.1, X.out.2⟩
end Go.Proofs.Ytdebokambldbbaa.LawP
