/- weirref07.Without and place: what they answer. -/
import Derived.Test.YtdebokambldbbaaPFirst
import Derived.Test.YtdebokambldbbaaLawMuddled
namespace Go.Proofs.Ytdebokambldbbaa.LawP
open Go.RowKit Go.Shelf Go.Proofs.Ytdebokambldbbaa.Mem Go.Proofs.Ytdebokambldbbaa.Heap Go.Proofs.Ytdebokambldbbaa.Pile Go.Proofs.Ytdebokambldbbaa.PileI
set_option linter.unusedVariables false
set_option linter.unusedSectionVars false
set_option maxRecDepth 4000
set_option maxHeartbeats 6400000

theorem erase_take {α : Type} {l : List α} {k i : Nat} (hk : k < l.length) : (l.take (k + 1)).eraseIdx i = if k = i then (l.take k).eraseIdx i else (l.take k).eraseIdx i ++ [l[k]] := by
  have hlen : (l.take k).length = k := by rw [List.length_take]; omega
  rw [take_succ_ hk]
  by_cases h : i < k
  · rw [if_neg (by omega), List.eraseIdx_append_of_lt_length (by omega)]
  · rw [List.eraseIdx_append_of_length_le (by omega), List.eraseIdx_of_length_le (l := l.take k) (by omega), hlen]
    by_cases e : k = i
    · subst e; simp
    · rw [if_neg e]
      obtain ⟨m, hm⟩ : ∃ m, i - k = m + 1 := ⟨i - k - 1, by omega⟩
      rw [hm]; simp
theorem without_any (A : Option Addr) (n c i : Nat) (l : List Itm) (W : World) (hr : RV W A (l.flatMap Itm.cells)) (hn : n = l.length) (hl : l.length ≤ 1073741824) :
    Calls Try.prog 18 #[.slice A n c, .int .i64 i] W fun e W' => ∃ v, e = .returned v ∧ W'.ownsRow W.heap.size 35 2 v (l.eraseIdx i).length ((l.eraseIdx i).flatMap Itm.cells) ∧ Below W.heap.size W W' := by
  have H0 := Lib.hid (And.intro hr (And.intro hn hl))
  clear hr hn hl
  go_enter Try.func18, Try.ntmps18
  go_wp2
  go_loopw [6, 5] (fun v6 v5 wr => ∃ k : Nat, k ≤ n ∧ v6 = .int .i64 k ∧ wr.ownsRow W.heap.size 35 2 v5 ((l.take k).eraseIdx i).length (((l.take k).eraseIdx i).flatMap Itm.cells) ∧ Below W.heap.size W wr) (fun v _ _ => n - (intOf v).toNat)
  case atStart => exact ⟨0, Nat.zero_le _, rfl, World.ownsRow_nil _ _ _ _, gr W⟩
  case round =>
    obtain ⟨k, hk, rfl, ho, hb⟩ := hrel
    by_cases hlt : k < n
    · have hkl : k < l.length := by rw [← H0.out.2.1]; exact hlt
      obtain ⟨ad, rfl, c1, c2⟩ := item_gen (H0.out.1.below hb) hkl
      have hki : (k : Int) < (n : Int) := by omega
      have hk0 : (0 : Int) ≤ (k : Int) := by omega
      have q7 : wrap64 ((k : Int) + 1) = (k : Int) + 1 := wrap_in (by omega) (by have h1 := H0.out.2.1; have h2 := H0.out.2.2; omega)
      obtain ⟨x, hx⟩ : ∃ x, x = l[k] := ⟨_, rfl⟩
      have hstep := erase_take (i := i) hkl
      have hle : ((l.take k).eraseIdx i).length ≤ k := Nat.le_trans (List.length_eraseIdx_le _ _) (by rw [List.length_take]; omega)
      rw [← hx] at c1 c2 hstep
      obtain ⟨es, he⟩ : ∃ es, es = (l.take k).eraseIdx i := ⟨_, rfl⟩
      rw [← he] at hstep hle ho
      by_cases hi : k = i
      · rw [if_pos hi] at hstep
        have Z := Lib.hid (And.intro hlt (And.intro hb (And.intro hstep ho)))
        have hii : (i : Int) = (k : Int) := by omega
        rw [hii]
        clear hlt hb hstep hkl hx hk ho hle he hii hi c1 c2
        go_wp2
        go_roundw
        case rel => exact ⟨k + 1, Z.out.1, by go_num, by rw [Z.out.2.2.1]; exact Z.out.2.2.2, Z.out.2.1⟩
        case measure =>
          rw [q7]
          exact meas_in Z.out.1
      · rw [if_neg hi] at hstep
        have hii : ¬ ((k : Int) = (i : Int)) := by omega
        have Z := Lib.hid (And.intro hlt (And.intro hb (And.intro hstep (And.intro ho (And.intro hle (show k ≤ 1073741824 by have h1 := H0.out.2.1; have h2 := H0.out.2.2; omega))))))
        clear hlt hb hstep hkl hx hk ho hle he hi
        obtain ⟨x1, x2⟩ := x
        simp only at c1 c2
        go_wp2_with (first
          | ((with_reducible show wpList _ _ _ (⟨some 21, _, _, _, _, _⟩ :: _) _ _)
             go_must (refine wpList_build1 ET (o := ⟨some 21, _, _, _, _, _⟩) rfl (.tmp 20) rfl (by decide) (Itm.cells (x1, x2)) rfl rfl _ rfl ?_)
             intro w7 hB7 hb7 hz7)
          | ((with_reducible show wpList _ _ _ (⟨some 22, _, _, _, _, _⟩ :: _) _ _)
             go_must (refine wpList_app ET (o := ⟨some 22, _, _, _, _, _⟩) rfl (.tmp 16) (.tmp 21) rfl W.heap.size u5 es.length (es.flatMap Itm.cells) rfl (own_below' Z.out.2.2.2.1 hb7) _ 1 1 (Itm.cells (x1, x2)) rfl (own_rv (own_made (B := 0) (size := 2) (n := 1) hB7 (Nat.zero_le _) rfl (by decide))) rfl (fun u hu => thI.one (x1, x2) u hu) (by have h1 := Z.out.2.2.2.2; unfold maxLen; omega) (by have h1 := Z.out.2.2.2.2; omega) (gt Z.out.2.1 hb7).size ?_)
             intro va w8 hov hg hv'))
        have hb8 : Below W.heap.size W w8 := (gt Z.out.2.1 hb7).grown hg (gt Z.out.2.1 hb7).size (fun j hj => (Z.out.2.2.2.1.lt j hj).1)
        have ho8 : w8.ownsRow W.heap.size 35 2 va ((l.take (k + 1)).eraseIdx i).length (((l.take (k + 1)).eraseIdx i).flatMap Itm.cells) := by
          rw [Z.out.2.2.1, List.length_append, List.flatMap_append, List.flatMap_cons, List.flatMap_nil, List.append_nil]
          exact hov
        have Y := Lib.hid (And.intro ho8 hb8)
        clear hov hg hv' hB7 hb7 hz7 ho8 hb8
        go_roundw
        case rel => exact ⟨k + 1, Z.out.1, by go_num, Y.out.1, Y.out.2⟩
        case measure =>
          rw [q7]
          exact meas_in Z.out.1
    · obtain rfl : n = k := by omega
      have X := Lib.hid (And.intro ho hb)
      clear hk hlt hb ho
      go_wp2
      go_ret
      have ho := X.out.1
      rw [H0.out.2.1, List.take_length] at ho
      exact ⟨_, rfl, ho, X.out.2⟩
/-- a number from 0 to n - 1 -/
def plc (i n : Int) : Int := Int.tmod (if i < 0 then wrap64 (-(wrap64 (i + 1))) else i) n
end Go.Proofs.Ytdebokambldbbaa.LawP
