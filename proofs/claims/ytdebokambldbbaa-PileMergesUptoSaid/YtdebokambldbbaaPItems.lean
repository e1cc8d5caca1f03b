/- The law's things: Items; the small helpers of the laws. -/
import Derived.Test.YtdebokambldbbaaPlSI
import Derived.Test.YtdebokambldbbaaOpen
namespace Go.Proofs.Ytdebokambldbbaa.LawP
set_option linter.unusedSectionVars false
set_option linter.unusedSimpArgs false
open Go.RowKit Go.Shelf Go.Proofs.Ytdebokambldbbaa.Mem Go.Proofs.Ytdebokambldbbaa.Heap Go.Proofs.Ytdebokambldbbaa.Pile Go.Proofs.Ytdebokambldbbaa.PileI
set_option linter.unusedVariables false
set_option maxRecDepth 4000
set_option maxHeartbeats 1600000

abbrev Itm := Int × Int
def Itm.cells (x : Itm) : List Value := [.int .i64 x.1, .int .i64 x.2]
def thI : Th Itm 2 := ⟨Itm.cells, fun _ => rfl, fun b u hu => by
  simp [Itm.cells] at hu
  rcases hu with rfl | rfl <;> rfl⟩
def Itm.val (x : Itm) : Value := .agg #[.int .i64 x.1, .int .i64 x.2]
theorem vlI (x : Itm) : vl thI x = x.val := rfl

theorem it_any (a b : Int) (W : World) : Calls Try.prog 15 #[.int .i64 a, .int .i64 b] W fun e W' => e = .returned (Itm.val (a, b)) ∧ Below W.heap.size W W' := by
  go_enter Try.func15, Try.ntmps15
  go_wp2_with (first
    | ((with_reducible show wpList _ _ _ (⟨some 4, _, _, _, _, _⟩ :: _) _ _); go_must (refine wpList_allocT (o := ⟨some 4, _, _, _, _, _⟩) rfl rfl _ rfl ?_); intro w1 hB1 hb1 hz1)
    | ((with_reducible show wpList _ _ _ (⟨none, .store 35 (.tmp 4) _, _, _, _, _⟩ :: _) _ _); go_must (refine wpList_storeT (th := thI) (o := ⟨none, .store 35 (.tmp 4) _, _, _, _, _⟩) rfl (.tmp 4) (.tmp 7) rfl W.heap.size (by go_simp) (a, b) (by go_simp; rfl) _ hB1 rfl ?_); intro w2 hB2 hg2 hz2))
  refine ret_cell AT Try.results15 W.heap.size rfl _ _ hB2 rfl rfl ?_
  exact ⟨rfl, hb1.grown hg2 hb1.size (fun k hk => by cases hk; exact Nat.le_refl _)⟩
def mud (a b : Itm) : Bool := (wrap64 (wrap64 (wrap64 (a.1 * 7) + wrap64 (b.1 * 13)) + a.2)).tmod 3 == 0
theorem muddled_any (a b : Itm) (W : World) : Calls Try.prog 24 #[a.val, b.val] W fun e W' => e = .returned (.bool (mud a b)) ∧ Below W.heap.size W W' := by
  unfold Itm.val
  go_enter Try.func24, Try.ntmps24
  go_wp2
  go_ret
  exact ⟨rfl, ga (ga (gr W) _) _⟩
theorem less_any (a b : Itm) (W : World) : Calls Try.prog 28 #[a.val, b.val] W fun e W' => e = .returned (.bool (decide (a.1 < b.1))) ∧ Below W.heap.size W W' := by
  unfold Itm.val
  go_enter Try.func28, Try.ntmps28
  go_wp2
  go_ret
  exact ⟨rfl, ga (ga (gr W) _) _⟩
theorem item_at {W : World} {A : Option Addr} {l : List Itm} (h : RV W A (l.flatMap Itm.cells)) (hA : A = none ∨ ∃ g off, A = some ⟨g, off, none⟩) {k : Nat} (hk : k < l.length) : ∃ g off, A = some ⟨g, off, none⟩ ∧ W.cell? ⟨g, off + k * 2, none⟩ = some (.int .i64 l[k].1) ∧ W.cell? ⟨g, off + k * 2 + 1, none⟩ = some (.int .i64 l[k].2) := by
  obtain ⟨ad, hAd, hc⟩ := rv_at (th := thI) h hk
  rcases hA with rfl | ⟨g, off, rfl⟩
  · cases hAd
  · injection hAd with hAd
    subst hAd
    have h0 := hc 0 _ rfl
    have h1 := hc 1 _ rfl
    rw [add_none] at h0 h1
    exact ⟨g, off, rfl, by simpa using h0, by simpa [Nat.add_assoc] using h1⟩
theorem own_hA {W : World} {B : Nat} {T : TypeId} {size n n' c : Nat} {A : Option Addr} {xs : List Value} (h : W.ownsRow B T size (.slice A n' c) n xs) : A = none ∨ ∃ g off, A = some ⟨g, off, none⟩ := by
  rcases h.2 with ⟨hv, _⟩ | ⟨g, cap, cur, hv, _⟩
  · injection hv with h1; exact .inl h1
  · injection hv with h1; exact .inr ⟨g, 0, h1⟩
theorem count_any (A : Option Addr) (n c : Nat) (l : List Itm) (x : Itm) (W : World) (hr : RV W A (l.flatMap Itm.cells)) (hA : A = none ∨ ∃ g off, A = some ⟨g, off, none⟩) (hn : n = l.length) (hl : l.length ≤ 1099511627776) :
    Calls Try.prog 26 #[.slice A n c, x.val] W fun e W' => e = .returned (.int .i64 (l.count x)) ∧ Below W.heap.size W W' := by
  have H0 := Lib.hid (And.intro hr (And.intro hA (And.intro hn hl)))
  clear hr hA hn hl
  unfold Itm.val
  go_enter Try.func26, Try.ntmps26
  go_wp2
  go_loopw [10, 5] (fun v10 v5 wr => ∃ k : Nat, k ≤ n ∧ v10 = .int .i64 k ∧ v5 = .int .i64 ((l.take k).count x) ∧ Below W.heap.size W wr ∧ wr.cell? ⟨W.heap.size, 0, none⟩ = some (.int .i64 x.1) ∧ wr.cell? ⟨W.heap.size, 1, none⟩ = some (.int .i64 x.2)) (fun v _ _ => n - (intOf v).toNat)
  case atStart => exact ⟨0, Nat.zero_le _, rfl, by simp, ga (gr W) _, by simp, by simp⟩
  case round =>
    obtain ⟨k, hk, rfl, rfl, hb, cx1, cx2⟩ := hrel
    by_cases hlt : k < n
    · have hkl : k < l.length := by rw [← H0.out.2.2.1]; exact hlt
      obtain ⟨g, off, rfl, c1, c2⟩ := item_at (H0.out.1.below hb) H0.out.2.1 hkl
      obtain ⟨y, hy⟩ : ∃ y, y = l[k] := ⟨_, rfl⟩
      have hst : (l.take (k + 1)).count x = (l.take k).count x + if y = x then 1 else 0 := by
        rw [take_succ_ hkl, List.count_append, ← hy, List.count_singleton]
        by_cases e : y = x <;> simp [e]
      rw [← hy] at c1 c2
      obtain ⟨m, hm⟩ : ∃ m, m = (l.take k).count x := ⟨_, rfl⟩
      have hml : m ≤ k := by rw [hm]; exact Nat.le_trans List.count_le_length (by rw [List.length_take]; omega)
      have hki : (k : Int) < (n : Int) := by omega
      have hk0 : (0 : Int) ≤ (k : Int) := by omega
      have hB := H0.out.2.2.2
      have hn := H0.out.2.2.1
      have q7 : wrap64 ((k : Int) + 1) = (k : Int) + 1 := wrap_in (by omega) (by omega)
      have q8 : wrap64 ((m : Int) + 1) = (m : Int) + 1 := wrap_in (by clear q7; omega) (by clear q7; omega)
      have bx1 := block_lt_of_cell cx1
      rw [← hm] at hst ⊢
      have X := Lib.hid (And.intro hk (And.intro hlt (And.intro hb (And.intro hst bx1))))
      clear hk hlt hb hst hkl hy hm hml hB hn bx1
      obtain ⟨y1, y2⟩ := y
      obtain ⟨x1, x2⟩ := x
      simp only at c1 c2 cx1 cx2
      have nb : ∀ (i : Nat) (v : Value), wr.cell? ⟨W.heap.size, i, none⟩ = some v → ((wr.alloc (.cells #[.int .i64 y1, .int .i64 y2] 35))).cell? ⟨W.heap.size, i, none⟩ = some v := fun i v h => (World.cell?_alloc_lt wr _ ⟨W.heap.size, i, none⟩ (show W.heap.size < wr.heap.size from X.out.2.2.2.2)).trans h
      have hz : W.heap.size ≠ wr.heap.size := Nat.ne_of_lt X.out.2.2.2.2
      have hbb : Below W.heap.size W (wr.alloc (.cells #[.int .i64 y1, .int .i64 y2] 35)) := X.out.2.2.1.alloc X.out.2.2.1.size _
      have nx1 := nb 0 _ cx1
      have nx2 := nb 1 _ cx2
      have N := Lib.hid (And.intro nx1 (And.intro nx2 hbb))
      clear nb hbb
      by_cases h1 : x1 = y1
      · by_cases h2 : x2 = y2
        · subst h1 h2
          go_wp2
          go_roundw
          case rel => exact ⟨k + 1, X.out.2.1, by go_num, by rw [X.out.2.2.2.1, q8]; simp, N.out.2.2, N.out.1, N.out.2.1⟩
          case measure =>
            rw [q7]
            exact meas_in X.out.2.1
        · go_wp2
          go_roundw
          case rel => exact ⟨k + 1, X.out.2.1, by go_num, by rw [X.out.2.2.2.1]; simp [Ne.symm h2], N.out.2.2, N.out.1, N.out.2.1⟩
          case measure =>
            rw [q7]
            exact meas_in X.out.2.1
      · go_wp2
        go_roundw
        case rel => exact ⟨k + 1, X.out.2.1, by go_num, by rw [X.out.2.2.2.1]; simp [Ne.symm h1], N.out.2.2, N.out.1, N.out.2.1⟩
        case measure =>
          rw [q7]
          exact meas_in X.out.2.1
    · obtain rfl : k = n := by omega
      have X := Lib.hid hb
      have hl : (l.take k).count x = l.count x := by rw [H0.out.2.2.1, List.take_length]
      rw [hl]
      clear hb hk hlt hl
      go_wp2
      go_ret
      exact ⟨rfl, X.out⟩
/-- the law's own less, as a function value -/
theorem fv_plain {W : World} {lt : Itm → Itm → Bool} {D : Itm → Prop} (f : FuncId) (he : ∀ args w, (callFunc f args).run Try.prog w = .ok (.enter f args) w) (h : ∀ (a b : Itm) (W : World), Calls Try.prog f #[a.val, b.val] W fun e W' => e = .returned (.bool (lt a b)) ∧ Below W.heap.size W W') : FvOk thI W (.func (.func f) #[] #[]) lt D :=
  .inr ⟨⟨f, #[], rfl⟩, ⟨f, #[], rfl, he, fun W' a b _ _ _ => by have := h a b W'; simpa [vlI] using this⟩⟩
theorem fv_mud (W : World) (D : Itm → Prop) : FvOk thI W (.func (.func 24) #[] #[]) mud D := fv_plain _ (enters_of Try.func24 (by kernel_rfl) rfl) muddled_any
def ltK (a b : Itm) : Bool := decide (a.1 < b.1)
theorem fv_less (W : World) (D : Itm → Prop) : FvOk thI W (.func (.func 28) #[] #[]) ltK D := fv_plain _ (enters_of Try.func28 (by kernel_rfl) rfl) less_any
/-- one thing more pushed in a loop over a list -/
theorem push_next {W0 wr : World} {lt : Itm → Itm → Bool} {h k : Nat} {v fv : Value} {l : List Itm} (hP : PlK thI wr h h v fv (Heap.pushAll lt [] 0 (l.take k)) k) (hL : Less Try.prog h W0 (vl thI) (fun _ => True) fv lt) (hb : Below h W0 wr) (hh : h ≤ W0.heap.size) (hkl : k < l.length) (hl : l.length ≤ 1073741824) (w2 : World) (hb2 : Below wr.heap.size wr w2) :
    Calls Try.prog 14 #[.pointer (some ⟨h, 0, none⟩), (l[k]).val] w2 fun e W' => (∃ u, e = .returned u) ∧ ∃ v', PlK thI W' h h v' fv (Heap.pushAll lt [] 0 (l.take (k + 1))) (k + 1) ∧ Below h W0 W' := by
  have hle : h ≤ wr.heap.size := Nat.le_trans hh hb.size
  have hbb : Below h W0 w2 := hb.trans (hb2.mono hle)
  have hes : (Heap.pushAll lt [] 0 (l.take k)).length = k := by rw [pushAll_len, List.length_take]; simp; omega
  have hstep : Heap.pushAll lt [] 0 (l.take (k + 1)) = Heap.push (Heap.ahead lt) (Heap.pushAll lt [] 0 (l.take k)) (l[k], k) := by
    rw [take_succ_ hkl, pushAll_app, List.length_take, Nat.min_eq_left (by omega), Nat.zero_add]; rfl
  refine (push_any w2 (hP.grow hb2) hL hbb (Nat.le_trans hle hb2.size) (Nat.le_refl _) (fun _ _ => trivial) l[k] trivial (by rw [hes]; omega) (by omega) (by rw [hes]; omega)).mono ?_
  rintro e W' ⟨he, v', hP', hg, _⟩
  rw [hstep]
  exact ⟨he, v', hP', hg.low hbb (Nat.le_trans hle hb2.size) (fun j hj => by cases hj; exact Nat.le_refl _) (fun j hj => (hP.own.lt j hj).1)⟩
end Go.Proofs.Ytdebokambldbbaa.LawP
