/- Peek of a pile that holds something. -/
import Derived.Test.YtdebokambldbbaaPPlace
namespace Go.Proofs.Ytdebokambldbbaa.LawP
open Go.RowKit Go.Shelf Go.Proofs.Ytdebokambldbbaa.Mem Go.Proofs.Ytdebokambldbbaa.Heap Go.Proofs.Ytdebokambldbbaa.Pile Go.Proofs.Ytdebokambldbbaa.PileI
set_option linter.unusedVariables false
set_option linter.unusedSectionVars false
set_option maxRecDepth 4000
set_option maxHeartbeats 3200000

theorem peek_any {W : World} {B p nx : Nat} {v fv : Value} {es : List (Itm × Nat)} (h : PlK thI W B p v fv es nx) (hpos : 0 < es.length) :
    Calls Try.prog 16 #[.pointer (some ⟨p, 0, none⟩)] W fun e W' => e = .returned (.tuple #[.agg #[.int .i64 (nth es 0).1.1, .int .i64 (nth es 0).1.2], .bool true]) ∧ Below W.heap.size W W' := by
  obtain ⟨g, cap, cur, rfl, hBg, hb, ht, hc, hm, hlen, hgp⟩ := h.row hpos
  obtain ⟨x, hx⟩ : ∃ x, x = (nth es 0).1 := ⟨_, rfl⟩
  have e1 := ent_at ht hpos
  rw [Nat.zero_mul] at e1
  have e2 : ∀ j u, (ec thI (nth es 0))[j]? = some u → cur[j]? = some u := fun j u hu => by
    rw [← e1, List.drop_zero, List.getElem?_take] at hu
    split at hu
    · exact hu
    · cases hu
  have c1 := e2 0 (.int .i64 x.1) (by rw [hx]; rfl)
  have c2 := e2 1 (.int .i64 x.2) (by rw [hx]; rfl)
  have d1 : W.cell? ⟨g, 0, none⟩ = some (.int .i64 x.1) := by rw [hb.cell]; exact c1
  have d2 : W.cell? ⟨g, 1, none⟩ = some (.int .i64 x.2) := by rw [hb.cell]; exact c2
  have d3 : W.cell? ⟨p, 1, none⟩ = some (.slice (some ⟨g, 0, none⟩) es.length cap) := h.blk.cell 1
  rw [← hx]
  obtain ⟨n, hn⟩ : ∃ n, n = es.length := ⟨_, rfl⟩
  have hL : ∀ w, Below W.heap.size W w → Calls Try.prog 19 #[.pointer (some ⟨p, 0, none⟩)] w fun e W' => e = .returned (.int .i64 n) ∧ Below w.heap.size w W' := fun w hw => by
    rw [hn]; exact len_any w (h.grow hw)
  have hn0 : ¬ ((n : Int) = 0) := by omega
  have hn1 : (0 : Int) < (n : Int) := by omega
  rw [← hn] at d3
  have D := Lib.hid (And.intro d1 (And.intro d2 (And.intro d3 hL)))
  clear d1 d2 d3 hL c1 c2 e1 e2 hx ht hc hm hlen hgp hb hBg h hpos hn
  obtain ⟨x1, x2⟩ := x
  go_enter Try.func16, Try.ntmps16
  go_wp2_with (first
    | ((with_reducible show wpList _ _ _ (⟨some 2, _, _, _, _, _⟩ :: _) _ _); go_must (refine wpList_allocT (o := ⟨some 2, _, _, _, _, _⟩) rfl rfl _ rfl ?_); intro w1 hB1 hb1 hz1)
    | ((with_reducible show wpList _ _ _ (⟨some 4, _, _, _, _, _⟩ :: _) _ _); go_must (refine wpList_allocT (o := ⟨some 4, _, _, _, _, _⟩) rfl rfl _ rfl ?_); intro w2 hB2 hb2 hz2; have hb12 := gt hb1 hb2)
    | (go_at_call 19; refine (D.out.2.2.2 _ hb12).mono ?_; rintro e w3 ⟨rfl, hb3⟩
       have d1 := cell_grow D.out.1 (gt hb12 hb3)
       have d2 := cell_grow D.out.2.1 (gt hb12 hb3)
       have d3 := cell_grow D.out.2.2.1 (gt hb12 hb3))
    | ((with_reducible show wpList _ _ _ (⟨none, .store 35 (.tmp 2) _, _, _, _, _⟩ :: _) _ _); go_must (refine wpList_storeB (op := ⟨none, .store 35 (.tmp 2) _, _, _, _, _⟩) AT rfl (.tmp 2) (.tmp 15) rfl W.heap.size 0 (by go_simp) [.int .i64 x1, .int .i64 x2] (by go_simp) rfl _ _ (hB1.grow (gt hb2 hb3)) (Nat.le_refl 2) (by intro u hu; simp at hu; rcases hu with rfl | rfl <;> rfl) ?_); intro w4 hB4 hg4 hz4))
  replace hB4 : Blk w4 W.heap.size 35 [.int .i64 x1, .int .i64 x2] := hB4
  have hr := run_loadB (o := 0) AT hB4 [.int .i64 x1, .int .i64 x2] rfl rfl
  refine bodyPost_ret (v := .tuple #[.agg ([.int .i64 x1, .int .i64 x2] : List Value).toArray, .bool true]) (results_two Try.results16 _ rfl (by simpa [Instr.loadAt, Instr.sureAddr] using hr)) rfl ?_
  exact ⟨rfl, (gt hb12 hb3).grown hg4 (Nat.le_trans hb12.size hb3.size) (fun k hk => by cases hk; exact Nat.le_refl _)⟩
end Go.Proofs.Ytdebokambldbbaa.LawP
