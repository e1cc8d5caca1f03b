/- A nil pile: what each call of it answers; drained on it; awake. -/
import Derived.Test.YtdebokambldbbaaOpenItems
namespace Go.Proofs.Ytdebokambldbbaa.LawP
open Go.RowKit Go.Shelf Go.Proofs.Ytdebokambldbbaa.Mem Go.Proofs.Ytdebokambldbbaa.Heap Go.Proofs.Ytdebokambldbbaa.Pile Go.Proofs.Ytdebokambldbbaa.PileI Go.Proofs.Ytdebokambldbbaa.Drain
attribute [local go_sem] Oper.semAt_some
set_option linter.unusedVariables false
set_option linter.unusedSectionVars false
set_option maxRecDepth 100000
set_option maxHeartbeats 3200000

theorem len_nil (W : World) : Calls Try.prog 19 #[.pointer none] W fun e W' => e = .returned (.int .i64 0) ∧ Below W.heap.size W W' := by
  go_enter Try.func19, Try.ntmps19
  go_wp2
  go_ret
  exact ⟨rfl, gr W⟩
theorem pop_nil (W : World) : Calls Try.prog 17 #[.pointer none] W fun e W' => e = .returned (.tuple #[.agg #[.int .i64 0, .int .i64 0], .bool false]) ∧ Below W.heap.size W W' :=
  pop_none W _ fun W1 hb => len_nil W1
theorem push_nil (W : World) (x1 x2 : Int) : Calls Try.prog 14 #[.pointer none, .agg #[.int .i64 x1, .int .i64 x2]] W fun e W' => (∃ u, e = .returned u) ∧ Below W.heap.size W W' := by
  go_enter Try.func14, Try.ntmps14
  go_wp2
  refine bodyPost_ret (results_none rfl _ _ _) rfl ?_
  exact ⟨⟨_, rfl⟩, ga (gr W) _⟩
theorem peek_nil (W : World) : Calls Try.prog 16 #[.pointer none] W fun e W' => e = .returned (.tuple #[.agg #[.int .i64 0, .int .i64 0], .bool false]) ∧ Below W.heap.size W W' := by
  go_enter Try.func16, Try.ntmps16
  go_wp2_with (first
    | ((with_reducible show wpList _ _ _ (⟨some 2, _, _, _, _, _⟩ :: _) _ _); go_must (refine wpList_allocT (o := ⟨some 2, _, _, _, _, _⟩) rfl rfl _ rfl ?_); intro w1 hB1 hb1 hz1)
    | ((with_reducible show wpList _ _ _ (⟨some 4, _, _, _, _, _⟩ :: _) _ _); go_must (refine wpList_allocT (o := ⟨some 4, _, _, _, _, _⟩) rfl rfl _ rfl ?_); intro w2 hB2 hb2 hz2; have hb12 := gt hb1 hb2)
    | (go_at_call 19; refine (len_nil _).mono ?_; rintro e w3 ⟨rfl, hb3⟩)
    | ((with_reducible show wpList _ _ _ (⟨some 8, _, _, _, _, _⟩ :: _) _ _); go_must (refine wpList_loadB (op := ⟨some 8, _, _, _, _, _⟩) AT rfl (.tmp 4) rfl w1.heap.size 0 (by go_simp) _ _ (hB2.grow hb3) [.int .i64 0, .int .i64 0] rfl rfl ?_))
    | ((with_reducible show wpList _ _ _ (⟨none, .store 35 (.tmp 2) _, _, _, _, _⟩ :: _) _ _); go_must (refine wpList_storeB (op := ⟨none, .store 35 (.tmp 2) _, _, _, _, _⟩) AT rfl (.tmp 2) (.tmp 8) rfl W.heap.size 0 (by go_simp) [.int .i64 0, .int .i64 0] (by go_simp) rfl _ _ (hB1.grow (gt hb2 hb3)) (by decide) (by decide) ?_); intro w4 hB4 hg4 hz4))
  rw [splice_all _ _ rfl] at hB4
  have c0 : ∀ (i : Nat) (v : Value), ([.int .i64 0, .int .i64 0] : List Value)[i]? = some v → w4.cell? ⟨W.heap.size, i, none⟩ = some v := fun i v h => by rw [hB4.cell]; exact h
  have hr := run_loadB (o := 0) AT hB4 [.int .i64 0, .int .i64 0] rfl rfl
  refine bodyPost_ret (v := .tuple #[.agg ([.int .i64 0, .int .i64 0] : List Value).toArray, .bool false]) (results_two Try.results16 _ rfl (by simpa [Instr.loadAt, Instr.sureAddr] using hr)) rfl ?_
  exact ⟨rfl, (gt hb12 hb3).grown hg4 (Nat.le_trans hb12.size hb3.size) (fun k hk => by cases hk; exact Nat.le_refl _)⟩
theorem boxed_below {W W' : World} {b : Nat} {T : TypeId} {v : Value} (hB : Boxed W b T v) (hb : Below W.heap.size W W') : Boxed W' b T v := (hb.block b hB.lt).trans hB
theorem drained_nil (W : World) (b : Nat) (x1 x2 : Int) (hbx : Boxed W b 30 (.pointer none)) :
    Calls Try.prog 22 #[.pointer none, .func (.func 47) #[] #[.pointer (some ⟨b, 0, none⟩)], .int .i64 1, .int .i64 0, .bool false, .agg #[.int .i64 x1, .int .i64 x2]] W fun e W' => e = .returned (.slice none 0 0) ∧ Below W.heap.size W W' := by
  have hq : ∀ w, (binOp BinOp.eql 44 (.func (.func 47) #[] #[.pointer (some ⟨b, 0, none⟩)]) .nilFunc).run Try.prog w = .ok (.bool false) w := fun w => rfl
  have HB := Lib.hid hbx
  clear hbx
  refine (callsIn_wide (n := 4)).1 ?_
  refine callsIn_of_wp_marks Try.func22 rfl trivial ?_ rfl
  simp only [Try.ntmps22, List.size_toArray, List.length_cons, List.length_nil, Nat.reduceAdd, Nat.reduceSub, Array.replicate_succ, Array.replicate_zero, List.push_toArray, List.append_toArray, List.nil_append, List.cons_append]
  gi_wp2
  obtain ⟨W6, h6⟩ : ∃ w, w = (((((W.alloc (.cells #[.pointer none] 30)).alloc (.cells #[.int .i64 1] 3)).alloc (.cells #[.int .i64 0] 3)).alloc (.cells #[.bool false] 4)).alloc (.cells #[.int .i64 x1, .int .i64 x2] 35)).alloc (.cells #[.slice none 0 0] 32) := ⟨_, rfl⟩
  rw [← h6]
  have hb6 : Below W.heap.size W W6 := by rw [h6]; exact ga (ga (ga (ga (ga (ga (gr W) _) _) _) _) _) _
  obtain ⟨g, hg⟩ : ∃ g, g = W.heap.size + 1 + 1 + 1 + 1 + 1 := ⟨_, rfl⟩
  have hB6 : Boxed W6 b 30 (.pointer none) := boxed_below HB.out hb6
  have hg6 : Boxed W6 g 32 (.slice none 0 0) := by
    have hz : g = (((((W.alloc (.cells #[.pointer none] 30)).alloc (.cells #[.int .i64 1] 3)).alloc (.cells #[.int .i64 0] 3)).alloc (.cells #[.bool false] 4)).alloc (.cells #[.int .i64 x1, .int .i64 x2] 35)).heap.size := by
      rw [hg]
      simp only [World.size_alloc]
    rw [h6, hz]
    exact Boxed.new _ _ _
  simp only [← hg]
  have S6 := Lib.hid (And.intro hB6 (And.intro hg6 hb6))
  clear h6 hB6 hg6 hb6 HB hg hq
  have hW6 := S6.out.2.2.size
  have hOwn : OwnFrom W6.heap.size fun (_ : Unit) W' => Boxed W' b 30 (.pointer none) ∧ Boxed W' g 32 (.slice none 0 0) ∧ Below W.heap.size W W' := fun s W1 W2 row hs hg hr =>
    ⟨boxed_turned hs.1 hg (fun r e => (hr r e).2), boxed_turned hs.2.1 hg (fun r e => (hr r e).2), hs.2.2.grown hg hs.2.2.size (fun k e => Nat.le_trans hW6 (hr k e).1)⟩
  refine wpIn_range_drain (gf := 47) (lb := #[.pointer (some ⟨b, 0, none⟩)]) rfl (enters_of Try.func47 (by kernel_rfl) rfl) (drain_seq (th := thI) b (.pointer none)) rfl
    (fun _ : Unit => 0) _ _ (fun _ _ _ => False) (fun _ _ _ => False) hOwn (fun _ _ _ _ _ hs _ _ => hs) hOwn (fun _ _ _ _ _ hs _ _ => hs)
    (fun s W' hs => hs.1) (fun s W' hs => (pop_nil W').mono fun e W2 ⟨he, hb⟩ => ⟨keepsOthers_below hb, .inl ⟨he, boxed_below hs.1 hb, boxed_below hs.2.1 hb, hs.2.2.trans (hb.mono hs.2.2.size)⟩⟩) () S6.out
    (fun _ _ _ => True) (fun x a' => fun s W1 W2 row _ _ _ => trivial) ?assign ?body ?done ?stop
  case assign => exact fun _ _ _ _ _ h => h.elim
  case body => exact fun _ _ _ _ _ h => h.elim
  case stop => exact fun _ _ _ _ _ hs => hs.elim
  case done =>
    rintro Dd s W2 hDd ⟨h1, h2, h3⟩ hK
    have cu := h2.cell
    have X1 := Lib.hid (And.intro h1 (And.intro h2 h3))
    clear h1 h2 h3
    gi_wp2
    refine ⟨by simp, .inl ⟨_, _, rfl, run_takeDeferred hK, ?_⟩⟩
    refine ⟨_, by simp [results, Try.results22, go_sem]; rfl, ?_⟩
    exact ⟨rfl, X1.out.2.2.trans (belowK_b (w := W6) hW6 W2 Dd _ _ hDd hK rfl rfl)⟩
theorem less_key (W : World) : Less Try.prog W.heap.size W (vl thI) (fun _ => True) (.func (.func 28) #[] #[]) ltK := by
  rcases fv_less W (fun _ => True) with ⟨h, _⟩ | ⟨_, h⟩
  · cases h
  · exact h
theorem pop_twice : nth (Heap.pushAll ltK [] 0 [(2, 1), (1, 2)]) 0 = ((1, 2), 1) := by decide +kernel
theorem awake_any (W : World) : Calls Try.prog 10 #[] W fun e W' => e = .returned (.bool true) ∧ Below W.heap.size W W' := by
  go_enter Try.func10, Try.ntmps10
  go_wp2_with (first
    | (go_at_call 25; go_must (refine (new_any (th := thI) W _ 28 #[] rfl).mono ?_); rintro e w1 ⟨rfl, hP1, hb1⟩)
    | (go_at_call 15; (with_reducible show Calls _ _ #[.int .i64 2, .int .i64 1] _ _); go_must (refine (it_any 2 1 _).mono ?_); rintro e w2 ⟨rfl, hb2⟩; unfold Itm.val
       have cP := push_next (l := [(2, 1), (1, 2)]) (k := 0) hP1 (less_key W) hb1 (Nat.le_refl _) (by decide) (by decide) w2 hb2
       have C1 := Lib.hid cP; clear cP)
    | (go_at_call 14; (with_reducible show Calls _ _ #[_, .agg #[.int .i64 2, .int .i64 1]] _ _); go_must (refine C1.out.mono ?_); rintro e w3 ⟨⟨u3, rfl⟩, v3, hP3, hb3⟩)
    | (go_at_call 15; (with_reducible show Calls _ _ #[.int .i64 1, .int .i64 2] _ _); go_must (refine (it_any 1 2 _).mono ?_); rintro e w4 ⟨rfl, hb4⟩; unfold Itm.val
       have cP := push_next (l := [(2, 1), (1, 2)]) (k := 1) hP3 (less_key W) hb3 (Nat.le_refl _) (by decide) (by decide) w4 hb4
       have C2 := Lib.hid cP; clear cP)
    | (go_at_call 14; (with_reducible show Calls _ _ #[_, .agg #[.int .i64 1, .int .i64 2]] _ _); go_must (refine C2.out.mono ?_); rintro e w5 ⟨⟨u5, rfl⟩, v5, hP5, hb5⟩
       have cQ := pop_any w5 hP5 (less_key W) hb5 hb5.size (Nat.le_refl _) (fun _ _ => trivial) (by rw [pushAll_len]; decide) (by rw [pushAll_len]; decide)
       have C3 := Lib.hid cQ; clear cQ)
    | (go_at_call 17; go_must (refine C3.out.mono ?_); rintro e w6 ⟨rfl, v6, hP6, hg6, hv6⟩; rw [show nth (Heap.pushAll ltK [] 0 (List.take (1 + 1) [(2, 1), (1, 2)])) 0 = ((1, 2), 1) from pop_twice]; unfold vl thI Itm.cells))
  obtain ⟨w7, hw7⟩ : ∃ w, w = w6.alloc (.cells #[.int .i64 1, .int .i64 2] 35) := ⟨_, rfl⟩
  rw [← hw7]
  have hB7 : Blk w7 w6.heap.size 35 [.int .i64 1, .int .i64 2] := by rw [hw7]; exact Blk.new w6 _ [_, _]
  have hb7 : Below w6.heap.size w6 w7 := by rw [hw7]; exact ga (gr w6) _
  have HP7 := Lib.hid (hP6.grow hb7)
  have hb6 : Below W.heap.size W w6 := hg6.low hb5 hb5.size (fun k hk => by cases hk; exact Nat.le_refl _) (fun k hk => (hP5.own.lt k hk).1)
  have HB := Lib.hid (hb6.trans (hb7.mono hb6.size))
  clear hw7 hb7 hb6 hP6 hg6 hv6 C3 C2 C1 hP5 hb5 hP3 hb3 hP1 hb1 hb2 hb4
  try simp only [Act.put, List.setIfInBounds_toArray, List.set_cons_succ, List.set_cons_zero]
  refine wp_region_qb (by kernel_rfl) (by kernel_rfl) ?_
  refine wq_val (o := ⟨some 18, _, _, _, _, _⟩) (v := .bool true) rfl (fun w' hC => by go_simp) ?_
  simp only [Act.put, List.setIfInBounds_toArray, List.set_cons_succ, List.set_cons_zero]
  refine wq_val (o := ⟨some 19, _, _, _, _, _⟩) (v := .bool true) rfl (fun w' hC => by go_simp) ?_
  simp only [Act.put, List.setIfInBounds_toArray, List.set_cons_succ, List.set_cons_zero]
  refine wq_loadB (o := ⟨some 20, _, _, _, _, _⟩) AT rfl _ rfl w6.heap.size 0 rfl _ _ (fun w' hC => From.blk hC hB7) [.int .i64 1, .int .i64 2] rfl rfl ?_
  simp only [Act.put, List.setIfInBounds_toArray, List.set_cons_succ, List.set_cons_zero]
  refine wq_call (f := 15) (args := #[.int .i64 1, .int .i64 2]) (v := .agg #[.int .i64 1, .int .i64 2]) rfl (fun w' _ => by go_simp) (fun w' hC => ?_) ?_
  · exact it_any 1 2 w'
  simp only [Act.put, List.setIfInBounds_toArray, List.set_cons_succ, List.set_cons_zero]
  refine wq_val (o := ⟨some 22, _, _, _, _, _⟩) (v := .bool true) rfl (fun w' hC => by go_simp) ?_
  simp only [Act.put, List.setIfInBounds_toArray, List.set_cons_succ, List.set_cons_zero]
  refine wq_val (o := ⟨some 23, _, _, _, _, _⟩) (v := .bool true) rfl (fun w' hC => by go_simp) ?_
  simp only [Act.put, List.setIfInBounds_toArray, List.set_cons_succ, List.set_cons_zero]
  refine wq_val (o := ⟨some 24, _, _, _, _, _⟩) (v := .bool true) rfl (fun w' hC => by go_simp) ?_
  simp only [Act.put, List.setIfInBounds_toArray, List.set_cons_succ, List.set_cons_zero]
  refine wq_val (o := ⟨some 25, _, _, _, _, _⟩) (v := .pointer (some ⟨W.heap.size, 0, none⟩)) rfl (fun w' hC => by go_simp) ?_
  simp only [Act.put, List.setIfInBounds_toArray, List.set_cons_succ, List.set_cons_zero]
  refine wq_call (f := 19) (args := #[.pointer (some ⟨W.heap.size, 0, none⟩)]) (v := .int .i64 1) rfl (fun w' _ => by go_simp) (fun w' hC => ?_) ?_
  · refine (len_any (th := thI) w' (HP7.out.grow hC)).mono ?_
    rintro e W' ⟨rfl, hb⟩
    exact ⟨by rw [pop_len, pushAll_len]; rfl, hb⟩
  simp only [Act.put, List.setIfInBounds_toArray, List.set_cons_succ, List.set_cons_zero]
  refine wq_val (o := ⟨some 27, _, _, _, _, _⟩) (v := .bool true) rfl (fun w' hC => by go_simp) ?_
  simp only [Act.put, List.setIfInBounds_toArray, List.set_cons_succ, List.set_cons_zero]
  refine wq_val (o := ⟨some 28, _, _, _, _, _⟩) (v := .bool true) rfl (fun w' hC => by go_simp) ?_
  simp only [Act.put, List.setIfInBounds_toArray, List.set_cons_succ, List.set_cons_zero]
  refine wq_val (o := ⟨some 0, _, _, _, _, _⟩) (v := .bool true) rfl (fun w' hC => by go_simp) ?_
  simp only [Act.put, List.setIfInBounds_toArray, List.set_cons_succ, List.set_cons_zero]
  refine wpQuiet_nil ?_
  intro w8 hC8
  go_wp2
  go_ret
  exact ⟨rfl, HB.out.trans (hC8.mono HB.out.size)⟩
end Go.Proofs.Ytdebokambldbbaa.LawP
