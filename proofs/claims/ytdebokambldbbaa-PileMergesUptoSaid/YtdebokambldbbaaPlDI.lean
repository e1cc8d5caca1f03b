/- pile over I: Pop, Peek. -/
import Derived.Test.YtdebokambldbbaaPlCI
namespace Go.Proofs.Ytdebokambldbbaa.PileI
open Go.RowKit Go.Proofs.Ytdebokambldbbaa.Mem Go.Proofs.Ytdebokambldbbaa.Heap Go.Proofs.Ytdebokambldbbaa.Pile Go.Proofs.Ytdebokambldbbaa.Float
set_option linter.unusedVariables false
set_option linter.unusedSectionVars false
set_option maxRecDepth 4000
set_option maxHeartbeats 3200000

/-- the zero thing -/
def zv : Value := .agg ([.int .i64 0, .int .i64 0] : List Value).toArray
section
variable {β : Type} [Inhabited β] {th : Th β 2} {B p : Nat} {v fv : Value} {es : List (β × Nat)} {nx : Nat}
theorem loadVT {W : World} {g o : Nat} {T : TypeId} {cs : List Value} {b : β} (hB : Blk W g T cs) (hv : (cs.drop o).take 2 = th.cells b) : (loadVar 35 ⟨g, o, none⟩).run Try.prog W = .ok (vl th b) W := by
  have := loadT (th := th) hB hv
  simpa [Instr.loadAt, Instr.sureAddr] using this
theorem pop_none (W : World) (pv : Value) (hLen : ∀ W1, Below W.heap.size W W1 → Calls Try.prog 19 #[pv] W1 fun e W' => e = .returned (.int .i64 0) ∧ Below W1.heap.size W1 W') :
    Calls Try.prog 17 #[pv] W fun e W' => e = .returned (.tuple #[zv, .bool false]) ∧ Below W.heap.size W W' := by
  have HLn := Lib.hid hLen
  clear hLen
  unfold zv
  go_enter Try.func17, Try.ntmps17
  go_wp2_with (first
    | ((with_reducible show wpList _ _ _ (⟨some 2, _, _, _, _, _⟩ :: _) _ _); go_must (refine wpList_allocT (o := ⟨some 2, _, _, _, _, _⟩) rfl rfl _ rfl ?_); intro w1 hB1 hb1 hz1)
    | ((with_reducible show wpList _ _ _ (⟨some 4, _, _, _, _, _⟩ :: _) _ _); go_must (refine wpList_allocT (o := ⟨some 4, _, _, _, _, _⟩) rfl rfl _ rfl ?_); intro w2 hB2 hb2 hz2; have hb12 := gt hb1 hb2)
    | (go_at_call 19; refine (HLn.out _ hb12).mono ?_; rintro e w3 ⟨rfl, hb3⟩)
    | ((with_reducible show wpList _ _ _ (⟨some 10, _, _, _, _, _⟩ :: _) _ _); go_must (refine wpList_loadB (op := ⟨some 10, _, _, _, _, _⟩) AT rfl (.tmp 4) rfl w1.heap.size 0 (by go_simp) _ _ (hB2.grow hb3) [.int .i64 0, .int .i64 0] rfl rfl ?_))
    | ((with_reducible show wpList _ _ _ (⟨none, .store 35 (.tmp 2) _, _, _, _, _⟩ :: _) _ _); go_must (refine wpList_storeB (op := ⟨none, .store 35 (.tmp 2) _, _, _, _, _⟩) AT rfl (.tmp 2) (.tmp 10) rfl W.heap.size 0 (by go_simp) [.int .i64 0, .int .i64 0] (by go_simp) rfl _ _ (hB1.grow (gt hb2 hb3)) (by decide) (by decide) ?_); intro w4 hB4 hg4 hz4))
  rw [splice_all _ _ rfl] at hB4
  have c0 : ∀ (i : Nat) (v : Value), ([.int .i64 0, .int .i64 0] : List Value)[i]? = some v → w4.cell? ⟨W.heap.size, i, none⟩ = some v := fun i v h => by rw [hB4.cell]; exact h
  have hr := run_loadB (o := 0) AT hB4 [.int .i64 0, .int .i64 0] rfl rfl
  refine bodyPost_ret (v := .tuple #[.agg ([.int .i64 0, .int .i64 0] : List Value).toArray, .bool false]) (results_two Try.results17 _ rfl (by simpa [Instr.loadAt, Instr.sureAddr] using hr)) rfl ?_
  exact ⟨rfl, (gt hb12 hb3).grown hg4 (Nat.le_trans hb12.size hb3.size) (fun k hk => by cases hk; exact Nat.le_refl _)⟩
theorem pop_any {w0 : World} {D : β → Prop} {lt : β → β → Bool} (W : World) (h : PlK th W B p v fv es nx) (hL : Less Try.prog B w0 (vl th) D fv lt) (hw : Below B w0 W) (hB : B ≤ W.heap.size) (hBp : B ≤ p) (hD : ∀ e ∈ es, D e.1) (hpos : 0 < es.length) (hn : es.length ≤ 1152921504606846976) :
    Calls Try.prog 17 #[.pointer (some ⟨p, 0, none⟩)] W fun e W' => e = .returned (.tuple #[vl th (nth es 0).1, .bool true]) ∧ ∃ v', PlK th W' B p v' fv (Heap.pop (Heap.ahead lt) es) nx ∧ Grown2 W W' (some p) v.ownBlock ∧ v'.ownBlock = v.ownBlock := by
  obtain ⟨g, cap, cur, rfl, hBg, hb, ht, hc, hm, hlen, hgp⟩ := h.row hpos
  obtain ⟨m, hmm⟩ : ∃ m, es.length = m + 1 := ⟨es.length - 1, by omega⟩
  obtain ⟨n, hn0⟩ : ∃ n, n = es.length := ⟨_, rfl⟩
  obtain ⟨y, hy⟩ : ∃ y, y = (nth es 0).1 := ⟨_, rfl⟩
  have ey : (cur.drop 0).take 2 = th.cells y := by
    have h1 := ent_at ht hpos
    rw [Nat.zero_mul] at h1
    have h2 := congrArg (List.take 2) h1
    rw [List.take_take] at h2
    rw [hy, ← thing_of (th := th) (nth es 0), List.drop_zero (l := ec th (nth es 0)), ← h2]
    rfl
  rw [← hy]
  have q1 : wrap64 ((n : Int) - 1) = (m : Int) := by rw [hn0, wrap_in (by omega) (by omega)]; omega
  have q2 : (n : Int) - 1 = (m : Int) := by omega
  have q3 : (0 : Int) < (n : Int) := by omega
  have q4 : ¬ (n : Int) = 0 := by omega
  have q5 : ¬ n = 0 := by omega
  have q6 : IntKind.i64.wrap (m : Int) = (m : Int) := by simp [IntKind.wrap, IntKind.bits, IntKind.signed]; omega
  have hlenC : ∀ W1, Below W.heap.size W W1 → Calls Try.prog 19 #[.pointer (some ⟨p, 0, none⟩)] W1 fun e W' => e = .returned (.int .i64 n) ∧ Below W1.heap.size W1 W' := fun W1 hb1 => by rw [hn0]; exact len_any W1 (h.grow hb1)
  have HLn := Lib.hid hlenC
  have hP0 : Blk W p 77 [fv, .slice (some ⟨g, 0, none⟩) n cap, .int .u64 nx] := by rw [hn0]; exact h.blk
  have H0 := Lib.hid (And.intro h (And.intro hw (And.intro hB (And.intro hBp (And.intro hD (And.intro hpos (And.intro hn (And.intro hn0 (And.intro hmm (And.intro ht (And.intro hlen hBg)))))))))))
  have HL := Lib.hid hL
  clear h hw hB hBp hD hpos hn hn0 hmm ht hlen hBg hlenC hL hy hc hm
  go_enter Try.func17, Try.ntmps17
  go_wp2_with (first
    | ((with_reducible show wpList _ _ _ (⟨some 2, _, _, _, _, _⟩ :: _) _ _); go_must (refine wpList_allocT (o := ⟨some 2, _, _, _, _, _⟩) rfl rfl _ rfl ?_); intro wa hB2 hba hza)
    | ((with_reducible show wpList _ _ _ (⟨some 4, _, _, _, _, _⟩ :: _) _ _); go_must (refine wpList_allocT (o := ⟨some 4, _, _, _, _, _⟩) rfl rfl _ rfl ?_); intro wb hB4 hbb hzb; have hb12 := gt hba hbb)
    | (go_at_call 19; refine (HLn.out _ hb12).mono ?_; rintro e w1 ⟨rfl, hb3⟩; have hb1 := gt hb12 hb3))
  replace hB2 := hB2.grow (gt hbb hb3)
  have hW1 := hb1.size
  have cW : ∀ w', Below w1.heap.size w1 w' → w'.cell? ⟨p, 1, none⟩ = some (.slice (some ⟨g, 0, none⟩) n cap) := fun w' hb' => (hP0.grow (gt hb1 hb')).cell 1
  have hbW : ∀ w', Below w1.heap.size w1 w' → Blk w' g 79 cur := fun w' hb' => hb.grow (gt hb1 hb')
  obtain ⟨R, hR⟩ : ∃ R, R = TurnsB w1.heap.size 35 [.int .i64 0, .int .i64 0] (th.cells y) := ⟨_, rfl⟩
  have hRb : ∀ {a b : World}, Below a.heap.size a b → R a b := fun h => by rw [hR]; exact Turns.of_below h
  have hTu : ∀ {a b : World}, R a b → TurnsB w1.heap.size 35 [.int .i64 0, .int .i64 0] (th.cells y) a b := fun h => by rw [hR] at h; exact h
  have hRr : ∀ a : World, R a a := fun a => hRb (gr a)
  have hRt : ∀ a b c, R a b → R b c → R a c := by rw [hR]; exact fun _ _ _ => Turns.trans
  have hRs : ∀ a b, R a b → a.heap.size ≤ b.heap.size := by rw [hR]; exact fun _ _ h => h.2.2.2.1
  have hRd : ∀ a : World, R a a.drew := fun a => hRb (gr a).drew
  have hlow : ∀ {w'}, R w1 w' → Below w1.heap.size w1 w' := fun h => by rw [hR] at h; exact h.below (Nat.le_refl _)
  try simp only [Act.put, List.setIfInBounds_toArray, List.set_cons_succ, List.set_cons_zero]
  refine wp_region_rrT (R) (hRt) (hRs) (hRd) 15
    [.eq 11 (.pointer (some ⟨p, 0, none⟩)), .eq 12 (.pointer (some ⟨p, 0, none⟩)), .eq 13 (.pointer (some ⟨p, 1, none⟩)), .eq 14 (.slice (some ⟨g, 0, none⟩) n cap), .eq 15 (.pointer (some ⟨g, 0, none⟩)), .eq 16 (.pointer (some ⟨g, 0, none⟩)), .eq 17 (vl th y), .eq 18 (.pointer (some ⟨p, 0, none⟩)), .eq 19 (.pointer (some ⟨p, 0, none⟩)), .eq 20 (.pointer (some ⟨p, 1, none⟩)), .eq 21 (.slice (some ⟨g, 0, none⟩) n cap), .eq 22 (.int .i64 n), .eq 23 (.int .i64 m), .new 5 (OrPtr w1.heap.size 35 [.int .i64 0, .int .i64 0] (th.cells y)), .one 5 (NewPtr w1.heap.size 35 (th.cells y))]
    (by kernel_rfl) (by kernel_rfl) (by kernel_rfl) (by kernel_rfl) ?hsta ?hoba ?hfina
  case hsta =>
    intro s hs
    simp only [List.mem_cons, List.not_mem_nil, or_false] at hs
    rcases hs with rfl | rfl | rfl | rfl | rfl | rfl | rfl | rfl | rfl | rfl | rfl | rfl | rfl | rfl | rfl
    · exact fun _ _ _ h _ => h
    · exact fun _ _ _ h _ => h
    · exact fun _ _ _ h _ => h
    · exact fun _ _ _ h _ => h
    · exact fun _ _ _ h _ => h
    · exact fun _ _ _ h _ => h
    · exact fun _ _ _ h _ => h
    · exact fun _ _ _ h _ => h
    · exact fun _ _ _ h _ => h
    · exact fun _ _ _ h _ => h
    · exact fun _ _ _ h _ => h
    · exact fun _ _ _ h _ => h
    · exact fun _ _ _ h _ => h
    · rintro vs w1 w2 ⟨v, rfl, h⟩ hb
      exact ⟨_, rfl, (fun h hb => OrPtr.turns h (hTu hb)) h hb⟩
    · rintro vs w1 w2 ⟨v, rfl, h⟩ hb
      exact ⟨_, rfl, (fun h hb => NewPtr.turns h (hTu hb)) h hb⟩
  case hoba =>
    simp only [List.take_succ_cons, List.take_zero]
    refine rrs_cons ?_ (rrs_cons ?_ (rrs_cons ?_ (rrs_cons ?_ (rrs_cons ?_ (rrs_cons ?_ (rrs_cons ?_ (rrs_cons ?_ (rrs_cons ?_ (rrs_cons ?_ (rrs_cons ?_ (rrs_cons ?_ (rrs_cons ?_ (rrs_cons ?_ (rrs_cons ?_ rrs_nil))))))))))))))
    · refine rr_eq hRr (by decide) (by rfl) (by rfl) fun x w' A hg hp hA => ?_
      have e0 := hA 0
      simp [rgDsts] at e0
      go_simp
    · refine rr_eq hRr (by decide) (by rfl) (by rfl) fun x w' A hg hp hA => ?_
      have h11 := rg_pred_eq (d := 11) hp 0 rfl rfl rfl
      have e11 := (hA.at_ 11 rfl).trans h11
      go_simp
    · refine rr_eq hRr (by decide) (by rfl) (by rfl) fun x w' A hg hp hA => ?_
      have h12 := rg_pred_eq (d := 12) hp 0 rfl rfl rfl
      have e12 := (hA.at_ 12 rfl).trans h12
      go_simp
    · refine rr_eq hRr (by decide) (by rfl) (by rfl) fun x w' A hg hp hA => ?_
      have h13 := rg_pred_eq (d := 13) hp 0 rfl rfl rfl
      have e13 := (hA.at_ 13 rfl).trans h13
      have c1 := cW w' (hlow hg)
      go_simp
    · refine rr_eq hRr (by decide) (by rfl) (by rfl) fun x w' A hg hp hA => ?_
      have h14 := rg_pred_eq (d := 14) hp 0 rfl rfl rfl
      have e14 := (hA.at_ 14 rfl).trans h14
      go_simp
    · refine rr_eq hRr (by decide) (by rfl) (by rfl) fun x w' A hg hp hA => ?_
      have h15 := rg_pred_eq (d := 15) hp 0 rfl rfl rfl
      have e15 := (hA.at_ 15 rfl).trans h15
      go_simp
    · refine rr_val (by decide) (by rfl) fun x w' A hg hp hA => ?_
      have h16 := rg_pred_eq (d := 16) hp 0 rfl rfl rfl
      have e16 := (hA.at_ 16 rfl).trans h16
      have hr := loadT (th := th) (b := y) (hbW w' (hlow hg)) ey
      exact ⟨vl th y, w', by simp [execOp, Act.eval, e16, hr, Result.andThen], hRr _, by simp [rgUpd], by simp⟩
    · refine rr_eq hRr (by decide) (by rfl) (by rfl) fun x w' A hg hp hA => ?_
      have e0 := hA 0
      simp [rgDsts] at e0
      go_simp
    · refine rr_eq hRr (by decide) (by rfl) (by rfl) fun x w' A hg hp hA => ?_
      have h18 := rg_pred_eq (d := 18) hp 0 rfl rfl rfl
      have e18 := (hA.at_ 18 rfl).trans h18
      go_simp
    · refine rr_eq hRr (by decide) (by rfl) (by rfl) fun x w' A hg hp hA => ?_
      have h19 := rg_pred_eq (d := 19) hp 0 rfl rfl rfl
      have e19 := (hA.at_ 19 rfl).trans h19
      go_simp
    · refine rr_eq hRr (by decide) (by rfl) (by rfl) fun x w' A hg hp hA => ?_
      have h20 := rg_pred_eq (d := 20) hp 0 rfl rfl rfl
      have e20 := (hA.at_ 20 rfl).trans h20
      have c1 := cW w' (hlow hg)
      go_simp
    · refine rr_eq hRr (by decide) (by rfl) (by rfl) fun x w' A hg hp hA => ?_
      have h21 := rg_pred_eq (d := 21) hp 0 rfl rfl rfl
      have e21 := (hA.at_ 21 rfl).trans h21
      go_simp
    · refine rr_eq hRr (by decide) (by rfl) (by rfl) fun x w' A hg hp hA => ?_
      have h22 := rg_pred_eq (d := 22) hp 0 rfl rfl rfl
      have e22 := (hA.at_ 22 rfl).trans h22
      go_simp
    · refine rr_val (by decide) (by rfl) fun x w' A hg hp hA => ?_
      refine ⟨_, _, run_allocT rfl, hRb (ga (gr _) _), ?_, ?_⟩
      · exact ⟨_, rfl, _, by simp [rgUpd], (hlow hg).size, .inl (Blk.new w' _ _)⟩
      · simp [blockOf]
    · refine rr_wp (by decide) (by rfl) fun x w' A hg hp hA K' hK' => ?_
      have h5 := rg_pred_new (d := 5) hp 0 rfl rfl rfl
      have h17 := rg_pred_eq (d := 17) hp 1 rfl rfl rfl
      have h11 := rg_pred_eq (d := 11) hp 2 rfl rfl rfl
      have h12 := rg_pred_eq (d := 12) hp 3 rfl rfl rfl
      have h13 := rg_pred_eq (d := 13) hp 4 rfl rfl rfl
      have h14 := rg_pred_eq (d := 14) hp 5 rfl rfl rfl
      have h15 := rg_pred_eq (d := 15) hp 6 rfl rfl rfl
      have h16 := rg_pred_eq (d := 16) hp 7 rfl rfl rfl
      have e5 := hA.at_ 5 rfl
      have e17 := (hA.at_ 17 rfl).trans h17
      obtain ⟨b, cs, hv5, hb5, hB5, hl5, ho5⟩ := OrPtr.blk h5 (th.len y).symm
      rw [hv5] at e5
      obtain ⟨w'', hr, hB'', hg'', hz''⟩ := run_storeT (th := th) (b := y) hB5 (hl5.trans (th.len y))
      have hrun : ∀ o : Oper, o.op = .store 35 (.tmp 5) (.tmp 17) → (execOp A.eval o).run Try.prog w' = .ok .skip w'' := fun o ho => by simp [execOp, ho, Act.eval, e5, e17, hr, Result.andThen]
      unfold Oper.wp
      rw [hrun _ rfl]
      exact hK' undef w'' (by rw [hR]; exact Turns.store hb5 (ho5.elim (fun e => .inl (e ▸ hB5)) (fun e => .inr (e ▸ hB5))) hB'' hg'') ⟨_, rfl, b, by simpa [rgUpd] using hv5, hb5, hB''⟩ (by simp)
  case hfina =>
  intro x w2 hg hall hap
  simp only [RgAll, holds_eq, holds_new, holds_one, and_true] at hall
  obtain ⟨h11, h12, h13, h14, h15, h16, h17, h18, h19, h20, h21, h22, h23, _, ⟨b5, h5, l5, hB5⟩⟩ := hall
  simp only [rgDsts, List.take_succ_cons, List.take_zero, List.filterMap_cons, List.filterMap_nil, putMany, List.foldl_cons, List.foldl_nil, List.setIfInBounds_toArray, List.set_cons_succ, List.set_cons_zero, List.drop_succ_cons, List.drop_zero, h11, h12, h13, h14, h15, h16, h17, h18, h19, h20, h21, h22, h23, h5]
  clear h11 h12 h13 h14 h15 h16 h17 h18 h19 h20 h21 h22 h23 h5 hap
  replace hg := hlow hg
  clear hRb hTu hRr hRt hRs hRd hlow hR
  have hb2 : Below W.heap.size W w2 := gt hb1 hg
  have hP2 : PlK th w2 B p (.slice (some ⟨g, 0, none⟩) n cap) fv es nx := by have := H0.out.1.grow hb2; rw [H0.out.2.2.2.2.2.2.2.1]; exact this
  have hmm := H0.out.2.2.2.2.2.2.2.2.1
  have hnn := H0.out.2.2.2.2.2.2.2.1
  have cS : Calls Try.prog 45 #[.pointer (some ⟨p, 0, none⟩), .int .i64 0, .int .i64 m] w2 _ := swap_any w2 hP2 0 m (by omega) (by omega)
  have hls : (swp es 0 m).length = n := by rw [swp_len, hnn]
  have hDs : ∀ e ∈ (swp es 0 m).take m, D e.1 := fun e he => H0.out.2.2.2.2.1 e ((swp_perm (by omega) (by omega)).mem_iff.1 (List.mem_of_mem_take he))
  have HS := Lib.hid (And.intro hls hDs)
  have HP2 := Lib.hid hP2
  have X2 := Lib.hid (And.intro hb2 (And.intro hB5 (And.intro l5 (And.intro (hB2.grow hg) hW1))))
  have c11 : ∀ w3, PlK th w3 B p (.slice (some ⟨g, 0, none⟩) n cap) fv (swp es 0 m) nx → w3.cell? ⟨p, 1, none⟩ = some (.slice (some ⟨g, 0, none⟩) n cap) := fun w3 h3 => h3.blk.cell 1
  have CC := Lib.hid c11
  have hmn : (m : Int) < (n : Int) := by omega
  have hm0 : (0 : Int) ≤ (m : Int) := by omega
  have hml : (m : Int) ≤ (cap : Int) := by
    have := H0.out.1.own
    rcases this.2 with ⟨hn, _⟩ | ⟨_, _, _, hv, _, _, hc', _⟩
    · cases hn
    · injection hv with _ _ h3; subst h3; omega
  have HG := Lib.hid hb.lt
  clear hls hDs hP2 hb2 hb1 hg c11 cW hbW hmm hnn hB5 l5 hB2 hW1 hb hP0
  have CUT := Lib.hid (show ∀ (w3 w4 : World) (cur : List Value), PlK th w3 B p (.slice (some ⟨g, 0, none⟩) n cap) fv (swp es 0 m) nx → Blk w3 g 79 cur → Blk w4 g 79 (splice cur (m * (2 + 1)) [.int .i64 0, .int .i64 0, .int .u64 0]) → w3.grownBy w4 (some g) →
      PlK th (w4.setCell ⟨p, 1, none⟩ (.slice (some ⟨g, 0, none⟩) m cap)) B p (.slice (some ⟨g, 0, none⟩) m cap) fv ((swp es 0 m).take m) nx ∧ Grown2 w3 (w4.setCell ⟨p, 1, none⟩ (.slice (some ⟨g, 0, none⟩) m cap)) (some p) (some g) from fun w3 w4 cur h3 hb3 hb4 hg4 =>
        Pl.cutted (by rw [HS.out.1]; exact h3) (by rw [HS.out.1]; have := H0.out.2.2.2.2.2.2.2.1; have := H0.out.2.2.2.2.2.2.2.2.1; omega) hb3 rfl hb4 hg4)
  have DWN := Lib.hid (show ∀ (w3 w5 : World), w2.grownBy w3 (some g) → Grown2 w3 w5 (some p) (some g) → PlK th w5 B p (.slice (some ⟨g, 0, none⟩) m cap) fv ((swp es 0 m).take m) nx →
      Calls Try.prog 46 #[.pointer (some ⟨p, 0, none⟩), .int .i64 0] w5 fun e W' => (∃ u, e = .returned u) ∧ PlK th W' B p (.slice (some ⟨g, 0, none⟩) m cap) fv (Heap.down (Heap.ahead lt) ((swp es 0 m).take m) 0) nx ∧ w5.grownBy W' (some g) from fun w3 w5 hg3 hg5 h5 => by
        have hb2 := X2.out.1
        have hBg := H0.out.2.2.2.2.2.2.2.2.2.2.2
        have hB2 : B ≤ w2.heap.size := Nat.le_trans H0.out.2.2.1 hb2.size
        have hb3 : Below B w0 w3 := (H0.out.2.1.trans (hb2.mono H0.out.2.2.1)).grown hg3 hB2 (fun j hj => by cases hj; exact hBg)
        exact down_any w5 h5 HL.out (hg5.low hb3 (Nat.le_trans hB2 hg3.size) (fun k hk => by cases hk; exact H0.out.2.2.2.1) (fun k hk => by cases hk; exact hBg)) (Nat.le_trans hB2 (Nat.le_trans hg3.size hg5.size)) HS.out.2 0 (by omega) (by rw [List.length_take, HS.out.1]; have := H0.out.2.2.2.2.2.2.1; have := H0.out.2.2.2.2.2.2.2.1; omega))
  go_wp2_with (first
    | (go_at_call 45; refine cS.mono ?_; rintro e w3 ⟨⟨u, rfl⟩, hP3, hg3, hz3⟩; have c3 := CC.out w3 hP3; have f3 := hP3.blk.frozen 1; obtain ⟨hn3, cur3, hb3', hcl3, hnc3, hBg3⟩ := hP3.cur; have H3 := Lib.hid (And.intro hP3 (And.intro hg3 (And.intro hn3 (And.intro hcl3 hnc3)))); clear hP3 hg3 hz3 hn3 hcl3 hnc3 hBg3)
    | ((with_reducible show wpList _ _ _ (⟨none, .store 79 (.tmp 33) _, _, _, _, _⟩ :: _) _ _)
       go_must (refine wpList_storeB (op := ⟨none, .store 79 (.tmp 33) _, _, _, _, _⟩) AE rfl (.tmp 33) (.tmp 32) rfl g (m * (2 + 1)) (by go_simp) [.int .i64 0, .int .i64 0, .int .u64 0] (by go_simp) rfl _ _ hb3' (by have := H3.out.2.2.2.1; have := H3.out.2.2.2.2; have := H0.out.2.2.2.2.2.2.2.1; have := H0.out.2.2.2.2.2.2.2.2.1; simp only [List.length_cons, List.length_nil]; omega) (by decide) ?_)
       intro w4 hb4 hg4 hz4
       have hk := CUT.out _ _ _ H3.out.1 hb3' hb4 hg4
       have hB4p := H3.out.1.blk.grown hg4 (fun e => hgp (by injection e with e; exact e.symm))
       have c4 := hB4p.cell 1
       have f4 := hB4p.frozen 1
       simp only [List.getElem?_cons_zero, List.getElem?_cons_succ] at c4
       have HK := Lib.hid hk
       clear hk hB4p hb3' hb4 hg4 hz4 c3 f3)
    | (go_at_call 46; refine (DWN.out w3 _ H3.out.2.1 HK.out.2 HK.out.1).mono ?_; rintro e w6 ⟨⟨u2, rfl⟩, hP6, hg6⟩; have G26 : Grown2 w2 w6 (some p) (some g) := ((Grown2.of_by H3.out.2.1).trans2 HK.out.2).trans2 (Grown2.of_by hg6); have H6 := Lib.hid (And.intro hP6 G26); clear hP6 hg6 G26)
    | ((with_reducible show wpList _ _ _ (⟨some 45, _, _, _, _, _⟩ :: _) _ _)
       have hB56 := H6.out.2.blk X2.out.2.1 (fun e => by injection e with e; have := H0.out.1.blk.lt; have := X2.out.2.2.1; have := X2.out.2.2.2.2; omega) (fun e => by injection e with e; have := HG.out; have := X2.out.2.2.1; have := X2.out.2.2.2.2; omega)
       go_must (refine wpList_loadT (th := th) (o := ⟨some 45, _, _, _, _, _⟩) rfl (.tmp 5) rfl b5 0 (by go_simp) _ _ hB56 y (whole_of y) ?_))
    | ((with_reducible show wpList _ _ _ (⟨none, .store 35 (.tmp 2) _, _, _, _, _⟩ :: _) _ _)
       have hB26 := H6.out.2.blk X2.out.2.2.2.1 (fun e => by injection e with e; have := H0.out.1.blk.lt; omega) (fun e => by injection e with e; have := HG.out; omega)
       go_must (refine wpList_storeT (th := th) (o := ⟨none, .store 35 (.tmp 2) _, _, _, _, _⟩) rfl (.tmp 2) (.tmp 45) rfl W.heap.size (by go_simp) y (by go_simp) _ hB26 rfl ?_)
       intro w7 hB7 hg7 hz7
       have H7 := Lib.hid (And.intro hB7 hg7)
       clear hB7 hg7 hz7 hB26 hB56)
    | fail)
  obtain ⟨hP6, G26⟩ := H6.out
  obtain ⟨hB7, hg7⟩ := H7.out
  have hmm := H0.out.2.2.2.2.2.2.2.2.1
  refine bodyPost_ret (v := .tuple #[vl th y, .bool true]) (results_two Try.results17 _ rfl (loadVT hB7 (whole_of y))) rfl ?_
  refine ⟨rfl, .slice (some ⟨g, 0, none⟩) m cap, by unfold Heap.pop Heap.cut; rw [hmm, Nat.add_sub_cancel]; exact hP6.kept (fun k hk hor => hg7.block k hk (fun e => by
    injection e with e
    rcases hor with h | h
    · have := H0.out.1.blk.lt; omega
    · have h : g = k := by simpa [Value.ownBlock] using h
      have := HG.out; omega)), ((Grown2.of_below X2.out.1).trans2 G26).new hg7 (Nat.le_refl _), rfl⟩
end
end Go.Proofs.Ytdebokambldbbaa.PileI
