/- weirlaw07.PileNil: the walk. -/
import Derived.Test.YtdebokambldbbaaPNil
namespace Go.Proofs.Ytdebokambldbbaa.LawP
open Go.RowKit Go.Shelf Go.Proofs.Ytdebokambldbbaa.Mem Go.Proofs.Ytdebokambldbbaa.Heap Go.Proofs.Ytdebokambldbbaa.Pile Go.Proofs.Ytdebokambldbbaa.PileI Go.Proofs.Ytdebokambldbbaa.Drain
set_option linter.unusedVariables false
set_option linter.unusedSectionVars false
set_option maxRecDepth 4000
set_option maxHeartbeats 12800000

theorem nil_walk (A0 : Option Addr) (n0 c0 : Nat) (l : List Itm) (W : World) (hr : RV W A0 (l.flatMap Itm.cells)) (hn0 : n0 = l.length) (hl : l.length ≤ 1048576) :
    Calls Try.prog 5 #[.slice A0 n0 c0] W fun e W' => e = .returned (.bool true) ∧ Below W.heap.size W W' := by
  have H0 := Lib.hid (And.intro hr (And.intro hn0 hl))
  clear hr hn0 hl
  go_enter Try.func5, Try.ntmps5
  go_wp2_with (go_at_call 10; go_must (refine (awake_any _).mono ?_); rintro e w1 ⟨rfl, hb1⟩)
  have HB1 := Lib.hid hb1
  clear hb1
  go_loopw [14] (fun v14 wr => ∃ k : Nat, k ≤ n0 ∧ v14 = .int .i64 k ∧ Below W.heap.size W wr) (fun v _ => n0 - (intOf v).toNat)
  case atStart => exact ⟨0, Nat.zero_le _, rfl, HB1.out⟩
  case round =>
    obtain ⟨k, hk, rfl, hb⟩ := hrel
    by_cases hlt : k < n0
    · have hkl : k < l.length := by rw [← H0.out.2.1]; exact hlt
      obtain ⟨ad, rfl, hc⟩ := rv_at (th := thI) (H0.out.1.below hb) hkl
      have c1 := hc 0 _ rfl
      have c2 := hc 1 _ rfl
      obtain ⟨y, hy⟩ : ∃ y, y = l[k] := ⟨_, rfl⟩
      rw [← hy] at c1 c2
      have hki : (k : Int) < (n0 : Int) := by omega
      have hk0 : (0 : Int) ≤ (k : Int) := by omega
      have q7 : wrap64 ((k : Int) + 1) = (k : Int) + 1 := wrap_in (by omega) (by have h1 := H0.out.2.1; have h2 := H0.out.2.2; omega)
      have Z := Lib.hid (And.intro hlt hb)
      clear hk hlt hkl hb hy hc
      obtain ⟨x1, x2⟩ := y
      simp only [Nat.add_zero] at c1
      replace c2 : wr.cell? ⟨(ad.add (k * 2)).block, (ad.add (k * 2)).off + 1, none⟩ = some (.int .i64 x2) := cell_next (n := k * 2) (j := 0) c2
      have hB5 : Blk (wr.alloc (.cells #[.int .i64 x1, .int .i64 x2] 35)) wr.heap.size 35 [.int .i64 x1, .int .i64 x2] := Blk.new wr _ [_, _]
      have hb5 : Below wr.heap.size wr (wr.alloc (.cells #[.int .i64 x1, .int .i64 x2] 35)) := ga (gr wr) _
      go_wp2_with (first
        | (go_at_call 14; go_must (refine (push_nil _ _ _).mono ?_); rintro e w2 ⟨⟨u2, rfl⟩, hb2⟩)
        | (go_at_call 17; go_must (refine (pop_nil _).mono ?_); rintro e w3 ⟨rfl, hb3⟩
           have hB6 : Blk (w3.alloc (.cells #[.int .i64 0, .int .i64 0] 35)) w3.heap.size 35 [.int .i64 0, .int .i64 0] := Blk.new w3 _ [_, _]
           have hb6 : Below w3.heap.size w3 (w3.alloc (.cells #[.int .i64 0, .int .i64 0] 35)) := ga (gr w3) _)
        | (go_at_call 16; go_must (refine (peek_nil _).mono ?_); rintro e w4 ⟨rfl, hb4⟩
           have hB8 : Blk (w4.alloc (.cells #[.int .i64 0, .int .i64 0] 35)) w4.heap.size 35 [.int .i64 0, .int .i64 0] := Blk.new w4 _ [_, _]
           have hb8 : Below w4.heap.size w4 (w4.alloc (.cells #[.int .i64 0, .int .i64 0] 35)) := ga (gr w4) _))
      replace hB5 := (((((hB5.grow hb2).grow hb3).grow hb6).grow hb4).grow hb8)
      replace hB6 := (hB6.grow hb4).grow hb8
      have hball := Lib.hid (gt (gt (gt (gt (gt (gt Z.out.2 hb5) hb2) hb3) hb6) hb4) hb8)
      obtain ⟨w9, hw9⟩ : ∃ w, w = w4.alloc (.cells #[.int .i64 0, .int .i64 0] 35) := ⟨_, rfl⟩
      rw [← hw9] at hB5 hB6 hB8 hball ⊢
      clear hw9 hb2 hb3 hb4 hb6 hb8 hb5 c1 c2
      try simp only [Act.put, List.setIfInBounds_toArray, List.set_cons_succ, List.set_cons_zero]
      refine wp_region_rrT (fun a b => Below a.heap.size a b) (fun _ _ _ h g => gt h g) (fun _ _ h => h.size) (fun a => (gr a).drew) 27
        [.eq 31 (.bool false), .eq 32 (.bool false), .eq 33 (.bool false), .eq 34 (.bool false), .eq 35 (.bool false), .eq 36 (.agg #[.int .i64 0, .int .i64 0]), .eq 37 (.agg #[.int .i64 0, .int .i64 0]), .eq 38 (.bool false), .eq 39 (.bool false), .eq 40 (.bool false), .eq 41 (.agg #[.int .i64 0, .int .i64 0]), .eq 42 (.agg #[.int .i64 0, .int .i64 0]), .eq 43 (.bool false), .eq 44 (.bool false), .eq 45 (.bool false), .eq 46 (.pointer none), .eq 47 (.int .i64 0), .eq 48 (.bool false), .eq 49 (.bool false), .eq 50 (.bool false), .eq 51 (.pointer none), .eq 52 (.pointer none), .one 53 (fun v W => ∃ b, v = .func (.func 47) #[] #[.pointer (some ⟨b, 0, none⟩)] ∧ Boxed W b 30 (.pointer none)), .eq 54 (.agg #[.int .i64 x1, .int .i64 x2]), .eq 55 (.slice none 0 0), .eq 56 (.int .i64 0), .eq 57 (.bool false)]
        (by kernel_rfl) (by kernel_rfl) (by kernel_rfl) (by kernel_rfl) ?hsta ?hoba ?hfina
      case hsta =>
        intro s hs
        simp only [List.mem_cons, List.not_mem_nil, or_false] at hs
        rcases hs with rfl | rfl | rfl | rfl | rfl | rfl | rfl | rfl | rfl | rfl | rfl | rfl | rfl | rfl | rfl | rfl | rfl | rfl | rfl | rfl | rfl | rfl | rfl | rfl | rfl | rfl | rfl
        · exact fun _ _ _ h _ => h
        · exact fun _ _ _ h _ => h
        · exact fun _ _ _ h _ => h
        · exact fun _ _ _ h _ => h
        · exact fun _ _ _ h _ => h
        · exact fun _ _ _ h _ => h
        · exact fun _ _ _ h _ => h
        · exact fun _ _ _ h _ => h
        · exact fun _ _ _ h _ => h
        · exact fun _ _ _ h _ => h
        · exact fun _ _ _ h _ => h
        · exact fun _ _ _ h _ => h
        · exact fun _ _ _ h _ => h
        · exact fun _ _ _ h _ => h
        · exact fun _ _ _ h _ => h
        · exact fun _ _ _ h _ => h
        · exact fun _ _ _ h _ => h
        · exact fun _ _ _ h _ => h
        · exact fun _ _ _ h _ => h
        · exact fun _ _ _ h _ => h
        · exact fun _ _ _ h _ => h
        · exact fun _ _ _ h _ => h
        · rintro vs w1 w2 ⟨v, rfl, h⟩ hb
          exact ⟨_, rfl, (fun ⟨b, e, h⟩ hb => ⟨b, e, boxed_below h hb⟩) h hb⟩
        · exact fun _ _ _ h _ => h
        · exact fun _ _ _ h _ => h
        · exact fun _ _ _ h _ => h
        · exact fun _ _ _ h _ => h
      case hoba =>
        simp only [List.take_succ_cons, List.take_zero]
        refine rrs_cons ?_ (rrs_cons ?_ (rrs_cons ?_ (rrs_cons ?_ (rrs_cons ?_ (rrs_cons ?_ (rrs_cons ?_ (rrs_cons ?_ (rrs_cons ?_ (rrs_cons ?_ (rrs_cons ?_ (rrs_cons ?_ (rrs_cons ?_ (rrs_cons ?_ (rrs_cons ?_ (rrs_cons ?_ (rrs_cons ?_ (rrs_cons ?_ (rrs_cons ?_ (rrs_cons ?_ (rrs_cons ?_ (rrs_cons ?_ (rrs_cons ?_ (rrs_cons ?_ (rrs_cons ?_ (rrs_cons ?_ (rrs_cons ?_ rrs_nil))))))))))))))))))))))))))
        · refine rr_eq gr (by decide) (by rfl) (by rfl) fun x w' A hg hp hA => ?_
          have e7 := hA 7
          simp [rgDsts] at e7
          go_simp
        · refine rr_eq gr (by decide) (by rfl) (by rfl) fun x w' A hg hp hA => ?_
          have h31 := rg_pred_eq (d := 31) hp 0 rfl rfl rfl
          have e31 := (hA.at_ 31 rfl).trans h31
          go_simp
        · refine rr_eqG gr (by decide) (by rfl) 1 32 false (by rfl) (by rfl) (by decide) (Nat.le_of_ble_eq_true rfl) (fun x w' hg hp => rg_pred_eq (d := 32) hp 0 rfl rfl rfl) fun x w' A hg hp hA => ?_
          have h32 := rg_pred_eq (d := 32) hp 0 rfl rfl rfl
          have e9 := hA 9
          simp [rgDsts] at e9
          go_simp
        · refine rr_eq gr (by decide) (by rfl) (by rfl) fun x w' A hg hp hA => ?_
          have h32 := rg_pred_eq (d := 32) hp 0 rfl rfl rfl
          have h33 := rg_pred_eq (d := 33) hp 1 rfl rfl rfl
          have e32 := (hA.at_ 32 rfl).trans h32
          have e33 := (hA.at_ 33 rfl).trans h33
          go_simp
        · refine rr_eq gr (by decide) (by rfl) (by rfl) fun x w' A hg hp hA => ?_
          have h34 := rg_pred_eq (d := 34) hp 0 rfl rfl rfl
          have h32 := rg_pred_eq (d := 32) hp 1 rfl rfl rfl
          have e34 := (hA.at_ 34 rfl).trans h34
          go_simp
        · refine rr_valG (by decide) 4 35 false (by rfl) (by rfl) (by decide) (Nat.le_of_ble_eq_true rfl) (fun x w' hg hp => rg_pred_eq (d := 35) hp 0 rfl rfl rfl) fun x w' A hg hp hA => ?_
          have h35 := rg_pred_eq (d := 35) hp 0 rfl rfl rfl
          have e6 := hA 6
          simp [rgDsts] at e6
          have hr := run_loadB (o := 0) AT (hB6.grow hg) [.int .i64 0, .int .i64 0] rfl rfl
          exact ⟨.agg #[.int .i64 0, .int .i64 0], w', by simp [execOp, Act.eval, e6, hr, Result.andThen], gr _, by simp [rgUpd], by simp⟩
        · refine rr_eqG gr (by decide) (by rfl) 4 35 false (by rfl) (by rfl) (by decide) (Nat.le_of_ble_eq_true rfl) (fun x w' hg hp => rg_pred_eq (d := 35) hp 0 rfl rfl rfl) fun x w' A hg hp hA => ?_
          have h35 := rg_pred_eq (d := 35) hp 0 rfl rfl rfl
          go_simp
        · refine rr_eqG gr (by decide) (by rfl) 4 35 false (by rfl) (by rfl) (by decide) (Nat.le_of_ble_eq_true rfl) (fun x w' hg hp => rg_pred_eq (d := 35) hp 2 rfl rfl rfl) fun x w' A hg hp hA => ?_
          have h36 := rg_pred_eq (d := 36) hp 0 rfl rfl rfl
          have h37 := rg_pred_eq (d := 37) hp 1 rfl rfl rfl
          have h35 := rg_pred_eq (d := 35) hp 2 rfl rfl rfl
          have e36 := (hA.at_ 36 rfl).trans h36
          have e37 := (hA.at_ 37 rfl).trans h37
          go_simp
        · refine rr_eq gr (by decide) (by rfl) (by rfl) fun x w' A hg hp hA => ?_
          have h35 := rg_pred_eq (d := 35) hp 0 rfl rfl rfl
          have h38 := rg_pred_eq (d := 38) hp 1 rfl rfl rfl
          have e35 := (hA.at_ 35 rfl).trans h35
          have e38 := (hA.at_ 38 rfl).trans h38
          go_simp
        · refine rr_eq gr (by decide) (by rfl) (by rfl) fun x w' A hg hp hA => ?_
          have h39 := rg_pred_eq (d := 39) hp 0 rfl rfl rfl
          have h35 := rg_pred_eq (d := 35) hp 1 rfl rfl rfl
          have e39 := (hA.at_ 39 rfl).trans h39
          go_simp
        · refine rr_valG (by decide) 9 40 false (by rfl) (by rfl) (by decide) (Nat.le_of_ble_eq_true rfl) (fun x w' hg hp => rg_pred_eq (d := 40) hp 0 rfl rfl rfl) fun x w' A hg hp hA => ?_
          have h40 := rg_pred_eq (d := 40) hp 0 rfl rfl rfl
          have e8 := hA 8
          simp [rgDsts] at e8
          have hr := run_loadB (o := 0) AT (hB8.grow hg) [.int .i64 0, .int .i64 0] rfl rfl
          exact ⟨.agg #[.int .i64 0, .int .i64 0], w', by simp [execOp, Act.eval, e8, hr, Result.andThen], gr _, by simp [rgUpd], by simp⟩
        · refine rr_eqG gr (by decide) (by rfl) 9 40 false (by rfl) (by rfl) (by decide) (Nat.le_of_ble_eq_true rfl) (fun x w' hg hp => rg_pred_eq (d := 40) hp 0 rfl rfl rfl) fun x w' A hg hp hA => ?_
          have h40 := rg_pred_eq (d := 40) hp 0 rfl rfl rfl
          go_simp
        · refine rr_eqG gr (by decide) (by rfl) 9 40 false (by rfl) (by rfl) (by decide) (Nat.le_of_ble_eq_true rfl) (fun x w' hg hp => rg_pred_eq (d := 40) hp 2 rfl rfl rfl) fun x w' A hg hp hA => ?_
          have h41 := rg_pred_eq (d := 41) hp 0 rfl rfl rfl
          have h42 := rg_pred_eq (d := 42) hp 1 rfl rfl rfl
          have h40 := rg_pred_eq (d := 40) hp 2 rfl rfl rfl
          have e41 := (hA.at_ 41 rfl).trans h41
          have e42 := (hA.at_ 42 rfl).trans h42
          go_simp
        · refine rr_eq gr (by decide) (by rfl) (by rfl) fun x w' A hg hp hA => ?_
          have h40 := rg_pred_eq (d := 40) hp 0 rfl rfl rfl
          have h43 := rg_pred_eq (d := 43) hp 1 rfl rfl rfl
          have e40 := (hA.at_ 40 rfl).trans h40
          have e43 := (hA.at_ 43 rfl).trans h43
          go_simp
        · refine rr_eq gr (by decide) (by rfl) (by rfl) fun x w' A hg hp hA => ?_
          have h44 := rg_pred_eq (d := 44) hp 0 rfl rfl rfl
          have h40 := rg_pred_eq (d := 40) hp 1 rfl rfl rfl
          have e44 := (hA.at_ 44 rfl).trans h44
          go_simp
        · refine rr_eqG gr (by decide) (by rfl) 14 45 false (by rfl) (by rfl) (by decide) (Nat.le_of_ble_eq_true rfl) (fun x w' hg hp => rg_pred_eq (d := 45) hp 0 rfl rfl rfl) fun x w' A hg hp hA => ?_
          have h45 := rg_pred_eq (d := 45) hp 0 rfl rfl rfl
          have e3 := hA 3
          simp [rgDsts] at e3
          go_simp
        · refine rr_callG (by decide) 14 45 false (by rfl) (by rfl) (by decide) (Nat.le_of_ble_eq_true rfl) (fun x w' hg hp => rg_pred_eq (d := 45) hp 1 rfl rfl rfl) fun x w' A hg hp hA => ?_
          have h46 := rg_pred_eq (d := 46) hp 0 rfl rfl rfl
          have h45 := rg_pred_eq (d := 45) hp 1 rfl rfl rfl
          have e46 := (hA.at_ 46 rfl).trans h46
          refine ⟨19, #[.pointer none], ?_, ?_⟩
          · go_simp
          · refine (show Calls Try.prog 19 #[.pointer none] w' fun e w'' => e = .returned (.int .i64 0) ∧ Below w'.heap.size w' w'' from len_nil w').mono ?_
            rintro e w'' ⟨rfl, hb⟩
            exact ⟨_, rfl, hb, by simp, by simp⟩
        · refine rr_eqG gr (by decide) (by rfl) 14 45 false (by rfl) (by rfl) (by decide) (Nat.le_of_ble_eq_true rfl) (fun x w' hg hp => rg_pred_eq (d := 45) hp 1 rfl rfl rfl) fun x w' A hg hp hA => ?_
          have h47 := rg_pred_eq (d := 47) hp 0 rfl rfl rfl
          have h45 := rg_pred_eq (d := 45) hp 1 rfl rfl rfl
          have e47 := (hA.at_ 47 rfl).trans h47
          go_simp
        · refine rr_eq gr (by decide) (by rfl) (by rfl) fun x w' A hg hp hA => ?_
          have h45 := rg_pred_eq (d := 45) hp 0 rfl rfl rfl
          have h48 := rg_pred_eq (d := 48) hp 1 rfl rfl rfl
          have e45 := (hA.at_ 45 rfl).trans h45
          have e48 := (hA.at_ 48 rfl).trans h48
          go_simp
        · refine rr_eq gr (by decide) (by rfl) (by rfl) fun x w' A hg hp hA => ?_
          have h49 := rg_pred_eq (d := 49) hp 0 rfl rfl rfl
          have h47 := rg_pred_eq (d := 47) hp 1 rfl rfl rfl
          have e49 := (hA.at_ 49 rfl).trans h49
          go_simp
        · refine rr_eqG gr (by decide) (by rfl) 19 50 false (by rfl) (by rfl) (by decide) (Nat.le_of_ble_eq_true rfl) (fun x w' hg hp => rg_pred_eq (d := 50) hp 0 rfl rfl rfl) fun x w' A hg hp hA => ?_
          have h50 := rg_pred_eq (d := 50) hp 0 rfl rfl rfl
          have e3 := hA 3
          simp [rgDsts] at e3
          go_simp
        · refine rr_eqG gr (by decide) (by rfl) 19 50 false (by rfl) (by rfl) (by decide) (Nat.le_of_ble_eq_true rfl) (fun x w' hg hp => rg_pred_eq (d := 50) hp 0 rfl rfl rfl) fun x w' A hg hp hA => ?_
          have h50 := rg_pred_eq (d := 50) hp 0 rfl rfl rfl
          have e3 := hA 3
          simp [rgDsts] at e3
          go_simp
        · refine rr_callG (by decide) 19 50 false (by rfl) (by rfl) (by decide) (Nat.le_of_ble_eq_true rfl) (fun x w' hg hp => rg_pred_eq (d := 50) hp 1 rfl rfl rfl) fun x w' A hg hp hA => ?_
          have h52 := rg_pred_eq (d := 52) hp 0 rfl rfl rfl
          have h50 := rg_pred_eq (d := 50) hp 1 rfl rfl rfl
          have e52 := (hA.at_ 52 rfl).trans h52
          refine ⟨21, #[.pointer none], ?_, ?_⟩
          · go_simp
          · refine (drain_any w' (.pointer none) ⟨_, rfl⟩).mono ?_
            rintro e w'' ⟨rfl, hbx, hw⟩
            exact ⟨_, rfl, by rw [hw]; exact ga (gr _) _, ⟨_, rfl, _, by simp [rgUpd], hbx⟩, by simp⟩
        · refine rr_valG (by decide) 19 50 false (by rfl) (by rfl) (by decide) (Nat.le_of_ble_eq_true rfl) (fun x w' hg hp => rg_pred_eq (d := 50) hp 0 rfl rfl rfl) fun x w' A hg hp hA => ?_
          have h50 := rg_pred_eq (d := 50) hp 0 rfl rfl rfl
          have e5 := hA 5
          simp [rgDsts] at e5
          have hr := run_loadB (o := 0) AT (hB5.grow hg) [.int .i64 x1, .int .i64 x2] rfl rfl
          exact ⟨.agg #[.int .i64 x1, .int .i64 x2], w', by simp [execOp, Act.eval, e5, hr, Result.andThen], gr _, by simp [rgUpd], by simp⟩
        · refine rr_callG (by decide) 19 50 false (by rfl) (by rfl) (by decide) (Nat.le_of_ble_eq_true rfl) (fun x w' hg hp => rg_pred_eq (d := 50) hp 4 rfl rfl rfl) fun x w' A hg hp hA => ?_
          have h51 := rg_pred_eq (d := 51) hp 0 rfl rfl rfl
          have h53 := rg_pred_one (d := 53) hp 1 rfl rfl rfl
          have h54 := rg_pred_eq (d := 54) hp 2 rfl rfl rfl
          have h50 := rg_pred_eq (d := 50) hp 4 rfl rfl rfl
          have e51 := (hA.at_ 51 rfl).trans h51
          have e53 := hA.at_ 53 rfl
          have e54 := (hA.at_ 54 rfl).trans h54
          obtain ⟨b53, hv53, hB53⟩ := h53
          rw [hv53] at e53
          refine ⟨22, #[.pointer none, .func (.func 47) #[] #[.pointer (some ⟨b53, 0, none⟩)], .int .i64 1, .int .i64 0, .bool false, .agg #[.int .i64 x1, .int .i64 x2]], ?_, ?_⟩
          · go_simp
          · refine (drained_nil w' b53 x1 x2 hB53).mono ?_
            rintro e w'' ⟨rfl, hb⟩
            exact ⟨_, rfl, hb, by simp [rgUpd], by simp⟩
        · refine rr_eqG gr (by decide) (by rfl) 19 50 false (by rfl) (by rfl) (by decide) (Nat.le_of_ble_eq_true rfl) (fun x w' hg hp => rg_pred_eq (d := 50) hp 1 rfl rfl rfl) fun x w' A hg hp hA => ?_
          have h55 := rg_pred_eq (d := 55) hp 0 rfl rfl rfl
          have h50 := rg_pred_eq (d := 50) hp 1 rfl rfl rfl
          have e55 := (hA.at_ 55 rfl).trans h55
          go_simp
        · refine rr_eqG gr (by decide) (by rfl) 19 50 false (by rfl) (by rfl) (by decide) (Nat.le_of_ble_eq_true rfl) (fun x w' hg hp => rg_pred_eq (d := 50) hp 1 rfl rfl rfl) fun x w' A hg hp hA => ?_
          have h56 := rg_pred_eq (d := 56) hp 0 rfl rfl rfl
          have h50 := rg_pred_eq (d := 50) hp 1 rfl rfl rfl
          have e56 := (hA.at_ 56 rfl).trans h56
          go_simp
      case hfina =>
        intro x w10 hg hall hap
        simp only [RgAll, holds_eq, holds_new, holds_one, and_true] at hall
        obtain ⟨h31, h32, h33, h34, h35, h36, h37, h38, h39, h40, h41, h42, h43, h44, h45, h46, h47, h48, h49, h50, h51, h52, h53, h54, h55, h56, h57⟩ := hall
        obtain ⟨b53, h53, hb53⟩ := h53
        simp only [rgDsts, List.take_succ_cons, List.take_zero, List.filterMap_cons, List.filterMap_nil, putMany, List.foldl_cons, List.foldl_nil, List.setIfInBounds_toArray, List.set_cons_succ, List.set_cons_zero, List.drop_succ_cons, List.drop_zero, h31, h32, h33, h34, h35, h36, h37, h38, h39, h40, h41, h42, h43, h44, h45, h46, h47, h48, h49, h50, h51, h52, h54, h55, h56, h57, h53]
        clear h31 h32 h33 h34 h35 h36 h37 h38 h39 h40 h41 h42 h43 h44 h45 h46 h47 h48 h49 h50 h51 h52 h54 h55 h56 h57 h53
        go_wp2
        go_roundw
        case rel => exact ⟨k + 1, Z.out.1, by go_num, gt hball.out hg⟩
        case measure =>
          rw [q7]
          exact meas_in Z.out.1
    · obtain rfl : n0 = k := by omega
      have X := Lib.hid hb
      clear hk hlt hb
      go_wp2_with (go_at_call 19; go_must (refine (len_nil _).mono ?_); rintro e w2 ⟨rfl, hb2⟩)
      go_ret
      exact ⟨rfl, gt X.out hb2⟩
end Go.Proofs.Ytdebokambldbbaa.LawP
