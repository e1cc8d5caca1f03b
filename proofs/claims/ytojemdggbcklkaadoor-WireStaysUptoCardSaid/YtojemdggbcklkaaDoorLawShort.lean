/- weirlaw28.WireShort: the walk. (Printed by mklshort.py.) -/
import Derived.Test.YtojemdggbcklkaaDoorLawReads
import Derived.Test.YtojemdggbcklkaaDoorWGood
namespace Go.Proofs.YtojemdggbcklkaaDoor.WireR
open Go.RowKit Go.Proofs.YtojemdggbcklkaaDoor.Mem Go.Proofs.YtojemdggbcklkaaDoor.Wire Go.Proofs.YtojemdggbcklkaaDoor.Strs Go.Proofs.YtojemdggbcklkaaDoor.Heads
set_option linter.unusedVariables false
set_option linter.unusedSimpArgs false
set_option maxRecDepth 4000

/-! what a Read says of a beginning -/
theorem all_err {raw : Bytes} {er : Nat} (h : readAll raw = .error er) : 280 ≤ er ∧ er ≤ 284 := by
  unfold readAll at h
  cases hr : readS (raw.take Most) with
  | ok r t => rw [hr] at h; cases h
  | err e =>
    rw [hr] at h
    injection h with h
    have he : 280 ≤ e ∧ e ≤ 284 := by
      unfold readS at hr
      cases h1 : lineS 280 (raw.take Most) with
      | err e1 => simp only [h1] at hr; injection hr with hr; subst hr; exact lineS_err h1 (by omega)
      | ok c t1 =>
        simp only [h1] at hr
        cases h2 : firstS c with
        | none => simp only [h2] at hr; injection hr with hr; omega
        | some m =>
          obtain ⟨mm, tg, old⟩ := m
          simp only [h2] at hr
          cases h3 : fieldsS 281 t1 with
          | err e3 => simp only [h3] at hr; injection hr with hr; have := fields_err _ h3; omega
          | ok hs t2 =>
            simp only [h3] at hr
            cases h4 : judgeS hs old with
            | none => simp only [h4] at hr; injection hr with hr; omega
            | some sh =>
              simp only [h4] at hr
              cases h5 : bodyS sh ((raw.take Most).length - t2.length) t2 with
              | err e5 => simp only [h5] at hr; injection hr with hr; subst hr; exact body_err h5
              | ok body t3 => simp only [h5] at hr; cases hr
    split at h <;> omega
theorem read_ne : readS [] = .err 283 := rfl
theorem all_ok {raw : Bytes} {rq : Req} {n : Nat} (h : readAll raw = .ok (rq, n)) : 1 ≤ n ∧ n ≤ raw.length ∧ n ≤ 65536 ∧ readAll (raw.take n) = .ok (rq, n) ∧ ∀ k, k < n → readAll (raw.take k) = .error 283 := by
  have h0 := h
  unfold readAll at h
  cases hr : readS (raw.take Most) with
  | err e => rw [hr] at h; cases h
  | ok r t =>
    rw [hr] at h
    injection h with h
    injection h with h1 h2
    subst h1
    obtain ⟨u, hu, hext⟩ := good_read.ok hr
    have hul : u.length = n := by
      rw [← h2, hu, List.length_append]; omega
    have hml : (raw.take Most).length ≤ 65536 := by rw [List.length_take]; unfold Most; omega
    have hml2 : (raw.take Most).length ≤ raw.length := by rw [List.length_take]; omega
    have hle : u.length ≤ (raw.take Most).length := by rw [hu, List.length_append]; omega
    have hut : raw.take n = u := by
      have h3 : (raw.take Most).take n = u := by rw [hu, ← hul]; exact List.take_left' rfl
      rw [List.take_take] at h3
      rwa [Nat.min_eq_left (by unfold Most; omega)] at h3
    have hne : 1 ≤ n := by
      rcases Nat.eq_zero_or_pos n with h0 | h0
      · exfalso
        have : u = [] := List.eq_nil_of_length_eq_zero (by omega)
        have h4 := hext []
        rw [this, List.append_nil, read_ne] at h4
        cases h4
      · exact h0
    refine ⟨hne, by omega, by omega, ?_, fun k hk => ?_⟩
    · rw [hut]
      unfold readAll
      rw [List.take_of_length_le (by unfold Most; omega)]
      have h4 := hext []
      rw [List.append_nil] at h4
      rw [h4]
      simp [hul]
    · have hkk : raw.take k = u.take k := by rw [← hut, List.take_take, Nat.min_eq_left (by omega)]
      have hz : u.drop k ≠ [] := by
        intro e
        have := congrArg List.length e
        rw [List.length_drop] at this
        simp at this
        omega
      have h4 := good_read.short hr hu (u.take k) (u.drop k) (List.take_append_drop k u).symm hz
      have hl : (u.take k).length ≤ 65536 := by rw [List.length_take]; omega
      rw [hkk]
      unfold readAll
      rw [List.take_of_length_le (by unfold Most; omega), h4]
      simp only
      rw [if_neg (fun h => by have := h.2; unfold Most at this; omega)]
theorem req_load {w : World} {H : Nat} {vs : List Value} (hB : Blk w H 30 vs) (hl : vs.length = 5) : (Instr.loadAt 30 (.pointer (some ⟨H, 0, none⟩))).run Tryd.prog w = .ok (.agg vs.toArray) w :=
  run_loadB AR hB vs (by rw [List.drop_zero]; exact List.take_of_length_le (by rw [hl]; decide)) hl
set_option maxHeartbeats 4000000 in
theorem none_zero (w : World) : Calls Tryd.prog 18 #[.agg #[.string ⟨#[]⟩, .string ⟨#[]⟩, .slice none 0 0, .slice none 0 0, .bool false]] w fun e w' => e = .returned (.bool true) ∧ Below w.heap.size w w' := by
  have sm : ∀ W, Calls Tryd.prog 17 #[.agg #[.string ⟨#[]⟩, .string ⟨#[]⟩, .slice none 0 0, .slice none 0 0, .bool false], .agg #[.string ⟨#[]⟩, .string ⟨#[]⟩, .slice none 0 0, .slice none 0 0, .bool false]] W fun e w' => e = .returned (.bool true) ∧ Below W.heap.size W w' := fun W =>
    same_req (w := W) ⟨[], [], [], [], false⟩ ⟨[], [], [], [], false⟩ none 0 none 0 none 0 none 0 rfl (RV.nil _ _) (RV.nil _ _) (RB.nil _ _) (RB.nil _ _) (by intro ad h; cases h) (by intro ad h; cases h) (by simp) (by simp)
  have SM := Lib.hid sm
  clear sm
  go_enter Tryd.func18, Tryd.ntmps18
  go_wp2_with (first
    | ((with_reducible show wpList _ _ _ (⟨some 1, _, _, _, _, _⟩ :: _) _ _); go_must (refine wpList_boxB rfl (.tmp 0) rfl [.string ⟨#[]⟩, .string ⟨#[]⟩, .slice none 0 0, .slice none 0 0, .bool false] rfl w.heap.size rfl ?_); intro w1 hB1 hb1 hz1; have H1 := Lib.hid (And.intro hB1 hb1); clear hB1 hb1 hz1)
    | ((with_reducible show wpList _ _ _ (⟨some 3, _, _, _, _, _⟩ :: _) _ _); go_must (refine wpList_loadB AR rfl (.tmp 1) rfl w.heap.size 0 rfl _ _ H1.out.1 [.string ⟨#[]⟩, .string ⟨#[]⟩, .slice none 0 0, .slice none 0 0, .bool false] (by simp) rfl ?_))
    | (go_at_call 17; go_must (refine (SM.out _).mono ?_); rintro e w2 ⟨rfl, hb2⟩; have B2 := Lib.hid (gt H1.out.2 hb2); clear hb2))
  go_ret
  exact ⟨rfl, B2.out⟩
set_option maxHeartbeats 16000000 in
theorem law_short (A : Option Addr) (n c : Nat) (raw : List UInt8) (z : Int) (w : World) (hA : RB w A raw) (hn : n = raw.length) (hc : n ≤ c) (hl : n ≤ 1073741824) :
    Calls Tryd.prog 6 #[.slice A n c, .int .i64 z] w fun e w' => e = .returned (.bool true) ∧ Below w.heap.size w w' := by
  have cp := fun (W : World) (h : Below w.heap.size w W) => read_any A n c raw W (hA.below h) hn hc (by omega)
  cases hr : readAll raw with
  | error er =>
    have her := all_err hr
    simp only [hr] at cp
    have he0 : ((er : Nat) : Int) ≠ 0 := by omega
    have CP := Lib.hid cp
    clear cp hr hA hn hc hl her
    go_enter Tryd.func6, Tryd.ntmps6
    go_wp2_with (first
      | (go_at_call 14; go_must (refine (awake_any _).mono ?_); rintro e w1 ⟨rfl, hb1⟩; have B1 := Lib.hid hb1; clear hb1)
      | (go_at_call 16; (with_reducible show Calls _ _ #[_] _ _); go_must (refine (CP.out _ B1.out).mono ?_); rintro e w2 hp; obtain ⟨hb, rfl⟩ := hp; have A2 := Lib.hid (gt B1.out hb); have E2 := Lib.hid hb; clear hb)
      | ((with_reducible show wpList _ _ _ (⟨some 5, .alloc _, _, _, _, _⟩ :: _) _ _); go_must (refine wpList_allocB AR rfl rfl w2.heap.size rfl ?_); intro w2a hBx hbx hzx; have H2 := Lib.hid (And.intro hBx hbx); clear hBx hbx hzx)
      | ((with_reducible show wpList _ _ _ (⟨none, .store _ (.tmp 5) _, _, _, _, _⟩ :: _) _ _); go_must (refine wpList_storeB AR rfl (.tmp 5) (.tmp 19) rfl w2.heap.size 0 rfl [.string ⟨#[]⟩, .string ⟨#[]⟩, .slice none 0 0, .slice none 0 0, .bool false] rfl rfl _ _ H2.out.1 (by simp) (by simp [Value.oneCell']) ?_); intro w2b hBy hgy hzy
         simp only [splice, List.take_zero, List.nil_append, List.length_cons, List.length_nil, List.drop_succ_cons, List.drop_zero, List.append_nil, Nat.zero_add, List.drop_nil] at hBy
         have D2 := Lib.hid (H2.out.2.grown hgy H2.out.2.size (fun j hj => by injection hj with hj; omega))
         have C2 := Lib.hid hBy
         have B2 := Lib.hid (gt A2.out D2.out)
         clear hBy hgy hzy))
    go_ret
    exact ⟨rfl, B2.out⟩
  | ok x =>
    obtain ⟨rq, N⟩ := x
    have hlen := all_len hr
    obtain ⟨hN1, hNn, hN65, hwhole, hpart⟩ := all_ok hr
    have cw := fun (W : World) (h : Below w.heap.size w W) => read_any A N c (raw.take N) W ((hA.take N).below h) (by rw [List.length_take]; omega) (by omega) (by omega)
    have ck := fun (k : Nat) (hk : k < N) (W : World) (h : Below w.heap.size w W) => read_any A k c (raw.take k) W ((hA.take k).below h) (by rw [List.length_take]; omega) (by omega) (by omega)
    simp only [hr] at cp
    simp only [hwhole] at cw
    have CK := Lib.hid (fun (k : Nat) (hk : k < N) (W : World) (h : Below w.heap.size w W) => (hpart k hk) ▸ ck k hk W h)
    have sm := fun (W : World) A5 k5 A7 k7 B5 l5 B7 l7 h1 h2 h3 h4 h5 h6 => same_req (w := W) rq rq A5 k5 A7 k7 B5 l5 B7 l7 rfl h1 h2 h3 h4 h5 h6 (by omega) (by omega)
    obtain ⟨smm, hsm⟩ : ∃ x, x = (⟨rq.method.toArray⟩ : ByteArray) := ⟨_, rfl⟩
    obtain ⟨stg, hst⟩ : ∃ x, x = (⟨rq.target.toArray⟩ : ByteArray) := ⟨_, rfl⟩
    obtain ⟨hm, hhm⟩ : ∃ x, x = rq.headers.length := ⟨_, rfl⟩
    obtain ⟨bl, hbl⟩ : ∃ x, x = rq.body.length := ⟨_, rfl⟩
    obtain ⟨cl, hcl⟩ : ∃ x, x = rq.close := ⟨_, rfl⟩
    unfold ReadPost at cp cw
    simp only at cp cw
    rw [← hsm, ← hst, ← hhm, ← hbl, ← hcl] at cp cw sm
    have CP := Lib.hid cp
    have CW := Lib.hid cw
    have SM := Lib.hid sm
    have i1 : decide ((N : Int) < 1) = false := by rw [decide_eq_false_iff_not]; omega
    have i2 : decide ((n : Int) < (N : Int)) = false := by rw [decide_eq_false_iff_not]; omega
    have i3 : decide (n < N) = false := by rw [decide_eq_false_iff_not]; omega
    have i4 : ¬ n < N := by omega
    have i5 : (0 : Int) ≤ (N : Int) := by omega
    have i6 : (N : Int) ≤ (c : Int) := by omega
    have HN := Lib.hid (And.intro hN1 (And.intro hNn (And.intro hN65 hc)))
    clear cp cw ck hr hA hn hc hl sm hsm hst hhm hbl hcl hlen hwhole hpart hN1 hNn hN65
    go_enter Tryd.func6, Tryd.ntmps6
    go_upto_region 9 with (first
      | (go_at_call 14; go_must (refine (awake_any _).mono ?_); rintro e w1 ⟨rfl, hb1⟩; have B1 := Lib.hid hb1; clear hb1)
      | (go_at_call 16; (with_reducible show Calls _ _ #[.slice A n c] _ _); go_must (refine (CP.out _ B1.out).mono ?_); rintro e w2 hp; obtain ⟨hb, A1, k1, P1, q1, K1, rfl, ho1, hK1, hw1, hob1⟩ := hp; have A2 := Lib.hid (gt B1.out hb); have E2 := Lib.hid hb; have R1 := Lib.hid (And.intro ho1 hob1); clear ho1 hK1 hw1 hob1; clear hb)
      | ((with_reducible show wpList _ _ _ (⟨some 5, .alloc _, _, _, _, _⟩ :: _) _ _); go_must (refine wpList_allocB AR rfl rfl w2.heap.size rfl ?_); intro w2a hBx hbx hzx; have H2 := Lib.hid (And.intro hBx hbx); clear hBx hbx hzx)
      | ((with_reducible show wpList _ _ _ (⟨none, .store _ (.tmp 5) _, _, _, _, _⟩ :: _) _ _); go_must (refine wpList_storeB AR rfl (.tmp 5) (.tmp 19) rfl w2.heap.size 0 rfl [.string smm, .string stg, .slice A1 hm k1, .slice P1 bl q1, .bool cl] rfl rfl _ _ H2.out.1 (by simp) (by simp [Value.oneCell']) ?_); intro w2b hBy hgy hzy
         simp only [splice, List.take_zero, List.nil_append, List.length_cons, List.length_nil, List.drop_succ_cons, List.drop_zero, List.append_nil, Nat.zero_add, List.drop_nil] at hBy
         have D2 := Lib.hid (H2.out.2.grown hgy H2.out.2.size (fun j hj => by injection hj with hj; omega))
         have C2 := Lib.hid hBy
         have B2 := Lib.hid (gt A2.out D2.out)
         clear hBy hgy hzy)
      | (go_at_call 16; (with_reducible show Calls _ _ #[.slice A N c] _ _); go_must (refine (CW.out _ B2.out).mono ?_); rintro e w3 hp; obtain ⟨hb, A2, k2, P2, q2, K2, rfl, ho2, hK2, hw2, hob2⟩ := hp; have A3 := Lib.hid (gt B2.out hb); have E3 := Lib.hid hb; have R2 := Lib.hid (And.intro ho2 hob2); clear ho2 hK2 hw2 hob2; clear hb)
      | ((with_reducible show wpList _ _ _ (⟨some 8, .alloc _, _, _, _, _⟩ :: _) _ _); go_must (refine wpList_allocB AR rfl rfl w3.heap.size rfl ?_); intro w3a hBx hbx hzx; have H3 := Lib.hid (And.intro hBx hbx); clear hBx hbx hzx)
      | ((with_reducible show wpList _ _ _ (⟨none, .store _ (.tmp 8) _, _, _, _, _⟩ :: _) _ _); go_must (refine wpList_storeB AR rfl (.tmp 8) (.tmp 37) rfl w3.heap.size 0 rfl [.string smm, .string stg, .slice A2 hm k2, .slice P2 bl q2, .bool cl] rfl rfl _ _ H3.out.1 (by simp) (by simp [Value.oneCell']) ?_); intro w3b hBy hgy hzy
         simp only [splice, List.take_zero, List.nil_append, List.length_cons, List.length_nil, List.drop_succ_cons, List.drop_zero, List.append_nil, Nat.zero_add, List.drop_nil] at hBy
         have D3 := Lib.hid (H3.out.2.grown hgy H3.out.2.size (fun j hj => by injection hj with hj; omega))
         have C3 := Lib.hid hBy
         have B3 := Lib.hid (gt A3.out D3.out)
         clear hBy hgy hzy))
    have hBku := (C2.out.grow E3.out).grow D3.out
    have u0 := hBku.cell 0
    have u1 := hBku.cell 1
    have u2 := hBku.cell 2
    have u3 := hBku.cell 3
    have u4 := hBku.cell 4
    simp only [List.getElem?_cons_succ, List.getElem?_cons_zero] at u0 u1 u2 u3 u4
    have hBkv := C3.out
    have v0 := hBkv.cell 0
    have v1 := hBkv.cell 1
    have v2 := hBkv.cell 2
    have v3 := hBkv.cell 3
    have v4 := hBkv.cell 4
    simp only [List.getElem?_cons_succ, List.getElem?_cons_zero] at v0 v1 v2 v3 v4
    clear hBku hBkv
    obtain ⟨h5, hh5⟩ : ∃ x, x = w2.heap.size := ⟨_, rfl⟩
    obtain ⟨h8, hh8⟩ : ∃ x, x = w3.heap.size := ⟨_, rfl⟩
    rw [← hh5] at u0 u1 u2 u3 u4 ⊢
    rw [← hh8] at v0 v1 v2 v3 v4 ⊢
    have k1 := SM.out w3b A1 k1 P1 q1 A2 k2 P2 q2 ((((own_rv R1.out.1).below D2.out).below E3.out).below D3.out) ((own_rv R2.out.1).below D3.out) ((((own_rv R1.out.2).rb.below D2.out).below E3.out).below D3.out) ((own_rv R2.out.2).rb.below D3.out) (own_spot R1.out.1) (own_spot R2.out.1)
    have K1 := Lib.hid k1
    clear k1 hh5 hh8
    go_upto_region 11 with (first
      | (go_at_call 17; go_must (refine (K1.out).mono ?_); rintro e w4 ⟨rfl, hb4⟩; have B4 := Lib.hid (gt B3.out hb4); clear hb4))
    clear u0 u1 u2 u3 u4 v0 v1 v2 v3 v4
    obtain ⟨kk, hkk⟩ : ∃ k, k = N - 1 := ⟨_, rfl⟩
    have hN1 := HN.out.1
    have e1 : (N : Int) - 1 = (kk : Int) := by omega
    have e2 : (0 : Int) ≤ (kk : Int) := by omega
    have e3 : (kk : Int) ≤ (c : Int) := by have := HN.out; omega
    have e4 : (kk : Int) ≤ 1152921504606846976 := by have := HN.out; omega
    by_cases hz0 : z < 0
    · have b1 : decide (z < 0) = true := decide_eq_true hz0
      have HK := Lib.hid (show kk < N by omega)
      have ww : wrap64 (kk : Int) = (kk : Int) := w64b rfl e2 e4
      clear hz0 hkk hN1 e4
      go_upto_region 13 with fail
      rw [ww]
      clear ww e1
      go_upto_region 14 with (first
        | (go_at_call 16; (with_reducible show Calls _ _ #[_] _ _); go_must (refine (CK.out kk HK.out _ B4.out).mono ?_); rintro e w5 hp; obtain ⟨hb, rfl⟩ := hp; have A5 := Lib.hid (gt B4.out hb); have E5 := Lib.hid hb; clear hb)
        | ((with_reducible show wpList _ _ _ (⟨some 11, .alloc _, _, _, _, _⟩ :: _) _ _); go_must (refine wpList_allocB AR rfl rfl w5.heap.size rfl ?_); intro w5a hBx hbx hzx; have H5 := Lib.hid (And.intro hBx hbx); clear hBx hbx hzx)
        | ((with_reducible show wpList _ _ _ (⟨none, .store _ (.tmp 11) _, _, _, _, _⟩ :: _) _ _); go_must (refine wpList_storeB AR rfl (.tmp 11) (.tmp 67) rfl w5.heap.size 0 rfl [.string ⟨#[]⟩, .string ⟨#[]⟩, .slice none 0 0, .slice none 0 0, .bool false] rfl rfl _ _ H5.out.1 (by simp) (by simp [Value.oneCell']) ?_); intro w5b hBy hgy hzy
           simp only [splice, List.take_zero, List.nil_append, List.length_cons, List.length_nil, List.drop_succ_cons, List.drop_zero, List.append_nil, Nat.zero_add, List.drop_nil] at hBy
           have D5 := Lib.hid (H5.out.2.grown hgy H5.out.2.size (fun j hj => by injection hj with hj; omega))
           have C5 := Lib.hid hBy
           have B5 := Lib.hid (gt A5.out D5.out)
           clear hBy hgy hzy))
      have hBkt := C5.out
      have t0 := hBkt.cell 0
      have t1 := hBkt.cell 1
      have t2 := hBkt.cell 2
      have t3 := hBkt.cell 3
      have t4 := hBkt.cell 4
      simp only [List.getElem?_cons_succ, List.getElem?_cons_zero] at t0 t1 t2 t3 t4
      obtain ⟨h11, hh11⟩ : ∃ x, x = w5.heap.size := ⟨_, rfl⟩
      rw [← hh11] at t0 t1 t2 t3 t4 ⊢
      clear hBkt hh11
      go_wp2_with (first
        | (go_at_call 18; go_must (refine (none_zero _).mono ?_); rintro e w6 ⟨rfl, hb6⟩; have B6 := Lib.hid (gt B5.out hb6); clear hb6))
      go_ret
      exact ⟨rfl, B6.out⟩
    · by_cases hzN : (N : Int) ≤ z
      · have b1 : decide (z < 0) = false := decide_eq_false hz0
        have b2 : decide ((N : Int) ≤ z) = true := decide_eq_true hzN
        have HK := Lib.hid (show kk < N by omega)
        have ww : wrap64 (kk : Int) = (kk : Int) := w64b rfl e2 e4
        clear hz0 hzN hkk hN1 e4
        go_upto_region 13 with fail
        rw [ww]
        clear ww e1
        go_upto_region 14 with (first
          | (go_at_call 16; (with_reducible show Calls _ _ #[_] _ _); go_must (refine (CK.out kk HK.out _ B4.out).mono ?_); rintro e w5 hp; obtain ⟨hb, rfl⟩ := hp; have A5 := Lib.hid (gt B4.out hb); have E5 := Lib.hid hb; clear hb)
          | ((with_reducible show wpList _ _ _ (⟨some 11, .alloc _, _, _, _, _⟩ :: _) _ _); go_must (refine wpList_allocB AR rfl rfl w5.heap.size rfl ?_); intro w5a hBx hbx hzx; have H5 := Lib.hid (And.intro hBx hbx); clear hBx hbx hzx)
          | ((with_reducible show wpList _ _ _ (⟨none, .store _ (.tmp 11) _, _, _, _, _⟩ :: _) _ _); go_must (refine wpList_storeB AR rfl (.tmp 11) (.tmp 67) rfl w5.heap.size 0 rfl [.string ⟨#[]⟩, .string ⟨#[]⟩, .slice none 0 0, .slice none 0 0, .bool false] rfl rfl _ _ H5.out.1 (by simp) (by simp [Value.oneCell']) ?_); intro w5b hBy hgy hzy
             simp only [splice, List.take_zero, List.nil_append, List.length_cons, List.length_nil, List.drop_succ_cons, List.drop_zero, List.append_nil, Nat.zero_add, List.drop_nil] at hBy
             have D5 := Lib.hid (H5.out.2.grown hgy H5.out.2.size (fun j hj => by injection hj with hj; omega))
             have C5 := Lib.hid hBy
             have B5 := Lib.hid (gt A5.out D5.out)
             clear hBy hgy hzy))
        have hBkt := C5.out
        have t0 := hBkt.cell 0
        have t1 := hBkt.cell 1
        have t2 := hBkt.cell 2
        have t3 := hBkt.cell 3
        have t4 := hBkt.cell 4
        simp only [List.getElem?_cons_succ, List.getElem?_cons_zero] at t0 t1 t2 t3 t4
        obtain ⟨h11, hh11⟩ : ∃ x, x = w5.heap.size := ⟨_, rfl⟩
        rw [← hh11] at t0 t1 t2 t3 t4 ⊢
        clear hBkt hh11
        go_wp2_with (first
          | (go_at_call 18; go_must (refine (none_zero _).mono ?_); rintro e w6 ⟨rfl, hb6⟩; have B6 := Lib.hid (gt B5.out hb6); clear hb6))
        go_ret
        exact ⟨rfl, B6.out⟩
      · obtain ⟨k, rfl⟩ : ∃ k : Nat, z = (k : Int) := ⟨z.toNat, by omega⟩
        have b1 : decide ((k : Int) < 0) = false := decide_eq_false hz0
        have b2 : decide ((N : Int) ≤ (k : Int)) = false := decide_eq_false hzN
        have b3 : decide (N ≤ k) = false := by rw [decide_eq_false_iff_not]; omega
        have HK := Lib.hid (show k < N by omega)
        have e5 : (k : Int) ≤ (c : Int) := by have := HN.out; omega
        have e6 : (0 : Int) ≤ (k : Int) := by omega
        clear hz0 hzN hkk hN1 e1 e2 e3 e4
        go_upto_region 14 with (first
          | (go_at_call 16; (with_reducible show Calls _ _ #[_] _ _); go_must (refine (CK.out k HK.out _ B4.out).mono ?_); rintro e w5 hp; obtain ⟨hb, rfl⟩ := hp; have A5 := Lib.hid (gt B4.out hb); have E5 := Lib.hid hb; clear hb)
          | ((with_reducible show wpList _ _ _ (⟨some 11, .alloc _, _, _, _, _⟩ :: _) _ _); go_must (refine wpList_allocB AR rfl rfl w5.heap.size rfl ?_); intro w5a hBx hbx hzx; have H5 := Lib.hid (And.intro hBx hbx); clear hBx hbx hzx)
          | ((with_reducible show wpList _ _ _ (⟨none, .store _ (.tmp 11) _, _, _, _, _⟩ :: _) _ _); go_must (refine wpList_storeB AR rfl (.tmp 11) (.tmp 67) rfl w5.heap.size 0 rfl [.string ⟨#[]⟩, .string ⟨#[]⟩, .slice none 0 0, .slice none 0 0, .bool false] rfl rfl _ _ H5.out.1 (by simp) (by simp [Value.oneCell']) ?_); intro w5b hBy hgy hzy
             simp only [splice, List.take_zero, List.nil_append, List.length_cons, List.length_nil, List.drop_succ_cons, List.drop_zero, List.append_nil, Nat.zero_add, List.drop_nil] at hBy
             have D5 := Lib.hid (H5.out.2.grown hgy H5.out.2.size (fun j hj => by injection hj with hj; omega))
             have C5 := Lib.hid hBy
             have B5 := Lib.hid (gt A5.out D5.out)
             clear hBy hgy hzy))
        have hBkt := C5.out
        have t0 := hBkt.cell 0
        have t1 := hBkt.cell 1
        have t2 := hBkt.cell 2
        have t3 := hBkt.cell 3
        have t4 := hBkt.cell 4
        simp only [List.getElem?_cons_succ, List.getElem?_cons_zero] at t0 t1 t2 t3 t4
        obtain ⟨h11, hh11⟩ : ∃ x, x = w5.heap.size := ⟨_, rfl⟩
        rw [← hh11] at t0 t1 t2 t3 t4 ⊢
        clear hBkt hh11
        go_wp2_with (first
          | (go_at_call 18; go_must (refine (none_zero _).mono ?_); rintro e w6 ⟨rfl, hb6⟩; have B6 := Lib.hid (gt B5.out hb6); clear hb6))
        go_ret
        exact ⟨rfl, B6.out⟩
end Go.Proofs.YtojemdggbcklkaaDoor.WireR
