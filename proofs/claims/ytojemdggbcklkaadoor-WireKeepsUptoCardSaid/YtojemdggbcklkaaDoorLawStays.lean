/- weirlaw28.WireStays: the walk. (Printed by mklstays.py.) -/
import Derived.Test.YtojemdggbcklkaaDoorLawShort
import Derived.Test.YtojemdggbcklkaaDoorAppG
namespace Go.Proofs.YtojemdggbcklkaaDoor.WireR
open Go.RowKit Go.Proofs.YtojemdggbcklkaaDoor.Mem Go.Proofs.YtojemdggbcklkaaDoor.Wire Go.Proofs.YtojemdggbcklkaaDoor.Strs Go.Proofs.YtojemdggbcklkaaDoor.Heads
set_option linter.unusedVariables false
set_option linter.unusedSimpArgs false
set_option maxRecDepth 4000

theorem take_more (raw z : Bytes) : (raw ++ z).take Most = raw.take Most ++ z.take (Most - raw.length) := List.take_append
theorem stays_ok {raw : Bytes} {rq : Req} {n : Nat} (h : readAll raw = .ok (rq, n)) (z : Bytes) : readAll (raw ++ z) = .ok (rq, n) := by
  unfold readAll at h ⊢
  cases hr : readS (raw.take Most) with
  | err e => rw [hr] at h; cases h
  | ok r t =>
    rw [hr] at h
    injection h with h
    injection h with h1 h2
    subst h1
    obtain ⟨u, hu, hext⟩ := good_read.ok hr
    rw [take_more, hu, List.append_assoc, hext]
    simp only
    congr 2
    rw [← h2, hu]
    simp only [List.length_append]
    omega
theorem stays_err {raw : Bytes} {er : Nat} (h : readAll raw = .error er) (h3 : er ≠ 283) (z : Bytes) : readAll (raw ++ z) = .error er := by
  unfold readAll at h ⊢
  cases hr : readS (raw.take Most) with
  | ok r t => rw [hr] at h; cases h
  | err e =>
    rw [hr] at h
    injection h with h
    by_cases he : e = 283
    · by_cases hM : Most < raw.length
      · rw [take_more, show Most - raw.length = 0 by omega, List.take_zero, List.append_nil, hr]
        simp only
        rw [if_pos ⟨he, by rw [List.length_append]; omega⟩]
        rw [if_pos ⟨he, hM⟩] at h
        rw [h]
      · rw [if_neg (fun x => hM x.2)] at h
        exact absurd (h ▸ he) h3
    · rw [if_neg (fun x => he x.1)] at h
      rw [take_more, good_read.err hr he]
      simp only
      rw [if_neg (fun x => he x.1), h]
theorem short_len {raw : Bytes} (h : readAll raw = .error 283) : raw.length ≤ 65536 := by
  unfold readAll at h
  cases hr : readS (raw.take Most) with
  | ok r t => rw [hr] at h; cases h
  | err e =>
    rw [hr] at h
    injection h with h
    by_cases hM : Most < raw.length
    · by_cases he : e = 283
      · rw [if_pos ⟨he, hM⟩] at h; cases h
      · rw [if_neg (fun x => he x.1)] at h; exact absurd h he
    · unfold Most at hM; omega
theorem OwnB.form {w : World} {B n : Nat} {e : TypeId} {v : Value} {l : List UInt8} (h : OwnB w B e v l) (hn : n = l.length) : ∃ A c, v = .slice A n c ∧ n ≤ c := by
  subst hn
  rcases h with ⟨rfl, rfl⟩ | ⟨g, cap, cur, fz, rfl, _, _, h1, _⟩
  · exact ⟨none, 0, rfl, Nat.le_refl _⟩
  · exact ⟨_, _, rfl, h1⟩
theorem OwnB.rd {w : World} {B : Nat} {e : TypeId} {A : Option Addr} {n c : Nat} {l : List UInt8} (h : OwnB w B e (.slice A n c) l) : RB w A l := by
  obtain ⟨A', c', hv, hr⟩ := h.rb
  injection hv with h1 _ _
  rw [h1]; exact hr
set_option maxHeartbeats 16000000 in
theorem law_stays (A : Option Addr) (n c : Nat) (raw : List UInt8) (A' : Option Addr) (n' c' : Nat) (more : List UInt8) (w : World) (hA : RB w A raw) (hn : n = raw.length) (hc : n ≤ c) (hl : n ≤ 1073741824) (hA' : RB w A' more) (hn' : n' = more.length) (hl' : n' ≤ 1073741824) :
    Calls Tryd.prog 5 #[.slice A n c, .slice A' n' c'] w fun e w' => e = .returned (.bool true) ∧ Below w.heap.size w w' := by
  have cp := fun (W : World) (h : Below w.heap.size w W) => read_any A n c raw W (hA.below h) hn hc (by omega)
  obtain ⟨nn, hnn⟩ : ∃ x, x = (raw ++ more).length := ⟨_, rfl⟩
  have cm := fun (S : Option Addr) (cc : Nat) (W : World) (h : RB W S (raw ++ more)) (h2 : nn ≤ cc) => read_any S nn cc (raw ++ more) W h hnn h2 (by rw [hnn, List.length_append]; omega)
  have HNN := Lib.hid hnn
  clear hnn
  have HA := Lib.hid (And.intro hA hA')
  have HL := Lib.hid (And.intro hn (And.intro hn' (And.intro hl hl')))
  cases hr : readAll raw with
  | error er =>
    have her := all_err hr
    simp only [hr] at cp
    have he0 : ((er : Nat) : Int) ≠ 0 := by omega
    have be0 : (((er : Nat) : Int) == 0) = false := by rw [beq_eq_false_iff_ne]; exact he0
    have CP := Lib.hid cp
    have sm : ∀ W, Calls Tryd.prog 17 #[.agg #[.string ⟨#[]⟩, .string ⟨#[]⟩, .slice none 0 0, .slice none 0 0, .bool false], .agg #[.string ⟨#[]⟩, .string ⟨#[]⟩, .slice none 0 0, .slice none 0 0, .bool false]] W fun e w' => e = .returned (.bool true) ∧ Below W.heap.size W w' := fun W =>
      same_req (w := W) ⟨[], [], [], [], false⟩ ⟨[], [], [], [], false⟩ none 0 none 0 none 0 none 0 rfl (RV.nil _ _) (RV.nil _ _) (RB.nil _ _) (RB.nil _ _) (by intro ad h; cases h) (by intro ad h; cases h) (by simp) (by simp)
    have SM := Lib.hid sm
    clear sm
    by_cases h3 : er = 283
    · have b3 : ((er : Int) == 283) = true := by simp; omega
      have hlen := short_len (h3 ▸ hr)
      have i1 : decide ((n : Int) ≤ 65536) = true := by rw [decide_eq_true_iff]; omega
      have i2 : (n : Int) ≤ 65536 := by omega
      obtain ⟨r2, hr2⟩ : ∃ r, r = readAll (raw ++ more) := ⟨_, rfl⟩
      simp only [← hr2] at cm
      cases r2 with
      | error e2 =>
        have CM := Lib.hid cm
        clear cp cm hr hA hA' hn hn' hc hl hl' her h3 hlen hr2
        go_enter Tryd.func5, Tryd.ntmps5
        go_upto_region 5 with (first
          | (go_at_call 14; go_must (refine (awake_any _).mono ?_); rintro e w1 ⟨rfl, hb1⟩; have B1 := Lib.hid hb1; clear hb1)
          | (go_at_call 16; (with_reducible show Calls _ _ #[.slice A n c] _ _); go_must (refine (CP.out _ B1.out).mono ?_); rintro e w2 hp; obtain ⟨hb, rfl⟩ := hp; have A2 := Lib.hid (gt B1.out hb); have E2 := Lib.hid hb; clear hb)
          | ((with_reducible show wpList _ _ _ (⟨some 5, .alloc _, _, _, _, _⟩ :: _) _ _); go_must (refine wpList_allocB AR rfl rfl w2.heap.size rfl ?_); intro w2a hBx hbx hzx; have H2 := Lib.hid (And.intro hBx hbx); clear hBx hbx hzx)
          | ((with_reducible show wpList _ _ _ (⟨none, .store _ (.tmp 5) _, _, _, _, _⟩ :: _) _ _); go_must (refine wpList_storeB AR rfl (.tmp 5) (.tmp 16) rfl w2.heap.size 0 rfl [.string ⟨#[]⟩, .string ⟨#[]⟩, .slice none 0 0, .slice none 0 0, .bool false] rfl rfl _ _ H2.out.1 (by simp) (by simp [Value.oneCell']) ?_); intro w2b hBy hgy hzy
             simp only [splice, List.take_zero, List.nil_append, List.length_cons, List.length_nil, List.drop_succ_cons, List.drop_zero, List.append_nil, Nat.zero_add, List.drop_nil] at hBy
             have D2 := Lib.hid (H2.out.2.grown hgy H2.out.2.size (fun j hj => by injection hj with hj; omega))
             have C2 := Lib.hid hBy
             have B2 := Lib.hid (gt A2.out D2.out)
             clear hBy hgy hzy)
          | ((with_reducible show wpList _ _ _ (⟨some 20, _, _, _, _, _⟩ :: _) _ _); go_must (refine Seal.wpList_zeroG EB (by decide) rfl rfl w2b.heap.size rfl ?_); intro w3 ho3 hb3 hz3; have O3 := Lib.hid (OwnB.of_own (l := []) ho3); have E3 := Lib.hid hb3; have B3 := Lib.hid (gt B2.out hb3); clear ho3 hb3 hz3)
          | ((with_reducible show wpList _ _ _ (⟨some 22, _, _, _, _, _⟩ :: _) _ _); go_must (refine wpList_appBB rfl (.tmp 20) (.tmp 21) rfl Tryd.underlying22 (by kernel_rfl) rfl O3.out E3.out.size A n c raw rfl HL.out.1 (HA.out.1.below B3.out) (by have := HL.out; simp; omega) ?_); intro v4 w4 ho hg; have E4 := Lib.hid (OwnB.below O3.out E3.out hg E3.out.size); rw [List.nil_append] at ho; have O4 := Lib.hid ho; obtain ⟨S4, c4, rfl, hc4⟩ := OwnB.form ho HL.out.1; clear ho hg hc4)
          | ((with_reducible show wpList _ _ _ (⟨some 24, _, _, _, _, _⟩ :: _) _ _); go_must (refine wpList_appBB rfl (.tmp 22) (.tmp 23) rfl Tryd.underlying22 (by kernel_rfl) rfl O4.out E4.out.size A' n' c' more rfl HL.out.2.1 (HA.out.2.below (gt B2.out (E4.out))) (by have := HL.out; omega) ?_); intro v5 w5 ho hg; have E5 := Lib.hid (OwnB.below O4.out E4.out hg E4.out.size); have B5 := Lib.hid (gt B2.out E5.out); obtain ⟨S5, c5, rfl, hc5⟩ := OwnB.form ho HNN.out; have O5 := Lib.hid (And.intro (OwnB.rd ho) hc5); clear ho hg hc5)
          | (go_at_call 16; (with_reducible show Calls _ _ #[_] _ _); go_must (refine (CM.out S5 c5 w5 O5.out.1 O5.out.2).mono ?_); rintro e w6 hp; obtain ⟨hb, rfl⟩ := hp; have A6 := Lib.hid (gt B5.out hb); have E6 := Lib.hid hb; clear hb)
          | ((with_reducible show wpList _ _ _ (⟨some 8, .alloc _, _, _, _, _⟩ :: _) _ _); go_must (refine wpList_allocB AR rfl rfl w6.heap.size rfl ?_); intro w6a hBx hbx hzx; have H6 := Lib.hid (And.intro hBx hbx); clear hBx hbx hzx)
          | ((with_reducible show wpList _ _ _ (⟨none, .store _ (.tmp 8) _, _, _, _, _⟩ :: _) _ _); go_must (refine wpList_storeB AR rfl (.tmp 8) (.tmp 26) rfl w6.heap.size 0 rfl [.string ⟨#[]⟩, .string ⟨#[]⟩, .slice none 0 0, .slice none 0 0, .bool false] rfl rfl _ _ H6.out.1 (by simp) (by simp [Value.oneCell']) ?_); intro w6b hBy hgy hzy
             simp only [splice, List.take_zero, List.nil_append, List.length_cons, List.length_nil, List.drop_succ_cons, List.drop_zero, List.append_nil, Nat.zero_add, List.drop_nil] at hBy
             have D6 := Lib.hid (H6.out.2.grown hgy H6.out.2.size (fun j hj => by injection hj with hj; omega))
             have C6 := Lib.hid hBy
             have B6 := Lib.hid (gt A6.out D6.out)
             clear hBy hgy hzy))
        have hBku := ((C2.out.grow E5.out).grow E6.out).grow D6.out
        have u0 := hBku.cell 0
        have u1 := hBku.cell 1
        have u2 := hBku.cell 2
        have u3 := hBku.cell 3
        have u4 := hBku.cell 4
        simp only [List.getElem?_cons_succ, List.getElem?_cons_zero] at u0 u1 u2 u3 u4
        obtain ⟨h5, hhh5⟩ : ∃ x, x = w2.heap.size := ⟨_, rfl⟩
        rw [← hhh5] at u0 u1 u2 u3 u4 ⊢
        clear hBku hhh5
        go_wp2_with (first
          | (go_at_call 18; go_must (refine (none_zero _).mono ?_); rintro e w7 ⟨rfl, hb7⟩; have B7 := Lib.hid (gt B6.out hb7); have E7 := Lib.hid hb7; clear hb7))
        go_ret
        exact ⟨rfl, B7.out⟩
      | ok x2 =>
        obtain ⟨rq, N⟩ := x2
        obtain ⟨smm, hsm⟩ : ∃ x, x = (⟨rq.method.toArray⟩ : ByteArray) := ⟨_, rfl⟩
        obtain ⟨stg, hst⟩ : ∃ x, x = (⟨rq.target.toArray⟩ : ByteArray) := ⟨_, rfl⟩
        obtain ⟨hm, hhm⟩ : ∃ x, x = rq.headers.length := ⟨_, rfl⟩
        obtain ⟨bl, hbl⟩ : ∃ x, x = rq.body.length := ⟨_, rfl⟩
        obtain ⟨cl, hcl⟩ : ∃ x, x = rq.close := ⟨_, rfl⟩
        unfold ReadPost at cm
        simp only at cm
        rw [← hsm, ← hst, ← hhm, ← hbl, ← hcl] at cm
        have CM := Lib.hid cm
        clear cp cm hr hA hA' hn hn' hc hl hl' her h3 hlen hr2 hsm hst hhm hbl hcl
        go_enter Tryd.func5, Tryd.ntmps5
        go_upto_region 5 with (first
          | (go_at_call 14; go_must (refine (awake_any _).mono ?_); rintro e w1 ⟨rfl, hb1⟩; have B1 := Lib.hid hb1; clear hb1)
          | (go_at_call 16; (with_reducible show Calls _ _ #[.slice A n c] _ _); go_must (refine (CP.out _ B1.out).mono ?_); rintro e w2 hp; obtain ⟨hb, rfl⟩ := hp; have A2 := Lib.hid (gt B1.out hb); have E2 := Lib.hid hb; clear hb)
          | ((with_reducible show wpList _ _ _ (⟨some 5, .alloc _, _, _, _, _⟩ :: _) _ _); go_must (refine wpList_allocB AR rfl rfl w2.heap.size rfl ?_); intro w2a hBx hbx hzx; have H2 := Lib.hid (And.intro hBx hbx); clear hBx hbx hzx)
          | ((with_reducible show wpList _ _ _ (⟨none, .store _ (.tmp 5) _, _, _, _, _⟩ :: _) _ _); go_must (refine wpList_storeB AR rfl (.tmp 5) (.tmp 16) rfl w2.heap.size 0 rfl [.string ⟨#[]⟩, .string ⟨#[]⟩, .slice none 0 0, .slice none 0 0, .bool false] rfl rfl _ _ H2.out.1 (by simp) (by simp [Value.oneCell']) ?_); intro w2b hBy hgy hzy
             simp only [splice, List.take_zero, List.nil_append, List.length_cons, List.length_nil, List.drop_succ_cons, List.drop_zero, List.append_nil, Nat.zero_add, List.drop_nil] at hBy
             have D2 := Lib.hid (H2.out.2.grown hgy H2.out.2.size (fun j hj => by injection hj with hj; omega))
             have C2 := Lib.hid hBy
             have B2 := Lib.hid (gt A2.out D2.out)
             clear hBy hgy hzy)
          | ((with_reducible show wpList _ _ _ (⟨some 20, _, _, _, _, _⟩ :: _) _ _); go_must (refine Seal.wpList_zeroG EB (by decide) rfl rfl w2b.heap.size rfl ?_); intro w3 ho3 hb3 hz3; have O3 := Lib.hid (OwnB.of_own (l := []) ho3); have E3 := Lib.hid hb3; have B3 := Lib.hid (gt B2.out hb3); clear ho3 hb3 hz3)
          | ((with_reducible show wpList _ _ _ (⟨some 22, _, _, _, _, _⟩ :: _) _ _); go_must (refine wpList_appBB rfl (.tmp 20) (.tmp 21) rfl Tryd.underlying22 (by kernel_rfl) rfl O3.out E3.out.size A n c raw rfl HL.out.1 (HA.out.1.below B3.out) (by have := HL.out; simp; omega) ?_); intro v4 w4 ho hg; have E4 := Lib.hid (OwnB.below O3.out E3.out hg E3.out.size); rw [List.nil_append] at ho; have O4 := Lib.hid ho; obtain ⟨S4, c4, rfl, hc4⟩ := OwnB.form ho HL.out.1; clear ho hg hc4)
          | ((with_reducible show wpList _ _ _ (⟨some 24, _, _, _, _, _⟩ :: _) _ _); go_must (refine wpList_appBB rfl (.tmp 22) (.tmp 23) rfl Tryd.underlying22 (by kernel_rfl) rfl O4.out E4.out.size A' n' c' more rfl HL.out.2.1 (HA.out.2.below (gt B2.out (E4.out))) (by have := HL.out; omega) ?_); intro v5 w5 ho hg; have E5 := Lib.hid (OwnB.below O4.out E4.out hg E4.out.size); have B5 := Lib.hid (gt B2.out E5.out); obtain ⟨S5, c5, rfl, hc5⟩ := OwnB.form ho HNN.out; have O5 := Lib.hid (And.intro (OwnB.rd ho) hc5); clear ho hg hc5)
          | (go_at_call 16; (with_reducible show Calls _ _ #[_] _ _); go_must (refine (CM.out S5 c5 w5 O5.out.1 O5.out.2).mono ?_); rintro e w6 hp; obtain ⟨hb, A2, k2, P2, q2, K2, rfl, ho2, hK2, hw2, hob2⟩ := hp; have A6 := Lib.hid (gt B5.out hb); have E6 := Lib.hid hb; have R2 := Lib.hid (And.intro ho2 hob2); clear ho2 hK2 hw2 hob2; clear hb)
          | ((with_reducible show wpList _ _ _ (⟨some 8, .alloc _, _, _, _, _⟩ :: _) _ _); go_must (refine wpList_allocB AR rfl rfl w6.heap.size rfl ?_); intro w6a hBx hbx hzx; have H6 := Lib.hid (And.intro hBx hbx); clear hBx hbx hzx)
          | ((with_reducible show wpList _ _ _ (⟨none, .store _ (.tmp 8) _, _, _, _, _⟩ :: _) _ _); go_must (refine wpList_storeB AR rfl (.tmp 8) (.tmp 26) rfl w6.heap.size 0 rfl [.string smm, .string stg, .slice A2 hm k2, .slice P2 bl q2, .bool cl] rfl rfl _ _ H6.out.1 (by simp) (by simp [Value.oneCell']) ?_); intro w6b hBy hgy hzy
             simp only [splice, List.take_zero, List.nil_append, List.length_cons, List.length_nil, List.drop_succ_cons, List.drop_zero, List.append_nil, Nat.zero_add, List.drop_nil] at hBy
             have D6 := Lib.hid (H6.out.2.grown hgy H6.out.2.size (fun j hj => by injection hj with hj; omega))
             have C6 := Lib.hid hBy
             have B6 := Lib.hid (gt A6.out D6.out)
             clear hBy hgy hzy))
        have hBku := ((C2.out.grow E5.out).grow E6.out).grow D6.out
        have u0 := hBku.cell 0
        have u1 := hBku.cell 1
        have u2 := hBku.cell 2
        have u3 := hBku.cell 3
        have u4 := hBku.cell 4
        simp only [List.getElem?_cons_succ, List.getElem?_cons_zero] at u0 u1 u2 u3 u4
        obtain ⟨h5, hhh5⟩ : ∃ x, x = w2.heap.size := ⟨_, rfl⟩
        rw [← hhh5] at u0 u1 u2 u3 u4 ⊢
        clear hBku hhh5
        go_wp2_with (first
          | (go_at_call 18; go_must (refine (none_zero _).mono ?_); rintro e w7 ⟨rfl, hb7⟩; have B7 := Lib.hid (gt B6.out hb7); have E7 := Lib.hid hb7; clear hb7))
        go_ret
        exact ⟨rfl, B7.out⟩
    · have b3 : ((er : Int) == 283) = false := by rw [beq_eq_false_iff_ne]; omega
      simp only [stays_err hr h3] at cm
      have CM := Lib.hid cm
      clear cp cm hr hA hA' hn hn' hc hl hl' her h3
      go_enter Tryd.func5, Tryd.ntmps5
      go_upto_region 5 with (first
        | (go_at_call 14; go_must (refine (awake_any _).mono ?_); rintro e w1 ⟨rfl, hb1⟩; have B1 := Lib.hid hb1; clear hb1)
        | (go_at_call 16; (with_reducible show Calls _ _ #[.slice A n c] _ _); go_must (refine (CP.out _ B1.out).mono ?_); rintro e w2 hp; obtain ⟨hb, rfl⟩ := hp; have A2 := Lib.hid (gt B1.out hb); have E2 := Lib.hid hb; clear hb)
        | ((with_reducible show wpList _ _ _ (⟨some 5, .alloc _, _, _, _, _⟩ :: _) _ _); go_must (refine wpList_allocB AR rfl rfl w2.heap.size rfl ?_); intro w2a hBx hbx hzx; have H2 := Lib.hid (And.intro hBx hbx); clear hBx hbx hzx)
        | ((with_reducible show wpList _ _ _ (⟨none, .store _ (.tmp 5) _, _, _, _, _⟩ :: _) _ _); go_must (refine wpList_storeB AR rfl (.tmp 5) (.tmp 16) rfl w2.heap.size 0 rfl [.string ⟨#[]⟩, .string ⟨#[]⟩, .slice none 0 0, .slice none 0 0, .bool false] rfl rfl _ _ H2.out.1 (by simp) (by simp [Value.oneCell']) ?_); intro w2b hBy hgy hzy
           simp only [splice, List.take_zero, List.nil_append, List.length_cons, List.length_nil, List.drop_succ_cons, List.drop_zero, List.append_nil, Nat.zero_add, List.drop_nil] at hBy
           have D2 := Lib.hid (H2.out.2.grown hgy H2.out.2.size (fun j hj => by injection hj with hj; omega))
           have C2 := Lib.hid hBy
           have B2 := Lib.hid (gt A2.out D2.out)
           clear hBy hgy hzy)
        | ((with_reducible show wpList _ _ _ (⟨some 20, _, _, _, _, _⟩ :: _) _ _); go_must (refine Seal.wpList_zeroG EB (by decide) rfl rfl w2b.heap.size rfl ?_); intro w3 ho3 hb3 hz3; have O3 := Lib.hid (OwnB.of_own (l := []) ho3); have E3 := Lib.hid hb3; have B3 := Lib.hid (gt B2.out hb3); clear ho3 hb3 hz3)
        | ((with_reducible show wpList _ _ _ (⟨some 22, _, _, _, _, _⟩ :: _) _ _); go_must (refine wpList_appBB rfl (.tmp 20) (.tmp 21) rfl Tryd.underlying22 (by kernel_rfl) rfl O3.out E3.out.size A n c raw rfl HL.out.1 (HA.out.1.below B3.out) (by have := HL.out; simp; omega) ?_); intro v4 w4 ho hg; have E4 := Lib.hid (OwnB.below O3.out E3.out hg E3.out.size); rw [List.nil_append] at ho; have O4 := Lib.hid ho; obtain ⟨S4, c4, rfl, hc4⟩ := OwnB.form ho HL.out.1; clear ho hg hc4)
        | ((with_reducible show wpList _ _ _ (⟨some 24, _, _, _, _, _⟩ :: _) _ _); go_must (refine wpList_appBB rfl (.tmp 22) (.tmp 23) rfl Tryd.underlying22 (by kernel_rfl) rfl O4.out E4.out.size A' n' c' more rfl HL.out.2.1 (HA.out.2.below (gt B2.out (E4.out))) (by have := HL.out; omega) ?_); intro v5 w5 ho hg; have E5 := Lib.hid (OwnB.below O4.out E4.out hg E4.out.size); have B5 := Lib.hid (gt B2.out E5.out); obtain ⟨S5, c5, rfl, hc5⟩ := OwnB.form ho HNN.out; have O5 := Lib.hid (And.intro (OwnB.rd ho) hc5); clear ho hg hc5)
        | (go_at_call 16; (with_reducible show Calls _ _ #[_] _ _); go_must (refine (CM.out S5 c5 w5 O5.out.1 O5.out.2).mono ?_); rintro e w6 hp; obtain ⟨hb, rfl⟩ := hp; have A6 := Lib.hid (gt B5.out hb); have E6 := Lib.hid hb; clear hb)
        | ((with_reducible show wpList _ _ _ (⟨some 8, .alloc _, _, _, _, _⟩ :: _) _ _); go_must (refine wpList_allocB AR rfl rfl w6.heap.size rfl ?_); intro w6a hBx hbx hzx; have H6 := Lib.hid (And.intro hBx hbx); clear hBx hbx hzx)
        | ((with_reducible show wpList _ _ _ (⟨none, .store _ (.tmp 8) _, _, _, _, _⟩ :: _) _ _); go_must (refine wpList_storeB AR rfl (.tmp 8) (.tmp 26) rfl w6.heap.size 0 rfl [.string ⟨#[]⟩, .string ⟨#[]⟩, .slice none 0 0, .slice none 0 0, .bool false] rfl rfl _ _ H6.out.1 (by simp) (by simp [Value.oneCell']) ?_); intro w6b hBy hgy hzy
           simp only [splice, List.take_zero, List.nil_append, List.length_cons, List.length_nil, List.drop_succ_cons, List.drop_zero, List.append_nil, Nat.zero_add, List.drop_nil] at hBy
           have D6 := Lib.hid (H6.out.2.grown hgy H6.out.2.size (fun j hj => by injection hj with hj; omega))
           have C6 := Lib.hid hBy
           have B6 := Lib.hid (gt A6.out D6.out)
           clear hBy hgy hzy))
      have hBku := ((C2.out.grow E5.out).grow E6.out).grow D6.out
      have u0 := hBku.cell 0
      have u1 := hBku.cell 1
      have u2 := hBku.cell 2
      have u3 := hBku.cell 3
      have u4 := hBku.cell 4
      simp only [List.getElem?_cons_succ, List.getElem?_cons_zero] at u0 u1 u2 u3 u4
      obtain ⟨h5, hhh5⟩ : ∃ x, x = w2.heap.size := ⟨_, rfl⟩
      rw [← hhh5] at u0 u1 u2 u3 u4 ⊢
      clear hBku hhh5
      have hBkv := C6.out
      have v0 := hBkv.cell 0
      have v1 := hBkv.cell 1
      have v2 := hBkv.cell 2
      have v3 := hBkv.cell 3
      have v4 := hBkv.cell 4
      simp only [List.getElem?_cons_succ, List.getElem?_cons_zero] at v0 v1 v2 v3 v4
      obtain ⟨h8, hhh8⟩ : ∃ x, x = w6.heap.size := ⟨_, rfl⟩
      rw [← hhh8] at v0 v1 v2 v3 v4 ⊢
      clear hBkv hhh8
      go_upto_region 9 with (first
        | (go_at_call 18; go_must (refine (none_zero _).mono ?_); rintro e w7 ⟨rfl, hb7⟩; have B7 := Lib.hid (gt B6.out hb7); have E7 := Lib.hid hb7; clear hb7))
      replace u0 := cell_grow u0 E7.out
      replace u1 := cell_grow u1 E7.out
      replace u2 := cell_grow u2 E7.out
      replace u3 := cell_grow u3 E7.out
      replace u4 := cell_grow u4 E7.out
      replace v0 := cell_grow v0 E7.out
      replace v1 := cell_grow v1 E7.out
      replace v2 := cell_grow v2 E7.out
      replace v3 := cell_grow v3 E7.out
      replace v4 := cell_grow v4 E7.out
      go_wp2_with (first
        | (go_at_call 17; go_must (refine (SM.out _).mono ?_); rintro e w8 ⟨rfl, hb8⟩; have B8 := Lib.hid (gt B7.out hb8); clear hb8))
      go_ret
      exact ⟨rfl, B8.out⟩
  | ok x =>
    obtain ⟨rq, N⟩ := x
    have hlen := all_len hr
    obtain ⟨hN1, hNn, hN65, hwhole, hpart⟩ := all_ok hr
    simp only [hr] at cp
    simp only [stays_ok hr] at cm
    have sm := fun (W : World) A5 k5 A7 k7 B5 l5 B7 l7 h1 h2 h3 h4 h5 h6 => same_req (w := W) rq rq A5 k5 A7 k7 B5 l5 B7 l7 rfl h1 h2 h3 h4 h5 h6 (by omega) (by omega)
    obtain ⟨smm, hsm⟩ : ∃ x, x = (⟨rq.method.toArray⟩ : ByteArray) := ⟨_, rfl⟩
    obtain ⟨stg, hst⟩ : ∃ x, x = (⟨rq.target.toArray⟩ : ByteArray) := ⟨_, rfl⟩
    obtain ⟨hm, hhm⟩ : ∃ x, x = rq.headers.length := ⟨_, rfl⟩
    obtain ⟨bl, hbl⟩ : ∃ x, x = rq.body.length := ⟨_, rfl⟩
    obtain ⟨cl, hcl⟩ : ∃ x, x = rq.close := ⟨_, rfl⟩
    unfold ReadPost at cp cm
    simp only at cp cm
    rw [← hsm, ← hst, ← hhm, ← hbl, ← hcl] at cp cm sm
    have CP := Lib.hid cp
    have CM := Lib.hid cm
    have SM := Lib.hid sm
    have i1 : decide ((N : Int) < 1) = false := by rw [decide_eq_false_iff_not]; omega
    have i2 : decide ((n : Int) < (N : Int)) = false := by rw [decide_eq_false_iff_not]; omega
    have i3 : decide (n < N) = false := by rw [decide_eq_false_iff_not]; omega
    have i4 : ¬ n < N := by omega
    have i7 : decide ((65536 : Int) < (N : Int)) = false := by rw [decide_eq_false_iff_not]; omega
    clear cp cm hr hA hA' hn hn' hc hl hl' sm hsm hst hhm hbl hcl hlen hwhole hpart hN1 hNn hN65
    go_enter Tryd.func5, Tryd.ntmps5
    go_upto_region 5 with (first
      | (go_at_call 14; go_must (refine (awake_any _).mono ?_); rintro e w1 ⟨rfl, hb1⟩; have B1 := Lib.hid hb1; clear hb1)
      | (go_at_call 16; (with_reducible show Calls _ _ #[.slice A n c] _ _); go_must (refine (CP.out _ B1.out).mono ?_); rintro e w2 hp; obtain ⟨hb, A1, k1, P1, q1, K1, rfl, ho1, hK1, hw1, hob1⟩ := hp; have A2 := Lib.hid (gt B1.out hb); have E2 := Lib.hid hb; have R1 := Lib.hid (And.intro ho1 hob1); clear ho1 hK1 hw1 hob1; clear hb)
      | ((with_reducible show wpList _ _ _ (⟨some 5, .alloc _, _, _, _, _⟩ :: _) _ _); go_must (refine wpList_allocB AR rfl rfl w2.heap.size rfl ?_); intro w2a hBx hbx hzx; have H2 := Lib.hid (And.intro hBx hbx); clear hBx hbx hzx)
      | ((with_reducible show wpList _ _ _ (⟨none, .store _ (.tmp 5) _, _, _, _, _⟩ :: _) _ _); go_must (refine wpList_storeB AR rfl (.tmp 5) (.tmp 16) rfl w2.heap.size 0 rfl [.string smm, .string stg, .slice A1 hm k1, .slice P1 bl q1, .bool cl] rfl rfl _ _ H2.out.1 (by simp) (by simp [Value.oneCell']) ?_); intro w2b hBy hgy hzy
         simp only [splice, List.take_zero, List.nil_append, List.length_cons, List.length_nil, List.drop_succ_cons, List.drop_zero, List.append_nil, Nat.zero_add, List.drop_nil] at hBy
         have D2 := Lib.hid (H2.out.2.grown hgy H2.out.2.size (fun j hj => by injection hj with hj; omega))
         have C2 := Lib.hid hBy
         have B2 := Lib.hid (gt A2.out D2.out)
         clear hBy hgy hzy)
      | ((with_reducible show wpList _ _ _ (⟨some 20, _, _, _, _, _⟩ :: _) _ _); go_must (refine Seal.wpList_zeroG EB (by decide) rfl rfl w2b.heap.size rfl ?_); intro w3 ho3 hb3 hz3; have O3 := Lib.hid (OwnB.of_own (l := []) ho3); have E3 := Lib.hid hb3; have B3 := Lib.hid (gt B2.out hb3); clear ho3 hb3 hz3)
      | ((with_reducible show wpList _ _ _ (⟨some 22, _, _, _, _, _⟩ :: _) _ _); go_must (refine wpList_appBB rfl (.tmp 20) (.tmp 21) rfl Tryd.underlying22 (by kernel_rfl) rfl O3.out E3.out.size A n c raw rfl HL.out.1 (HA.out.1.below B3.out) (by have := HL.out; simp; omega) ?_); intro v4 w4 ho hg; have E4 := Lib.hid (OwnB.below O3.out E3.out hg E3.out.size); rw [List.nil_append] at ho; have O4 := Lib.hid ho; obtain ⟨S4, c4, rfl, hc4⟩ := OwnB.form ho HL.out.1; clear ho hg hc4)
      | ((with_reducible show wpList _ _ _ (⟨some 24, _, _, _, _, _⟩ :: _) _ _); go_must (refine wpList_appBB rfl (.tmp 22) (.tmp 23) rfl Tryd.underlying22 (by kernel_rfl) rfl O4.out E4.out.size A' n' c' more rfl HL.out.2.1 (HA.out.2.below (gt B2.out (E4.out))) (by have := HL.out; omega) ?_); intro v5 w5 ho hg; have E5 := Lib.hid (OwnB.below O4.out E4.out hg E4.out.size); have B5 := Lib.hid (gt B2.out E5.out); obtain ⟨S5, c5, rfl, hc5⟩ := OwnB.form ho HNN.out; have O5 := Lib.hid (And.intro (OwnB.rd ho) hc5); clear ho hg hc5)
      | (go_at_call 16; (with_reducible show Calls _ _ #[_] _ _); go_must (refine (CM.out S5 c5 w5 O5.out.1 O5.out.2).mono ?_); rintro e w6 hp; obtain ⟨hb, A2, k2, P2, q2, K2, rfl, ho2, hK2, hw2, hob2⟩ := hp; have A6 := Lib.hid (gt B5.out hb); have E6 := Lib.hid hb; have R2 := Lib.hid (And.intro ho2 hob2); clear ho2 hK2 hw2 hob2; clear hb)
      | ((with_reducible show wpList _ _ _ (⟨some 8, .alloc _, _, _, _, _⟩ :: _) _ _); go_must (refine wpList_allocB AR rfl rfl w6.heap.size rfl ?_); intro w6a hBx hbx hzx; have H6 := Lib.hid (And.intro hBx hbx); clear hBx hbx hzx)
      | ((with_reducible show wpList _ _ _ (⟨none, .store _ (.tmp 8) _, _, _, _, _⟩ :: _) _ _); go_must (refine wpList_storeB AR rfl (.tmp 8) (.tmp 26) rfl w6.heap.size 0 rfl [.string smm, .string stg, .slice A2 hm k2, .slice P2 bl q2, .bool cl] rfl rfl _ _ H6.out.1 (by simp) (by simp [Value.oneCell']) ?_); intro w6b hBy hgy hzy
         simp only [splice, List.take_zero, List.nil_append, List.length_cons, List.length_nil, List.drop_succ_cons, List.drop_zero, List.append_nil, Nat.zero_add, List.drop_nil] at hBy
         have D6 := Lib.hid (H6.out.2.grown hgy H6.out.2.size (fun j hj => by injection hj with hj; omega))
         have C6 := Lib.hid hBy
         have B6 := Lib.hid (gt A6.out D6.out)
         clear hBy hgy hzy))
    have hBku := ((C2.out.grow E5.out).grow E6.out).grow D6.out
    have u0 := hBku.cell 0
    have u1 := hBku.cell 1
    have u2 := hBku.cell 2
    have u3 := hBku.cell 3
    have u4 := hBku.cell 4
    simp only [List.getElem?_cons_succ, List.getElem?_cons_zero] at u0 u1 u2 u3 u4
    obtain ⟨h5, hhh5⟩ : ∃ x, x = w2.heap.size := ⟨_, rfl⟩
    rw [← hhh5] at u0 u1 u2 u3 u4 ⊢
    clear hBku hhh5
    have hBkv := C6.out
    have v0 := hBkv.cell 0
    have v1 := hBkv.cell 1
    have v2 := hBkv.cell 2
    have v3 := hBkv.cell 3
    have v4 := hBkv.cell 4
    simp only [List.getElem?_cons_succ, List.getElem?_cons_zero] at v0 v1 v2 v3 v4
    obtain ⟨h8, hhh8⟩ : ∃ x, x = w6.heap.size := ⟨_, rfl⟩
    rw [← hhh8] at v0 v1 v2 v3 v4 ⊢
    clear hBkv hhh8
    have k1 := SM.out w6b A1 k1 P1 q1 A2 k2 P2 q2 (((((own_rv R1.out.1).below D2.out).below E5.out).below E6.out).below D6.out) ((own_rv R2.out.1).below D6.out) (((((own_rv R1.out.2).rb.below D2.out).below E5.out).below E6.out).below D6.out) ((own_rv R2.out.2).rb.below D6.out) (own_spot R1.out.1) (own_spot R2.out.1)
    have K1 := Lib.hid k1
    clear k1
    go_wp2_with (first
      | (go_at_call 17; go_must (refine (K1.out).mono ?_); rintro e w8 ⟨rfl, hb8⟩; have B8 := Lib.hid (gt B6.out hb8); clear hb8))
    go_ret
    exact ⟨rfl, B8.out⟩
end Go.Proofs.YtojemdggbcklkaaDoor.WireR
