/- weirlaw28.WireTwice: the walk. (Printed by mkltwice.py.) -/
import Derived.Test.YtojemdggbcklkaaDoorWTwiceP
import Derived.Test.YtojemdggbcklkaaDoorWNext
import Derived.Deep.CutBlock
namespace Go.Proofs.YtojemdggbcklkaaDoor.WireR
open Go.RowKit Go.Proofs.YtojemdggbcklkaaDoor.Mem Go.Proofs.YtojemdggbcklkaaDoor.Wire Go.Proofs.YtojemdggbcklkaaDoor.Strs Go.Proofs.YtojemdggbcklkaaDoor.Heads
set_option linter.unusedVariables false
set_option linter.unusedSimpArgs false
set_option maxRecDepth 8000

theorem cut_head {ρ : Operand → Value} {w : World} {o : Oper} {x y : Operand} {A : Option Addr} {n c m : Nat} (ho : o.op = .slice 22 x none (some y) none) (hx : ρ x = .slice A n c) (hy : ρ y = .int .i64 (m : Int)) (hm : m ≤ c) :
    (execOp ρ o).run Tryd.prog w = .ok (.value (.slice (if c = 0 then A else A.map (·.add 0)) m c)) w := by
  have h := run_slice_h (P := Tryd.prog) (w := w) 22 A n c (by rfl) .i64 (m : Int) (by omega) (by omega)
  have hs : (sizeOf (Tryd.prog.elem 22)).run Tryd.prog w = .ok 1 w := by rfl
  rw [hs] at h
  have e : sliced A 0 (m : Int).toNat c 1 = .slice (if c = 0 then A else A.map (·.add 0)) m c := by
    unfold sliced
    simp
  simp only [Result.andThen, e] at h
  simp [execOp, ho, hx, hy, run_sliceAt_slice, h, Result.andThen, (show Tryd.prog.underlying 22 = some (.slice (Tryd.prog.elem 22)) from rfl)]
theorem more0 : (⟨#[72, 111, 115, 116, 58, 32, 98, 13, 10, 104, 79, 83, 84, 58, 32, 99, 13, 10]⟩ : ByteArray) = ⟨(moreB 0).toArray⟩ := rfl
theorem cat_s (w : World) {a b c : List UInt8} (hc : a ++ b = c) (h : a.length + b.length ≤ 9223372036854775807) : (binOp .add 9 (.string ⟨a.toArray⟩) (.string ⟨b.toArray⟩)).run Tryd.prog w = .ok (.string ⟨c.toArray⟩) w := by
  subst hc
  have h1 := run_string_add_sum (P := Tryd.prog) w ⟨a.toArray⟩ ⟨b.toArray⟩ (by simpa [ByteArray.size] using h)
  rw [ByteArray.mk_append_mk] at h1
  simp [binOp, run_underlying Tryd.underlying9, h1]
theorem conv_s (w : World) {A : Option Addr} {l : List UInt8} {n : Nat} (hn : n = l.length) (h : RB w A l) (c : Nat) : (convert 22 9 (.slice A n c)).run Tryd.prog w = .ok (.string ⟨l.toArray⟩) w := by
  subst hn
  exact conv_rb Tryd.underlying22 Tryd.underlying5 Tryd.underlying9 h c
/-- which lines stand for a number -/
def howN (z : Int) : Nat := if z = 1 then 1 else if z = 2 then 2 else if z = 3 then 3 else 0
set_option maxHeartbeats 16000000 in
theorem law_twice (A : Option Addr) (n c : Nat) (raw : List UInt8) (z : Int) (w : World) (hA : RB w A raw) (hn : n = raw.length) (hc : n ≤ c) (hl : n ≤ 1073741824) :
    Calls Tryd.prog 8 #[.slice A n c, .int .i64 z] w fun e w' => e = .returned (.bool true) ∧ Below w.heap.size w w' := by
  have cp := fun (W : World) (h : Below w.heap.size w W) => read_any A n c raw W (hA.below h) hn hc (by omega)
  cases hr : readAll raw with
  | error er =>
    have her := all_err hr
    simp only [hr] at cp
    have he0 : ((er : Nat) : Int) ≠ 0 := by omega
    have CP := Lib.hid cp
    clear cp hr hA hn hc hl her
    go_enter Tryd.func8, Tryd.ntmps8
    go_wp2_with (first
      | (go_at_call 14; go_must (refine (awake_any _).mono ?_); rintro e w1 ⟨rfl, hb1⟩; have B1 := Lib.hid hb1; clear hb1)
      | (go_at_call 16; (with_reducible show Calls _ _ #[_] _ _); go_must (refine (CP.out _ B1.out).mono ?_); rintro e w2 hp; obtain ⟨hb, rfl⟩ := hp; have A2 := Lib.hid (gt B1.out hb); have E2 := Lib.hid hb; clear hb)
      | ((with_reducible show wpList _ _ _ (⟨some 5, .alloc _, _, _, _, _⟩ :: _) _ _); go_must (refine wpList_allocB AR rfl rfl w2.heap.size rfl ?_); intro w2a hBx hbx hzx; have H2 := Lib.hid (And.intro hBx hbx); clear hBx hbx hzx)
      | ((with_reducible show wpList _ _ _ (⟨none, .store _ (.tmp 5) _, _, _, _, _⟩ :: _) _ _); go_must (refine wpList_storeB AR rfl (.tmp 5) (.tmp 19) rfl w2.heap.size 0 rfl [.string ⟨#[]⟩, .string ⟨#[]⟩, .slice none 0 0, .slice none 0 0, .bool false] rfl rfl _ _ H2.out.1 (by simp) (by simp [Value.oneCell']) ?_); intro w2b hBy hgy hzy
         simp only [splice, List.take_zero, List.nil_append, List.length_cons, List.length_nil, List.drop_succ_cons, List.drop_zero, List.append_nil, Nat.zero_add, List.drop_nil] at hBy
         have D2 := Lib.hid (H2.out.2.grown hgy H2.out.2.size (fun j hj => by injection hj with hj; omega))
         have C2 := Lib.hid hBy
         have B2 := Lib.hid (gt A2.out D2.out)
         clear hBy hgy hzy))
    go_ret
    exact ⟨rfl, B2.out⟩
  | ok x =>
    obtain ⟨rq, N⟩ := x
    have hlen := all_len hr
    obtain ⟨hN1, hNn, hN65, _, _⟩ := all_ok hr
    have htw := fun hn6 : N ≤ 60000 => twice hr hn6
    simp only [hr] at cp
    obtain ⟨smm, hsm⟩ : ∃ x, x = (⟨rq.method.toArray⟩ : ByteArray) := ⟨_, rfl⟩
    obtain ⟨stg, hst⟩ : ∃ x, x = (⟨rq.target.toArray⟩ : ByteArray) := ⟨_, rfl⟩
    obtain ⟨hm, hhm⟩ : ∃ x, x = rq.headers.length := ⟨_, rfl⟩
    obtain ⟨bl, hbl⟩ : ∃ x, x = rq.body.length := ⟨_, rfl⟩
    obtain ⟨cl, hcl⟩ : ∃ x, x = rq.close := ⟨_, rfl⟩
    unfold ReadPost at cp
    simp only at cp
    rw [← hsm, ← hst, ← hhm, ← hbl, ← hcl] at cp
    have CP := Lib.hid cp
    clear cp hr hsm hst hhm hbl hcl hlen
    by_cases hN6 : 60000 < N
    · have i1 : decide ((60000 : Int) < (N : Int)) = true := by rw [decide_eq_true_eq]; omega
      clear htw hA hn hc hl hN1 hNn hN65 hN6
      go_enter Tryd.func8, Tryd.ntmps8
      go_wp2_with (first
        | (go_at_call 14; go_must (refine (awake_any _).mono ?_); rintro e w1 ⟨rfl, hb1⟩; have B1 := Lib.hid hb1; clear hb1)
        | (go_at_call 16; (with_reducible show Calls _ _ #[_] _ _); go_must (refine (CP.out _ B1.out).mono ?_); rintro e w2 hp; obtain ⟨hb, A1, k1, P1, q1, K1, rfl, ho1, hK1, hw1, hob1⟩ := hp; have A2 := Lib.hid (gt B1.out hb); have E2 := Lib.hid hb; have R1 := Lib.hid (And.intro ho1 hob1); clear ho1 hK1 hw1 hob1; clear hb)
        | ((with_reducible show wpList _ _ _ (⟨some 5, .alloc _, _, _, _, _⟩ :: _) _ _); go_must (refine wpList_allocB AR rfl rfl w2.heap.size rfl ?_); intro w2a hBx hbx hzx; have H2 := Lib.hid (And.intro hBx hbx); clear hBx hbx hzx)
        | ((with_reducible show wpList _ _ _ (⟨none, .store _ (.tmp 5) _, _, _, _, _⟩ :: _) _ _); go_must (refine wpList_storeB AR rfl (.tmp 5) (.tmp 19) rfl w2.heap.size 0 rfl [.string smm, .string stg, .slice A1 hm k1, .slice P1 bl q1, .bool cl] rfl rfl _ _ H2.out.1 (by simp) (by simp [Value.oneCell']) ?_); intro w2b hBy hgy hzy
           simp only [splice, List.take_zero, List.nil_append, List.length_cons, List.length_nil, List.drop_succ_cons, List.drop_zero, List.append_nil, Nat.zero_add, List.drop_nil] at hBy
           have D2 := Lib.hid (H2.out.2.grown hgy H2.out.2.size (fun j hj => by injection hj with hj; omega))
           have C2 := Lib.hid hBy
           have B2 := Lib.hid (gt A2.out D2.out)
           clear hBy hgy hzy))
      go_ret
      exact ⟨rfl, B2.out⟩
    · have i1 : decide ((60000 : Int) < (N : Int)) = false := by rw [decide_eq_false_iff_not]; omega
      obtain ⟨a, b, hab, ha10, haN, hk⟩ := htw (by omega)
      have HA := Lib.hid (And.intro hA (And.intro hn (And.intro hc (And.intro hl (And.intro hab (And.intro ha10 (And.intro hk (show N ≤ 60000 by omega))))))))
      obtain ⟨p, hp⟩ : ∃ p, p = a.length := ⟨_, rfl⟩
      have HP := Lib.hid (And.intro hp (And.intro (show p < N by omega) (show p < n by omega)))
      clear htw hA hn hc hl hN1 hNn hN65 hN6 hab ha10 haN hk hp
      go_enter Tryd.func8, Tryd.ntmps8
      go_upto_block 0 with (first
        | (go_at_call 14; go_must (refine (awake_any _).mono ?_); rintro e w1 ⟨rfl, hb1⟩; have B1 := Lib.hid hb1; clear hb1)
        | (go_at_call 16; (with_reducible show Calls _ _ #[_] _ _); go_must (refine (CP.out _ B1.out).mono ?_); rintro e w2 hp; obtain ⟨hb, A1, k1, P1, q1, K1, rfl, ho1, hK1, hw1, hob1⟩ := hp; have A2 := Lib.hid (gt B1.out hb); have E2 := Lib.hid hb; have R1 := Lib.hid (And.intro ho1 hob1); clear ho1 hK1 hw1 hob1; clear hb)
        | ((with_reducible show wpList _ _ _ (⟨some 5, .alloc _, _, _, _, _⟩ :: _) _ _); go_must (refine wpList_allocB AR rfl rfl w2.heap.size rfl ?_); intro w2a hBx hbx hzx; have H2 := Lib.hid (And.intro hBx hbx); clear hBx hbx hzx)
        | ((with_reducible show wpList _ _ _ (⟨none, .store _ (.tmp 5) _, _, _, _, _⟩ :: _) _ _); go_must (refine wpList_storeB AR rfl (.tmp 5) (.tmp 19) rfl w2.heap.size 0 rfl [.string smm, .string stg, .slice A1 hm k1, .slice P1 bl q1, .bool cl] rfl rfl _ _ H2.out.1 (by simp) (by simp [Value.oneCell']) ?_); intro w2b hBy hgy hzy
           simp only [splice, List.take_zero, List.nil_append, List.length_cons, List.length_nil, List.drop_succ_cons, List.drop_zero, List.append_nil, Nat.zero_add, List.drop_nil] at hBy
           have D2 := Lib.hid (H2.out.2.grown hgy H2.out.2.size (fun j hj => by injection hj with hj; omega))
           have C2 := Lib.hid hBy
           have B2 := Lib.hid (gt A2.out D2.out)
           clear hBy hgy hzy))
      go_cut [8] from 28 (fun v8 wc => (∃ k, v8 = .string ⟨(moreB k).toArray⟩) ∧ wc = w2b)
      case first =>
        go_upto_region 8 with fail
        obtain ⟨m, hm⟩ : ∃ m, m = bits .and .i64 z 3 := ⟨_, rfl⟩
        rw [← hm]
        clear hm
        by_cases m1 : m = 1
        · subst m1
          go_wp2
          go_meet
          exact ⟨⟨1, rfl⟩, rfl⟩
        · have b1 : (m == 1) = false := by simp [m1]
          by_cases m2 : m = 2
          · subst m2
            go_wp2
            go_meet
            exact ⟨⟨2, rfl⟩, rfl⟩
          · have b2 : (m == 2) = false := by simp [m2]
            by_cases m3 : m = 3
            · subst m3
              go_wp2
              go_meet
              exact ⟨⟨3, rfl⟩, rfl⟩
            · have b3 : (m == 3) = false := by simp [m3]
              go_wp2
              go_meet
              exact ⟨⟨0, rfl⟩, rfl⟩
      case rest =>
        obtain ⟨⟨k, rfl⟩, rfl⟩ := hcut
        obtain ⟨S, hS⟩ : ∃ S, S = a ++ 10 :: (moreB k ++ b) := ⟨_, rfl⟩
        have hSl : S.length ≤ 1073741824 + 100 := by
          have h1 := more_len k
          have h2 := HA.out.2.1
          have h3 := HA.out.2.2.2.1
          rw [HA.out.2.2.2.2.1] at h2
          rw [hS]
          simp at h2 ⊢
          omega
        have hread := HA.out.2.2.2.2.2.2.1 k
        rw [← hS] at hread
        have cm := fun (A : Option Addr) (k : Nat) (W : World) (h : RB W A S) (hk : S.length ≤ k) => read_any A S.length k S W h rfl hk (by omega)
        simp only [hread] at cm
        obtain ⟨M, hM⟩ : ∃ M, M = moreB k := ⟨_, rfl⟩
        have hMl := more_len k
        rw [← hM] at hS hMl ⊢
        obtain ⟨nS, hnS⟩ : ∃ x, x = S.length := ⟨_, rfl⟩
        rw [← hnS] at cm
        have HS := Lib.hid (And.intro hS (And.intro hSl (And.intro hMl hnS)))
        have CM := Lib.hid cm
        clear hS hSl hread cm hM hMl hnS
        have BW := B2
        clear D2 C2 H2 R1 E2 A2 B2 B1 CP
        go_wp2
        go_loopw [9] (fun v9 wr => ∃ i : Nat, v9 = .int .i64 i ∧ i ≤ p ∧ Below w.heap.size w wr) (fun v9 _ => p + 1 - (intOf v9).toNat)
        case atStart => exact ⟨0, rfl, Nat.zero_le _, BW.out⟩
        case round =>
          clear BW
          obtain ⟨i, rfl, hip, hb⟩ := hrel
          have hlt : (i : Int) < (N : Int) := by have := HP.out.2.1; omega
          have hN6i : (N : Int) ≤ 60000 := by have := HA.out.2.2.2.2.2.2.2; omega
          have hin : i < raw.length := by have := HP.out.2.2; have := HA.out.2.1; omega
          obtain ⟨ad, hAd, hcell⟩ := (HA.out.1.below hb) i hin
          obtain ⟨y, hy⟩ : ∃ y, y = raw[i] := ⟨_, rfl⟩
          rw [← hy] at hcell
          unfold bv at hcell
          obtain ⟨yn, hyn⟩ : ∃ yn, yn = y.toNat := ⟨_, rfl⟩
          rw [← hyn] at hcell
          have hi0 : (0 : Int) ≤ (i : Int) := by omega
          have hinn : (i : Int) < (n : Int) := by have := HP.out.2.2; omega
          have HB := Lib.hid hb
          have hget : raw[i]? = some y := by rw [hy]; exact List.getElem?_eq_getElem hin
          rw [HA.out.2.2.2.2.1] at hget
          have HG := Lib.hid hget
          subst hAd
          clear hy hin hb hget
          by_cases hlp : i < p
          · have hne : ((yn : Int) == 10) = false := by
              rw [beq_eq_false_iff_ne]
              intro e
              have h1 := HG.out
              rw [List.getElem?_append_left (by rw [← HP.out.1]; exact hlp)] at h1
              have h2 : y = 10 := UInt8.toNat_inj.1 (by rw [← hyn]; show yn = 10; omega)
              exact HA.out.2.2.2.2.2.1 (h2 ▸ List.mem_of_getElem? h1)
            clear hyn
            go_wp2
            exact ⟨⟨i + 1, by rw [Int.natCast_add]; rfl, by omega, HB.out⟩, by simp only [intOf]; omega⟩
          · have hpi : i = p := by omega
            have hy10 : y = 10 := by
              have h1 := HG.out
              rw [hpi, HP.out.1, List.getElem?_append_right (Nat.le_refl _), Nat.sub_self] at h1
              simpa using h1.symm
            have hey : ((yn : Int) == 10) = true := by rw [beq_iff_eq, hyn, hy10]; rfl
            obtain ⟨p1, hp1⟩ : ∃ x, x = p + 1 := ⟨_, rfl⟩
            have e1 : (i : Int) + 1 = (p1 : Int) := by omega
            have m1 : IntKind.i64.wrap (p1 : Int) = (p1 : Int) := by rw [IntKind.wrap_i64]; have := HP.out.2.1; omega
            have hp1n : p1 ≤ n := by have := HP.out.2.2; omega
            have hnc : n ≤ c := HA.out.2.2.1
            have hhd : raw.take p1 = a ++ [10] := by
              rw [HA.out.2.2.2.2.1, hp1, HP.out.1, List.take_append, List.take_of_length_le (by omega), show a.length + 1 - a.length = 1 by omega]
              rfl
            have htl : raw.drop p1 = b := by
              rw [HA.out.2.2.2.2.1, hp1, HP.out.1, List.drop_append, List.drop_of_length_le (by omega), show a.length + 1 - a.length = 1 by omega]
              rfl
            obtain ⟨D1, hD1⟩ : ∃ x, x = (if c = 0 then some ad else (some ad).map (·.add 0)) := ⟨_, rfl⟩
            obtain ⟨D2, hD2⟩ : ∃ x, x = (if c = p1 then some ad else (some ad).map (·.add p1)) := ⟨_, rfl⟩
            have r1 : ∀ W, Below wr.heap.size wr W → RB W D1 (a ++ [10]) := fun W hW => by
              have := rb_behind (l := 0) (c := c) ((HA.out.1.below HB.out).below hW) (Nat.zero_le _) (by have := HA.out.2.1; omega)
              rw [List.drop_zero, ← hD1] at this
              rw [← hhd]
              exact this.take p1
            have r2 : ∀ W, Below wr.heap.size wr W → RB W D2 b := fun W hW => by
              have := rb_behind (l := p1) (c := c) ((HA.out.1.below HB.out).below hW) (by have := HA.out.2.1; omega) (by have := HA.out.2.1; omega)
              rw [htl, ← hD2] at this
              exact this
            have l1 : p1 = (a ++ [10]).length := by rw [List.length_append, hp1, HP.out.1]; rfl
            have l2 : n - p1 = b.length := by rw [← htl, List.length_drop, HA.out.2.1]
            have hSa : (a ++ [10]) ++ M ++ b = S := by rw [HS.out.1]; simp
            obtain ⟨Q1, hQ1⟩ : ∃ x, x = a ++ [10] := ⟨_, rfl⟩
            rw [← hQ1] at r1 l1 hSa
            obtain ⟨Q2, hQ2⟩ : ∃ x, x = Q1 ++ M := ⟨_, rfl⟩
            rw [← hQ2] at hSa
            have q1 : ((⟨Q1.toArray⟩ : ByteArray) ++ ⟨M.toArray⟩) = ⟨Q2.toArray⟩ := by rw [hQ2, ByteArray.mk_append_mk]; try simp
            have q2 : ((⟨Q2.toArray⟩ : ByteArray) ++ ⟨b.toArray⟩) = ⟨S.toArray⟩ := by rw [← hSa, ByteArray.mk_append_mk]; try simp
            have hS1 : Q1.length + M.length + b.length = S.length := by rw [← hSa, hQ2, List.length_append, List.length_append]
            have HD := Lib.hid (And.intro hD1 hD2)
            clear hD1 hD2
            have HR := Lib.hid (And.intro r1 (And.intro r2 (And.intro l1 (And.intro l2 hSa))))
            have n1 : ¬ (9223372036854775807 < Q1.length + M.length) := by have := HS.out.2.1; omega
            have n2 : ¬ (9223372036854775807 < Q2.length + b.length) := by have := HS.out.2.1; rw [hQ2, List.length_append]; omega
            have HL := Lib.hid (And.intro hp1n (And.intro hnc (show p1 + M.length + b.length ≤ 1073741824 + 100 by have := HS.out.2.1; omega)))
            clear hQ1 hQ2 hS1 hlp hip hpi hyn hy10 r1 r2 l1 l2 hhd htl hSa hp1 hp1n hnc HG
            go_upto_region 18 with fail
            try simp only [Act.put, List.setIfInBounds_toArray, List.set_cons_succ, List.set_cons_zero]
            refine wp_region_qb (by kernel_rfl) (by kernel_rfl) ?_
            go_big_quiet_step (fail)
            go_big_quiet_step (fail)
            refine wq_val (o := ⟨some 48, _, _, _, _, _⟩) (v := .int .i64 (p1 : Int)) rfl (fun w' hC => by go_simp) ?_
            simp only [Act.put, List.setIfInBounds_toArray, List.set_cons_succ, List.set_cons_zero]
            refine wq_val (o := ⟨some 49, _, _, _, _, _⟩) (v := .slice D1 p1 c) rfl (fun w' hC => HD.out.1 ▸ cut_head (m := p1) rfl rfl rfl (by have := HL.out; omega)) ?_
            simp only [Act.put, List.setIfInBounds_toArray, List.set_cons_succ, List.set_cons_zero]
            refine wq_val (o := ⟨some 50, _, _, _, _, _⟩) (v := .string ⟨Q1.toArray⟩) rfl (fun w' hC => by
              have k := conv_s w' HR.out.2.2.1 (HR.out.1 _ hC) c
              simp [execOp, Act.eval, k, Result.andThen]) ?_
            simp only [Act.put, List.setIfInBounds_toArray, List.set_cons_succ, List.set_cons_zero]
            go_big_quiet_step (fail)
            refine wq_val (o := ⟨some 52, _, _, _, _, _⟩) (v := .string ⟨Q2.toArray⟩) rfl (fun w' hC => by
              have q1 := q1
              have n1 := n1
              go_simp) ?_
            simp only [Act.put, List.setIfInBounds_toArray, List.set_cons_succ, List.set_cons_zero]
            go_big_quiet_step (fail)
            go_big_quiet_step (fail)
            refine wq_val (o := ⟨some 55, _, _, _, _, _⟩) (v := .int .i64 (p1 : Int)) rfl (fun w' hC => by go_simp) ?_
            simp only [Act.put, List.setIfInBounds_toArray, List.set_cons_succ, List.set_cons_zero]
            refine wq_val (o := ⟨some 56, _, _, _, _, _⟩) (v := .slice D2 (n - p1) (c - p1)) rfl (fun w' hC => HD.out.2 ▸ cut_behind (m := p1) rfl rfl rfl (by have := HL.out; omega)) ?_
            simp only [Act.put, List.setIfInBounds_toArray, List.set_cons_succ, List.set_cons_zero]
            refine wq_val (o := ⟨some 57, _, _, _, _, _⟩) (v := .string ⟨b.toArray⟩) rfl (fun w' hC => by
              have k := conv_s w' HR.out.2.2.2.1 (HR.out.2.1 _ hC) (c - p1)
              simp [execOp, Act.eval, k, Result.andThen]) ?_
            simp only [Act.put, List.setIfInBounds_toArray, List.set_cons_succ, List.set_cons_zero]
            refine wq_val (o := ⟨some 58, _, _, _, _, _⟩) (v := .string ⟨S.toArray⟩) rfl (fun w' hC => by
              have q2 := q2
              have n2 := n2
              go_simp) ?_
            simp only [Act.put, List.setIfInBounds_toArray, List.set_cons_succ, List.set_cons_zero]
            go_big_quiet_step (fail)
            refine wpQuiet_nil ?_
            intro w5 h5
            have B5 := Lib.hid (HB.out.trans (h5.mono HB.out.size))
            clear h5 HB hcell hey e1 m1
            clear q1 q2 n1 n2 HL HR HD
            go_upto_region 20 with (first
              | ((with_reducible show wpList _ _ _ (⟨some 61, _, _, _, _, _⟩ :: _) _ _); go_must (refine WireW.wpList_conv rfl (.tmp 60) rfl S rfl (by have := HS.out.2.1; unfold maxLen; omega) ?_); intro v6 w6 ho6 hb6; obtain ⟨A6, k6, rfl, hk6⟩ := OwnB.form ho6 HS.out.2.2.2; have H6 := Lib.hid (And.intro (OwnB.rd ho6) hk6); have B6 := Lib.hid (gt B5.out hb6); clear ho6 hb6 hk6)
              | (go_at_call 16; (with_reducible show Calls _ _ #[_] _ _); go_must (refine (CM.out _ _ _ H6.out.1 H6.out.2).mono ?_); rintro e w7 hp; obtain ⟨hb, rfl⟩ := hp; have A7 := Lib.hid (gt B6.out hb); have E7 := Lib.hid hb; clear hb)
              | ((with_reducible show wpList _ _ _ (⟨some 11, .alloc _, _, _, _, _⟩ :: _) _ _); go_must (refine wpList_allocB AR rfl rfl w7.heap.size rfl ?_); intro w7a hBx hbx hzx; have H7 := Lib.hid (And.intro hBx hbx); clear hBx hbx hzx)
              | ((with_reducible show wpList _ _ _ (⟨none, .store _ (.tmp 11) _, _, _, _, _⟩ :: _) _ _); go_must (refine wpList_storeB AR rfl (.tmp 11) (.tmp 63) rfl w7.heap.size 0 rfl [.string ⟨#[]⟩, .string ⟨#[]⟩, .slice none 0 0, .slice none 0 0, .bool false] rfl rfl _ _ H7.out.1 (by simp) (by simp [Value.oneCell']) ?_); intro w7b hBy hgy hzy
                 simp only [splice, List.take_zero, List.nil_append, List.length_cons, List.length_nil, List.drop_succ_cons, List.drop_zero, List.append_nil, Nat.zero_add, List.drop_nil] at hBy
                 have D7 := Lib.hid (H7.out.2.grown hgy H7.out.2.size (fun j hj => by injection hj with hj; omega))
                 have C7 := Lib.hid hBy
                 have B7 := Lib.hid (gt A7.out D7.out)
                 clear hBy hgy hzy))
            have hBkv := C7.out
            have v0 := hBkv.cell 0
            have v1 := hBkv.cell 1
            have v2 := hBkv.cell 2
            have v3 := hBkv.cell 3
            have v4 := hBkv.cell 4
            simp only [List.getElem?_cons_succ, List.getElem?_cons_zero] at v0 v1 v2 v3 v4
            obtain ⟨h8, hhh8⟩ : ∃ x, x = w7.heap.size := ⟨_, rfl⟩
            rw [← hhh8] at v0 v1 v2 v3 v4 ⊢
            clear hBkv hhh8
            go_wp2_with (first
              | (go_at_call 18; go_must (refine (none_zero _).mono ?_); rintro e w8 ⟨rfl, hb8⟩; have B8 := Lib.hid (gt B7.out hb8); clear hb8))
            go_ret
            exact ⟨rfl, B8.out⟩
end Go.Proofs.YtojemdggbcklkaaDoor.WireR
