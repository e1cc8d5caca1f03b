/- weirlaw28.WireReads: the walk. (Printed by mklreads.py.) -/
import Derived.Test.YtojemdggbcklkaaDoorWAwake
namespace Go.Proofs.YtojemdggbcklkaaDoor.WireR
open Go.RowKit Go.Proofs.YtojemdggbcklkaaDoor.Mem Go.Proofs.YtojemdggbcklkaaDoor.Wire Go.Proofs.YtojemdggbcklkaaDoor.Strs Go.Proofs.YtojemdggbcklkaaDoor.Heads
set_option linter.unusedVariables false
set_option linter.unusedSimpArgs false
set_option maxRecDepth 4000

theorem read_len {s t : Bytes} {rq : Req} (h : readS s = .ok rq t) : rq.headers.length ≤ s.length ∧ rq.body.length ≤ s.length := by
  unfold readS at h
  cases h1 : lineS 280 s with
  | err e => simp only [h1] at h; cases h
  | ok c t1 =>
    simp only [h1] at h
    cases h2 : firstS c with
    | none => simp only [h2] at h; cases h
    | some m =>
      obtain ⟨mm, tg, old⟩ := m
      simp only [h2] at h
      cases h3 : fieldsS 281 t1 with
      | err e => simp only [h3] at h; cases h
      | ok hs t2 =>
        simp only [h3] at h
        cases h4 : judgeS hs old with
        | none => simp only [h4] at h; cases h
        | some sh =>
          simp only [h4] at h
          cases h5 : bodyS sh (s.length - t2.length) t2 with
          | err e => simp only [h5] at h; cases h
          | ok body t3 =>
            simp only [h5] at h
            injection h with h h'
            subst h
            have l1 := lineS_len h1
            have l2 := fields_len _ h3
            have l3 := fieldsS_len _ (Nat.le_refl _) h3
            refine ⟨by simp only; omega, ?_⟩
            simp only
            cases sh with
            | none => injection h5 with h5; subst h5; simp
            | long N =>
              unfold bodyS at h5
              simp only at h5
              split at h5
              · cases h5
              · split at h5
                · cases h5
                · injection h5 with h5
                  subst h5
                  rw [List.length_take]
                  omega
            | chunked =>
              have := chunks_len _ h5
              omega
theorem all_len {raw : Bytes} {rq : Req} {n : Nat} (h : readAll raw = .ok (rq, n)) : rq.headers.length ≤ 65536 ∧ rq.body.length ≤ 65536 := by
  unfold readAll at h
  cases hr : readS (raw.take Most) with
  | err e => rw [hr] at h; cases h
  | ok r t =>
    rw [hr] at h
    injection h with h
    injection h with h _
    subst h
    have h1 := read_len hr
    have h2 : (raw.take Most).length ≤ 65536 := by rw [List.length_take]; unfold Most; omega
    omega
set_option maxHeartbeats 16000000 in
theorem law_reads (A : Option Addr) (n c : Nat) (raw : List UInt8) (w : World) (hA : RB w A raw) (hn : n = raw.length) (hc : n ≤ c) (hl : n ≤ 1073741824) :
    Calls Tryd.prog 4 #[.slice A n c] w fun e w' => e = .returned (.bool true) ∧ Below w.heap.size w w' := by
  have cr := fun (W : World) (h : Below w.heap.size w W) => rall_any A n c raw W (hA.below h) hn hc (by omega)
  have cp := fun (W : World) (h : Below w.heap.size w W) => read_any A n c raw W (hA.below h) hn hc (by omega)
  clear hA hn hc hl
  cases hr : readAll raw with
  | error er =>
    simp only [hr] at cr cp
    have CR := Lib.hid cr
    have CP := Lib.hid cp
    clear cr cp hr
    have sm : ∀ W, Calls Tryd.prog 17 #[.agg #[.string ⟨#[]⟩, .string ⟨#[]⟩, .slice none 0 0, .slice none 0 0, .bool false], .agg #[.string ⟨#[]⟩, .string ⟨#[]⟩, .slice none 0 0, .slice none 0 0, .bool false]] W fun e w' => e = .returned (.bool true) ∧ Below W.heap.size W w' := fun W =>
      same_req (w := W) ⟨[], [], [], [], false⟩ ⟨[], [], [], [], false⟩ none 0 none 0 none 0 none 0 rfl (RV.nil _ _) (RV.nil _ _) (RB.nil _ _) (RB.nil _ _) (by intro ad h; cases h) (by intro ad h; cases h) (by simp) (by simp)
    have SM := Lib.hid sm
    clear sm
    go_enter Tryd.func4, Tryd.ntmps4
    go_wp2_with (first
      | (go_at_call 14; go_must (refine (awake_any _).mono ?_); rintro e w1 ⟨rfl, hb1⟩; have B1 := Lib.hid hb1; clear hb1)
      | (go_at_call 15; go_must (refine (CR.out _ B1.out).mono ?_); rintro e w2 hp2; obtain ⟨hb2, rfl⟩ := hp2; have B2 := Lib.hid (gt B1.out hb2); clear hb2)
      | ((with_reducible show wpList _ _ _ (⟨some 3, _, _, _, _, _⟩ :: _) _ _); go_must (refine wpList_allocB AR rfl rfl w2.heap.size rfl ?_); intro w3 hB3 hb3 hz3; have H3 := Lib.hid (And.intro hB3 hb3); clear hB3 hb3 hz3)
      | ((with_reducible show wpList _ _ _ (⟨none, .store _ (.tmp 3) _, _, _, _, _⟩ :: _) _ _); go_must (refine wpList_storeB AR rfl (.tmp 3) (.tmp 14) rfl w2.heap.size 0 rfl [.string ⟨#[]⟩, .string ⟨#[]⟩, .slice none 0 0, .slice none 0 0, .bool false] rfl rfl _ _ H3.out.1 (by simp) (by simp [Value.oneCell']) ?_); intro w4 hB4 hg4 hz4
         simp only [splice, List.take_zero, List.nil_append, List.length_cons, List.length_nil, List.drop_succ_cons, List.drop_zero, List.append_nil, Nat.zero_add, List.drop_nil] at hB4
         have B34 := Lib.hid (H3.out.2.grown hg4 H3.out.2.size (fun j hj => by injection hj with hj; omega))
         have H4 := Lib.hid hB4
         have B4 := Lib.hid (gt B2.out B34.out)
         clear hB4 hg4 hz4)
      | (go_at_call 16; go_must (refine (CP.out _ B4.out).mono ?_); rintro e w5 hp5; obtain ⟨hb5, rfl⟩ := hp5; have B45 := Lib.hid hb5; have B5 := Lib.hid (gt B4.out hb5); clear hb5)
      | ((with_reducible show wpList _ _ _ (⟨some 6, _, _, _, _, _⟩ :: _) _ _); go_must (refine wpList_allocB AR rfl rfl w5.heap.size rfl ?_); intro w6 hB6 hb6 hz6; have H6 := Lib.hid (And.intro hB6 hb6); clear hB6 hb6 hz6)
      | ((with_reducible show wpList _ _ _ (⟨none, .store _ (.tmp 6) _, _, _, _, _⟩ :: _) _ _); go_must (refine wpList_storeB AR rfl (.tmp 6) (.tmp 20) rfl w5.heap.size 0 rfl [.string ⟨#[]⟩, .string ⟨#[]⟩, .slice none 0 0, .slice none 0 0, .bool false] rfl rfl _ _ H6.out.1 (by simp) (by simp [Value.oneCell']) ?_); intro w7 hB7 hg7 hz7
         simp only [splice, List.take_zero, List.nil_append, List.length_cons, List.length_nil, List.drop_succ_cons, List.drop_zero, List.append_nil, Nat.zero_add, List.drop_nil] at hB7
         have B57 := Lib.hid (H6.out.2.grown hg7 H6.out.2.size (fun j hj => by injection hj with hj; omega))
         have H7 := Lib.hid hB7
         have B7 := Lib.hid (gt B5.out B57.out)
         clear hB7 hg7 hz7)
      | ((with_reducible show wpList _ _ _ (⟨some 23, _, _, _, _, _⟩ :: _) _ _); go_must (refine wpList_loadB AR rfl (.tmp 6) rfl w5.heap.size 0 rfl _ _ H7.out [.string ⟨#[]⟩, .string ⟨#[]⟩, .slice none 0 0, .slice none 0 0, .bool false] (by simp) rfl ?_))
      | ((with_reducible show wpList _ _ _ (⟨some 24, _, _, _, _, _⟩ :: _) _ _); go_must (refine wpList_loadB AR rfl (.tmp 3) rfl w2.heap.size 0 rfl _ _ ((H4.out.grow B45.out).grow B57.out) [.string ⟨#[]⟩, .string ⟨#[]⟩, .slice none 0 0, .slice none 0 0, .bool false] (by simp) rfl ?_))
      | (go_at_call 17; go_must (refine (SM.out _).mono ?_); rintro e w8 ⟨rfl, hb8⟩; have B8 := Lib.hid (gt B7.out hb8); clear hb8))
    go_ret
    exact ⟨rfl, B8.out⟩
  | ok x =>
    obtain ⟨rq, nn⟩ := x
    have hlen := all_len hr
    simp only [hr] at cr cp
    have sm := fun (W : World) A5 k5 A7 k7 D5 l5 D7 l7 h1 h2 h3 h4 h5 h6 => same_req (w := W) rq rq A5 k5 A7 k7 D5 l5 D7 l7 rfl h1 h2 h3 h4 h5 h6 (by omega) (by omega)
    obtain ⟨smm, hsm⟩ : ∃ x, x = (⟨rq.method.toArray⟩ : ByteArray) := ⟨_, rfl⟩
    obtain ⟨stg, hst⟩ : ∃ x, x = (⟨rq.target.toArray⟩ : ByteArray) := ⟨_, rfl⟩
    obtain ⟨hm, hhm⟩ : ∃ x, x = rq.headers.length := ⟨_, rfl⟩
    obtain ⟨bl, hbl⟩ : ∃ x, x = rq.body.length := ⟨_, rfl⟩
    obtain ⟨cl, hcl⟩ : ∃ x, x = rq.close := ⟨_, rfl⟩
    unfold RAllPost at cr
    unfold ReadPost at cp
    simp only at cr cp
    rw [← hsm, ← hst, ← hhm, ← hbl, ← hcl] at cr cp sm
    have CR := Lib.hid cr
    have CP := Lib.hid cp
    have SM := Lib.hid sm
    clear cr cp hr sm hsm hst hhm hbl hcl hlen
    go_enter Tryd.func4, Tryd.ntmps4
    go_wp2_with (first
      | (go_at_call 14; go_must (refine (awake_any _).mono ?_); rintro e w1 ⟨rfl, hb1⟩; have B1 := Lib.hid hb1; clear hb1)
      | (go_at_call 15; go_must (refine (CR.out _ B1.out).mono ?_); rintro e w2 hp2; obtain ⟨hb2, D5, l5, D7, l7, rfl, hv2, hr2, hsp2⟩ := hp2; have B2 := Lib.hid (gt B1.out hb2); have R2 := Lib.hid (And.intro hv2 (And.intro hr2 hsp2)); clear hv2 hr2 hsp2; clear hb2)
      | ((with_reducible show wpList _ _ _ (⟨some 3, _, _, _, _, _⟩ :: _) _ _); go_must (refine wpList_allocB AR rfl rfl w2.heap.size rfl ?_); intro w3 hB3 hb3 hz3; have H3 := Lib.hid (And.intro hB3 hb3); clear hB3 hb3 hz3)
      | ((with_reducible show wpList _ _ _ (⟨none, .store _ (.tmp 3) _, _, _, _, _⟩ :: _) _ _); go_must (refine wpList_storeB AR rfl (.tmp 3) (.tmp 14) rfl w2.heap.size 0 rfl [.string smm, .string stg, .slice D5 hm l5, .slice D7 bl l7, .bool cl] rfl rfl _ _ H3.out.1 (by simp) (by simp [Value.oneCell']) ?_); intro w4 hB4 hg4 hz4
         simp only [splice, List.take_zero, List.nil_append, List.length_cons, List.length_nil, List.drop_succ_cons, List.drop_zero, List.append_nil, Nat.zero_add, List.drop_nil] at hB4
         have B34 := Lib.hid (H3.out.2.grown hg4 H3.out.2.size (fun j hj => by injection hj with hj; omega))
         have H4 := Lib.hid hB4
         have B4 := Lib.hid (gt B2.out B34.out)
         clear hB4 hg4 hz4)
      | (go_at_call 16; go_must (refine (CP.out _ B4.out).mono ?_); rintro e w5 hp5; obtain ⟨hb5, A5, k5, A7, k7, K, rfl, ho5, hK5, hw5, hob5⟩ := hp5; have B45 := Lib.hid hb5; have B5 := Lib.hid (gt B4.out hb5); have R5 := Lib.hid (And.intro ho5 hob5); clear ho5 hK5 hw5 hob5; clear hb5)
      | ((with_reducible show wpList _ _ _ (⟨some 6, _, _, _, _, _⟩ :: _) _ _); go_must (refine wpList_allocB AR rfl rfl w5.heap.size rfl ?_); intro w6 hB6 hb6 hz6; have H6 := Lib.hid (And.intro hB6 hb6); clear hB6 hb6 hz6)
      | ((with_reducible show wpList _ _ _ (⟨none, .store _ (.tmp 6) _, _, _, _, _⟩ :: _) _ _); go_must (refine wpList_storeB AR rfl (.tmp 6) (.tmp 20) rfl w5.heap.size 0 rfl [.string smm, .string stg, .slice A5 hm k5, .slice A7 bl k7, .bool cl] rfl rfl _ _ H6.out.1 (by simp) (by simp [Value.oneCell']) ?_); intro w7 hB7 hg7 hz7
         simp only [splice, List.take_zero, List.nil_append, List.length_cons, List.length_nil, List.drop_succ_cons, List.drop_zero, List.append_nil, Nat.zero_add, List.drop_nil] at hB7
         have B57 := Lib.hid (H6.out.2.grown hg7 H6.out.2.size (fun j hj => by injection hj with hj; omega))
         have H7 := Lib.hid hB7
         have B7 := Lib.hid (gt B5.out B57.out)
         clear hB7 hg7 hz7)
      | ((with_reducible show wpList _ _ _ (⟨some 23, _, _, _, _, _⟩ :: _) _ _); go_must (refine wpList_loadB AR rfl (.tmp 6) rfl w5.heap.size 0 rfl _ _ H7.out [.string smm, .string stg, .slice A5 hm k5, .slice A7 bl k7, .bool cl] (by simp) rfl ?_))
      | ((with_reducible show wpList _ _ _ (⟨some 24, _, _, _, _, _⟩ :: _) _ _); go_must (refine wpList_loadB AR rfl (.tmp 3) rfl w2.heap.size 0 rfl _ _ ((H4.out.grow B45.out).grow B57.out) [.string smm, .string stg, .slice D5 hm l5, .slice D7 bl l7, .bool cl] (by simp) rfl ?_))
      | (go_at_call 17; go_must (refine (SM.out _ A5 k5 A7 k7 D5 l5 D7 l7 ((own_rv R5.out.1).below B57.out) (((R2.out.1.below B34.out).below B45.out).below B57.out) ((own_rv R5.out.2).rb.below B57.out) (((R2.out.2.1.below B34.out).below B45.out).below B57.out) (own_spot R5.out.1) R2.out.2.2).mono ?_); rintro e w8 ⟨rfl, hb8⟩; have B8 := Lib.hid (gt B7.out hb8); clear hb8))
    go_ret
    exact ⟨rfl, B8.out⟩
end Go.Proofs.YtojemdggbcklkaaDoor.WireR
