/- weirlaw28.WireShort: the walk. (Printed by mklshort.py.) -/
import Derived.Test.YtojemdggbcklkaaDoorWAwake
import Derived.Test.YtojemdggbcklkaaDoorWPure

/- weirlaw28.WireReads: the walk. (Printed by mklreads.py.) -/
namespace Go.Proofs.YtojemdggbcklkaaDoor.WireR
open Go.RowKit Go.Proofs.YtojemdggbcklkaaDoor.Mem Go.Proofs.YtojemdggbcklkaaDoor.Wire Go.Proofs.YtojemdggbcklkaaDoor.Strs Go.Proofs.YtojemdggbcklkaaDoor.Heads
set_option linter.unusedVariables false
set_option linter.unusedSimpArgs false
set_option maxRecDepth 4000

theorem read_len {s t : Bytes} {rq : Req} (h : readS s = .ok rq t) : rq.headers.length ≤ s.length ∧ rq.body.length ≤ s.length := by
  unfold readS at h
  cases h1 : lineS 280 s with
  | err e => simp only [h1] at h; cases h
  | ok c t1 =>
    simp only [h1] at h
    cases h2 : firstS c with
    | none => simp only [h2] at h; cases h
    | some m =>
      obtain ⟨mm, tg, old⟩ := m
      simp only [h2] at h
      cases h3 : fieldsS 281 t1 with
      | err e => simp only [h3] at h; cases h
      | ok hs t2 =>
        simp only [h3] at h
        cases h4 : judgeS hs old with
        | none => simp only [h4] at h; cases h
        | some sh =>
          simp only [h4] at h
          cases h5 : bodyS sh (s.length - t2.length) t2 with
          | err e => simp only [h5] at h; cases h
          | ok body t3 =>
            simp only [h5] at h
            injection h with h h'
            subst h
            have l1 := lineS_len h1
            have l2 := fields_len _ h3
            have l3 := fieldsS_len _ (Nat.le_refl _) h3
            refine ⟨by simp only; omega, ?_⟩
            simp only
            cases sh with
            | none => injection h5 with h5; subst h5; simp
            | long N =>
              unfold bodyS at h5
              simp only at h5
              split at h5
              · cases h5
              · split at h5
                · cases h5
                · injection h5 with h5
                  subst h5
                  rw [List.length_take]
                  omega
            | chunked =>
              have := chunks_len _ h5
              omega
theorem all_len {raw : Bytes} {rq : Req} {n : Nat} (h : readAll raw = .ok (rq, n)) : rq.headers.length ≤ 65536 ∧ rq.body.length ≤ 65536 := by
  unfold readAll at h
  cases hr : readS (raw.take Most) with
  | err e => rw [hr] at h; cases h
  | ok r t =>
    rw [hr] at h
    injection h with h
    injection h with h _
    subst h
    have h1 := read_len hr
    have h2 : (raw.take Most).length ≤ 65536 := by rw [List.length_take]; unfold Most; omega
    omega
set_option maxHeartbeats 16000000 in
theorem law_reads (A : Option Addr) (n c : Nat) (raw : List UInt8) (w : World) (hA : RB w A raw) (hn : n = raw.length) (hc : n ≤ c) (hl : n ≤ 1073741824) :
    Calls Tryd.prog 4 #[.slice A n c] w fun e w' => e = .returned (.bool true) ∧ Below w.heap.size w w' := by
  have cr := fun (W : World) (h : Below w.heap.size w W) => rall_any A n c raw W (hA.below h) hn hc (by omega)
  have cp := fun (W : World) (h : Below w.heap.size w W) => read_any A n c raw W (hA.below h) hn hc (by omega)
  clear hA hn hc hl
  cases hr : readAll raw with
  | error er =>
    simp only [hr] at cr cp
    have CR := Lib.hid cr
    have CP := Lib.hid cp
    clear cr cp hr
    have sm : ∀ W, Calls Tryd.prog 17 #[.agg #[.string ⟨#[]⟩, .string ⟨#[]⟩, .slice none 0 0, .slice none 0 0, .bool false], .agg #[.string ⟨#[]⟩, .string ⟨#[]⟩, .slice none 0 0, .slice none 0 0, .bool false]] W fun e w' => e = .returned (.bool true) ∧ Below W.heap.size W w' := fun W =>
      same_req (w := W) ⟨[], [], [], [], false⟩ ⟨[], [], [], [], false⟩ none 0 none 0 none 0 none 0 rfl (RV.nil _ _) (RV.nil _ _) (RB.nil _ _) (RB.nil _ _) (by intro ad h; cases h) (by intro ad h; cases h) (by simp) (by simp)
    have SM := Lib.hid sm
    clear sm
    go_enter Tryd.func4, Tryd.ntmps4
    go_wp2_with (first
      | (go_at_call 14; go_must (refine (awake_any _).mono ?_); rintro e w1 ⟨rfl, hb1⟩; have B1 := Lib.hid hb1; clear hb1)
      | (go_at_call 15; go_must (refine (CR.out _ B1.out).mono ?_); rintro e w2 hp2; obtain ⟨hb2, rfl⟩ := hp2; have B2 := Lib.hid (gt B1.out hb2); clear hb2)
      | ((with_reducible show wpList _ _ _ (⟨some 3, _, _, _, _, _⟩ :: _) _ _); go_must (refine wpList_allocB AR rfl rfl w2.heap.size rfl ?_); intro w3 hB3 hb3 hz3; have H3 := Lib.hid (And.intro hB3 hb3); clear hB3 hb3 hz3)
      | ((with_reducible show wpList _ _ _ (⟨none, .store _ (.tmp 3) _, _, _, _, _⟩ :: _) _ _); go_must (refine wpList_storeB AR rfl (.tmp 3) (.tmp 14) rfl w2.heap.size 0 rfl [.string ⟨#[]⟩, .string ⟨#[]⟩, .slice none 0 0, .slice none 0 0, .bool false] rfl rfl _ _ H3.out.1 (by simp) (by simp [Value.oneCell']) ?_); intro w4 hB4 hg4 hz4
         simp only [splice, List.take_zero, List.nil_append, List.length_cons, List.length_nil, List.drop_succ_cons, List.drop_zero, List.append_nil, Nat.zero_add, List.drop_nil] at hB4
         have B34 := Lib.hid (H3.out.2.grown hg4 H3.out.2.size (fun j hj => by injection hj with hj; omega))
         have H4 := Lib.hid hB4
         have B4 := Lib.hid (gt B2.out B34.out)
         clear hB4 hg4 hz4)
      | (go_at_call 16; go_must (refine (CP.out _ B4.out).mono ?_); rintro e w5 hp5; obtain ⟨hb5, rfl⟩ := hp5; have B45 := Lib.hid hb5; have B5 := Lib.hid (gt B4.out hb5); clear hb5)
      | ((with_reducible show wpList _ _ _ (⟨some 6, _, _, _, _, _⟩ :: _) _ _); go_must (refine wpList_allocB AR rfl rfl w5.heap.size rfl ?_); intro w6 hB6 hb6 hz6; have H6 := Lib.hid (And.intro hB6 hb6); clear hB6 hb6 hz6)
      | ((with_reducible show wpList _ _ _ (⟨none, .store _ (.tmp 6) _, _, _, _, _⟩ :: _) _ _); go_must (refine wpList_storeB AR rfl (.tmp 6) (.tmp 20) rfl w5.heap.size 0 rfl [.string ⟨#[]⟩, .string ⟨#[]⟩, .slice none 0 0, .slice none 0 0, .bool false] rfl rfl _ _ H6.out.1 (by simp) (by simp [Value.oneCell']) ?_); intro w7 hB7 hg7 hz7
         simp only [splice, List.take_zero, List.nil_append, List.length_cons, List.length_nil, List.drop_succ_cons, List.drop_zero, List.append_nil, Nat.zero_add, List.drop_nil] at hB7
         have B57 := Lib.hid (H6.out.2.grown hg7 H6.out.2.size (fun j hj => by injection hj with hj; omega))
         have H7 := Lib.hid hB7
         have B7 := Lib.hid (gt B5.out B57.out)
         clear hB7 hg7 hz7)
      | ((with_reducible show wpList _ _ _ (⟨some 23, _, _, _, _, _⟩ :: _) _ _); go_must (refine wpList_loadB AR rfl (.tmp 6) rfl w5.heap.size 0 rfl _ _ H7.out [.string ⟨#[]⟩, .string ⟨#[]⟩, .slice none 0 0, .slice none 0 0, .bool false] (by simp) rfl ?_))
      | ((with_reducible show wpList _ _ _ (⟨some 24, _, _, _, _, _⟩ :: _) _ _); go_must (refine wpList_loadB AR rfl (.tmp 3) rfl w2.heap.size 0 rfl _ _ ((H4.out.grow B45.out).grow B57.out) [.string ⟨#[]⟩, .string ⟨#[]⟩, .slice none 0 0, .slice none 0 0, .bool false] (by simp) rfl ?_))
      | (go_at_call 17; go_must (refine (SM.out _).mono ?_); rintro e w8 ⟨rfl, hb8⟩; have B8 := Lib.hid (gt B7.out hb8); clear hb8))
    go_ret
    exact ⟨rfl, B8.out⟩
  | ok x =>
    obtain ⟨rq, nn⟩ := x
    have hlen := all_len hr
    simp only [hr] at cr cp
    have sm := fun (W : World) A5 k5 A7 k7 D5 l5 D7 l7 h1 h2 h3 h4 h5 h6 => same_req (w := W) rq rq A5 k5 A7 k7 D5 l5 D7 l7 rfl h1 h2 h3 h4 h5 h6 (by omega) (by omega)
    obtain ⟨smm, hsm⟩ : ∃ x, x = (⟨rq.method.toArray⟩ : ByteArray) := ⟨_, rfl⟩
    obtain ⟨stg, hst⟩ : ∃ x, x = (⟨rq.target.toArray⟩ : ByteArray) := ⟨_, rfl⟩
    obtain ⟨hm, hhm⟩ : ∃ x, x = rq.headers.length := ⟨_, rfl⟩
    obtain ⟨bl, hbl⟩ : ∃ x, x = rq.body.length := ⟨_, rfl⟩
    obtain ⟨cl, hcl⟩ : ∃ x, x = rq.close := ⟨_, rfl⟩
    unfold RAllPost at cr
    unfold ReadPost at cp
    simp only at cr cp
    rw [← hsm, ← hst, ← hhm, ← hbl, ← hcl] at cr cp sm
    have CR := Lib.hid cr
    have CP := Lib.hid cp
    have SM := Lib.hid sm
    clear cr cp hr sm hsm hst hhm hbl hcl hlen
    go_enter Tryd.func4, Tryd.ntmps4
    go_wp2_with (first
      | (go_at_call 14; go_must (refine (awake_any _).mono ?_); rintro e w1 ⟨rfl, hb1⟩; have B1 := Lib.hid hb1; clear hb1)
      | (go_at_call 15; go_must (refine (CR.out _ B1.out).mono ?_); rintro e w2 hp2; obtain ⟨hb2, D5, l5, D7, l7, rfl, hv2, hr2, hsp2⟩ := hp2; have B2 := Lib.hid (gt B1.out hb2); have R2 := Lib.hid (And.intro hv2 (And.intro hr2 hsp2)); clear hv2 hr2 hsp2; clear hb2)
      | ((with_reducible show wpList _ _ _ (⟨some 3, _, _, _, _, _⟩ :: _) _ _); go_must (refine wpList_allocB AR rfl rfl w2.heap.size rfl ?_); intro w3 hB3 hb3 hz3; have H3 := Lib.hid (And.intro hB3 hb3); clear hB3 hb3 hz3)
      | ((with_reducible show wpList _ _ _ (⟨none, .store _ (.tmp 3) _, _, _, _, _⟩ :: _) _ _); go_must (refine wpList_storeB AR rfl (.tmp 3) (.tmp 14) rfl w2.heap.size 0 rfl [.string smm, .string stg, .slice D5 hm l5, .slice D7 bl l7, .bool cl] rfl rfl _ _ H3.out.1 (by simp) (by simp [Value.oneCell']) ?_); intro w4 hB4 hg4 hz4
         simp only [splice, List.take_zero, List.nil_append, List.length_cons, List.length_nil, List.drop_succ_cons, List.drop_zero, List.append_nil, Nat.zero_add, List.drop_nil] at hB4
         have B34 := Lib.hid (H3.out.2.grown hg4 H3.out.2.size (fun j hj => by injection hj with hj; omega))
         have H4 := Lib.hid hB4
         have B4 := Lib.hid (gt B2.out B34.out)
         clear hB4 hg4 hz4)
      | (go_at_call 16; go_must (refine (CP.out _ B4.out).mono ?_); rintro e w5 hp5; obtain ⟨hb5, A5, k5, A7, k7, K, rfl, ho5, hK5, hw5, hob5⟩ := hp5; have B45 := Lib.hid hb5; have B5 := Lib.hid (gt B4.out hb5); have R5 := Lib.hid (And.intro ho5 hob5); clear ho5 hK5 hw5 hob5; clear hb5)
      | ((with_reducible show wpList _ _ _ (⟨some 6, _, _, _, _, _⟩ :: _) _ _); go_must (refine wpList_allocB AR rfl rfl w5.heap.size rfl ?_); intro w6 hB6 hb6 hz6; have H6 := Lib.hid (And.intro hB6 hb6); clear hB6 hb6 hz6)
      | ((with_reducible show wpList _ _ _ (⟨none, .store _ (.tmp 6) _, _, _, _, _⟩ :: _) _ _); go_must (refine wpList_storeB AR rfl (.tmp 6) (.tmp 20) rfl w5.heap.size 0 rfl [.string smm, .string stg, .slice A5 hm k5, .slice A7 bl k7, .bool cl] rfl rfl _ _ H6.out.1 (by simp) (by simp [Value.oneCell']) ?_); intro w7 hB7 hg7 hz7
         simp only [splice, List.take_zero, List.nil_append, List.length_cons, List.length_nil, List.drop_succ_cons, List.drop_zero, List.append_nil, Nat.zero_add, List.drop_nil] at hB7
         have B57 := Lib.hid (H6.out.2.grown hg7 H6.out.2.size (fun j hj => by injection hj with hj; omega))
         have H7 := Lib.hid hB7
         have B7 := Lib.hid (gt B5.out B57.out)
         clear hB7 hg7 hz7)
      | ((with_reducible show wpList _ _ _ (⟨some 23, _, _, _, _, _⟩ :: _) _ _); go_must (refine wpList_loadB AR rfl (.tmp 6) rfl w5.heap.size 0 rfl _ _ H7.out [.string smm, .string stg, .slice A5 hm k5, .slice A7 bl k7, .bool cl] (by simp) rfl ?_))
      | ((with_reducible show wpList _ _ _ (⟨some 24, _, _, _, _, _⟩ :: _) _ _); go_must (refine wpList_loadB AR rfl (.tmp 3) rfl w2.heap.size 0 rfl _ _ ((H4.out.grow B45.out).grow B57.out) [.string smm, .string stg, .slice D5 hm l5, .slice D7 bl l7, .bool cl] (by simp) rfl ?_))
      | (go_at_call 17; go_must (refine (SM.out _ A5 k5 A7 k7 D5 l5 D7 l7 ((own_rv R5.out.1).below B57.out) (((R2.out.1.below B34.out).below B45.out).below B57.out) ((own_rv R5.out.2).rb.below B57.out) (((R2.out.2.1.below B34.out).below B45.out).below B57.out) (own_spot R5.out.1) R2.out.2.2).mono ?_); rintro e w8 ⟨rfl, hb8⟩; have B8 := Lib.hid (gt B7.out hb8); clear hb8))
    go_ret
    exact ⟨rfl, B8.out⟩
end Go.Proofs.YtojemdggbcklkaaDoor.WireR

/- Parsers that never look ahead: what an answer says of longer and of shorter inputs. Plain Lean. -/
namespace Go.Proofs.YtojemdggbcklkaaDoor.Wire
open Go.Proofs.YtojemdggbcklkaaDoor.Strs Go.Proofs.YtojemdggbcklkaaDoor.Heads
set_option linter.unusedVariables false
set_option linter.unusedSimpArgs false

structure Good {α : Type} (f : Bytes → Res α) : Prop where
  ok : ∀ {t x b}, f t = .ok x b → ∃ u, t = u ++ b ∧ ∀ b', f (u ++ b') = .ok x b'
  short : ∀ {t x b u}, f t = .ok x b → t = u ++ b → ∀ v z, u = v ++ z → z ≠ [] → f v = .err 283
  err : ∀ {t e}, f t = .err e → e ≠ 283 → ∀ z, f (t ++ z) = .err e
theorem Good.bind {α β : Type} {f : Bytes → Res α} {g : α → Nat → Bytes → Res β} (hf : Good f) (hg : ∀ x n, Good (g x n)) :
    Good (fun t => match f t with | .err e => .err e | .ok x b => g x (t.length - b.length) b) where
  ok := by
    intro t y c h
    cases ht : f t with
    | err e => rw [ht] at h; cases h
    | ok x b =>
      rw [ht] at h
      simp only at h
      obtain ⟨u, rfl, hu⟩ := hf.ok ht
      obtain ⟨u2, rfl, hu2⟩ := (hg x _).ok h
      refine ⟨u ++ u2, by simp, fun b' => ?_⟩
      rw [List.append_assoc, hu (u2 ++ b')]
      simp only
      rw [show (u ++ (u2 ++ b')).length - (u2 ++ b').length = (u ++ (u2 ++ c)).length - (u2 ++ c).length by simp only [List.length_append]; omega]
      exact hu2 b'
  short := by
    intro t y c u h hu v z hv hz
    cases ht : f t with
    | err e => rw [ht] at h; cases h
    | ok x b =>
      rw [ht] at h
      simp only at h
      obtain ⟨u1, rfl, hu1⟩ := hf.ok ht
      obtain ⟨u2, rfl, hu2⟩ := (hg x _).ok h
      have hu12 : u = u1 ++ u2 := by rw [← List.append_assoc] at hu; exact (List.append_cancel_right hu).symm
      by_cases hl : v.length < u1.length
      · have h1 : u1 = v ++ (u1.drop v.length) := by
          have := congrArg (List.take u1.length) (hu12.symm.trans hv)
          rw [List.take_left', List.take_append, List.take_of_length_le (by omega)] at this
          · have h2 := congrArg (List.drop v.length) this
            rw [List.drop_left] at h2
            rw [h2]; exact this
          · rfl
        have := hf.short ht rfl v (u1.drop v.length) h1 (by
          intro e
          have := congrArg List.length e
          rw [List.length_drop] at this
          simp at this
          omega)
        simp only [this]
      · have h1 : v = u1 ++ v.drop u1.length := by
          have := congrArg (List.take u1.length) (hu12.symm.trans hv)
          rw [List.take_left', List.take_append_of_le_length (by omega)] at this
          · have h2 := (List.take_append_drop u1.length v).symm
            rw [← this] at h2
            exact h2
          · rfl
        obtain ⟨v2, hv2⟩ : ∃ v2, v2 = v.drop u1.length := ⟨_, rfl⟩
        rw [← hv2] at h1
        have h2 : u2 = v2 ++ z := by
          have := hu12.symm.trans hv
          rw [h1, List.append_assoc] at this
          exact List.append_cancel_left this
        have h3 := (hg x _).short h rfl v2 z h2 hz
        rw [h1, hu1 v2]
        simp only
        rw [show (u1 ++ v2).length - v2.length = (u1 ++ (u2 ++ c)).length - (u2 ++ c).length by simp only [List.length_append]; omega]
        exact h3
  err := by
    intro t e h he z
    cases ht : f t with
    | err e' =>
      rw [ht] at h
      injection h with h
      subst h
      simp only [hf.err ht he z]
    | ok x b =>
      rw [ht] at h
      simp only at h
      obtain ⟨u, rfl, hu⟩ := hf.ok ht
      rw [List.append_assoc, hu (b ++ z)]
      simp only
      rw [show (u ++ (b ++ z)).length - (b ++ z).length = (u ++ b).length - b.length by simp only [List.length_append]; omega]
      exact (hg x _).err h he z
theorem Good.pure {α : Type} (x : α) : Good (fun t => Res.ok x t) where
  ok := by intro t y b h; injection h with h1 h2; subst h1 h2; exact ⟨[], rfl, fun b' => rfl⟩
  short := by
    intro t y b u h hu v z hv hz
    injection h with h1 h2
    subst h2
    have : u = [] := by simpa using hu
    rw [this] at hv
    simp at hv
    exact absurd hv.2 hz
  err := by intro t e h; cases h
theorem Good.fail {α : Type} (e : Nat) : Good (fun _ => (Res.err e : Res α)) where
  ok := by intro t y b h; cases h
  short := by intro t y b u h; cases h
  err := by intro t e' h he z; exact h
theorem Good.map {α β : Type} {f : Bytes → Res α} (hf : Good f) (k : α → β) : Good (fun t => (f t).map k) := by
  have := hf.bind (g := fun x _ t => Res.ok (k x) t) (fun x n => Good.pure (k x))
  have e : (fun t => (f t).map k) = (fun t => match f t with | .err e => .err e | .ok x b => Res.ok (k x) b) := by
    funext t
    cases f t <;> rfl
  rw [e]
  exact this
theorem Good.fuel {α : Type} {F : Nat → Bytes → Res α} {G : Bytes → Res α} (hF : ∀ k, Good (F k)) (hG : ∀ t k, t.length < k → F k t = G t) : Good G where
  ok := by
    intro t x b h
    rw [← hG t (t.length + 1) (by omega)] at h
    obtain ⟨u, hu, _⟩ := (hF _).ok h
    refine ⟨u, hu, fun b' => ?_⟩
    have h2 : F (t.length + b'.length + 1) t = .ok x b := by rw [hG t _ (by omega), ← hG t (t.length + 1) (by omega)]; exact h
    obtain ⟨u', hu', h3⟩ := (hF _).ok h2
    obtain rfl : u = u' := List.append_cancel_right (hu.symm.trans hu')
    rw [← hG (u ++ b') (t.length + b'.length + 1) (by rw [hu]; simp; omega)]
    exact h3 b'
  short := by
    intro t x b u h hu v z hv hz
    rw [← hG t (t.length + 1) (by omega)] at h
    rw [← hG v (t.length + 1) (by rw [hu, hv]; simp; omega)]
    exact (hF _).short h hu v z hv hz
  err := by
    intro t e h he z
    rw [← hG (t ++ z) ((t ++ z).length + 1) (by omega)]
    rw [← hG t ((t ++ z).length + 1) (by simp; omega)] at h
    exact (hF _).err h he z
theorem Good.congr {α : Type} {f f' : Bytes → Res α} (e : ∀ t, f t = f' t) (h : Good f') : Good f := by rw [show f = f' from funext e]; exact h
theorem good_line (bad : Nat) (hb : bad ≠ 283) : Good (lineS bad) where
  ok := by
    intro t x b h
    unfold lineS at h
    cases hc : cutL 10 t with
    | none => rw [hc] at h; cases h
    | some p =>
      obtain ⟨a, b'⟩ := p
      rw [hc] at h
      simp only at h
      cases hi : inner a with
      | none => rw [hi] at h; cases h
      | some c' =>
        rw [hi] at h
        injection h with h1 h2
        subst h1 h2
        obtain ⟨e, hno⟩ := cutL_some hc
        refine ⟨a ++ [10], by rw [e]; simp, fun b2 => ?_⟩
        unfold lineS
        rw [show a ++ [10] ++ b2 = a ++ 10 :: b2 by simp, cutL_of hno]
        simp only [hi]
  short := by
    intro t x b u h hu v z hv hz
    unfold lineS at h
    cases hc : cutL 10 t with
    | none => rw [hc] at h; cases h
    | some p =>
      obtain ⟨a, b'⟩ := p
      rw [hc] at h
      simp only at h
      cases hi : inner a with
      | none => rw [hi] at h; cases h
      | some c' =>
        rw [hi] at h
        injection h with h1 h2
        subst h1 h2
        obtain ⟨e, hno⟩ := cutL_some hc
        have hua : u = a ++ [10] := by
          rw [e, show a ++ 10 :: b' = (a ++ [10]) ++ b' by simp] at hu
          exact (List.append_cancel_right hu).symm
        have hva : (10 : UInt8) ∉ v := by
          have h3 := congrArg (List.take v.length) (hua.symm.trans hv)
          have hl := congrArg List.length (hua.symm.trans hv)
          simp at hl
          have hz0 : 0 < z.length := List.length_pos_iff.2 hz
          rw [List.take_append_of_le_length (by omega), List.take_append_of_le_length (Nat.le_refl _), List.take_length] at h3
          rw [← h3]
          exact fun hm => hno (List.mem_of_mem_take hm)
        unfold lineS
        rw [cutL_not hva]
  err := by
    intro t e h he z
    unfold lineS at h
    cases hc : cutL 10 t with
    | none => rw [hc] at h; injection h with h; exact absurd h.symm he
    | some p =>
      obtain ⟨a, b'⟩ := p
      rw [hc] at h
      simp only at h
      cases hi : inner a with
      | some c' => rw [hi] at h; cases h
      | none =>
        rw [hi] at h
        obtain ⟨e2, hno⟩ := cutL_some hc
        unfold lineS
        rw [e2, show a ++ 10 :: b' ++ z = a ++ 10 :: (b' ++ z) by simp, cutL_of hno]
        simp only [hi]
        exact h
theorem good_fieldsF (bad : Nat) (hb : bad ≠ 283) : ∀ k, Good (fieldsF bad k)
  | 0 => by
    have e : fieldsF bad 0 = fun _ => Res.err 283 := by funext t; rfl
    rw [e]; exact Good.fail 283
  | k + 1 => by
    have h := (good_line bad hb).bind (g := fun c _ b => if c = [] then Res.ok [] b else match hdrOf c with
      | none => .err bad
      | some h => (fieldsF bad k b).map (h :: ·)) (fun c n => by
        by_cases hc : c = []
        · simp only [if_pos hc]; exact Good.pure _
        · simp only [if_neg hc]
          cases hdrOf c with
          | none => exact Good.fail _
          | some h => exact (good_fieldsF bad hb k).map _)
    refine Good.congr (fun t => ?_) h
    rw [fieldsF]
    cases lineS bad t with
    | err e => rfl
    | ok c b =>
      simp only
      by_cases hc : c = []
      · rw [if_pos hc, if_pos hc]
      · rw [if_neg hc, if_neg hc]
        cases hdrOf c <;> rfl
theorem good_fields (bad : Nat) (hb : bad ≠ 283) : Good (fieldsS bad) :=
  Good.fuel (good_fieldsF bad hb) (fun t k hk => by unfold fieldsS; exact fieldsF_more bad (t.length + 1) k t (by omega) (by omega))
def bulkS (n : Nat) (b : Bytes) : Res Bytes :=
  if b.length < n + 2 then .err 283 else if (b.drop n).take 2 ≠ [13, 10] then .err 282 else .ok (b.take n) (b.drop (n + 2))
theorem good_bulk (n : Nat) : Good (bulkS n) where
  ok := by
    intro t x b h
    unfold bulkS at h
    by_cases h1 : t.length < n + 2
    · rw [if_pos h1] at h; cases h
    · rw [if_neg h1] at h
      by_cases h2 : (t.drop n).take 2 ≠ [13, 10]
      · rw [if_pos h2] at h; cases h
      · rw [if_neg h2] at h
        injection h with h3 h4
        subst h3 h4
        refine ⟨t.take (n + 2), (List.take_append_drop _ _).symm, fun b' => ?_⟩
        have hl : (t.take (n + 2)).length = n + 2 := by rw [List.length_take]; omega
        unfold bulkS
        rw [if_neg (by rw [List.length_append]; omega), if_neg, List.take_append_of_le_length (by omega), List.take_take, List.drop_left' hl, Nat.min_eq_left (by omega)]
        rw [List.drop_append_of_le_length (by omega), List.take_append_of_le_length (by rw [List.length_drop]; omega), List.drop_take, List.take_take, show min 2 (n + 2 - n) = 2 by omega]
        exact h2
  short := by
    intro t x b u h hu v z hv hz
    unfold bulkS at h
    by_cases h1 : t.length < n + 2
    · rw [if_pos h1] at h; cases h
    · rw [if_neg h1] at h
      by_cases h2 : (t.drop n).take 2 ≠ [13, 10]
      · rw [if_pos h2] at h; cases h
      · rw [if_neg h2] at h
        injection h with h3 h4
        have hul : u.length = n + 2 := by
          have := congrArg List.length hu
          rw [List.length_append, ← h4, List.length_drop] at this
          omega
        have hz0 : 0 < z.length := List.length_pos_iff.2 hz
        have := congrArg List.length hv
        rw [List.length_append] at this
        unfold bulkS
        rw [if_pos (by omega)]
  err := by
    intro t e h he z
    unfold bulkS at h ⊢
    by_cases h1 : t.length < n + 2
    · rw [if_pos h1] at h; injection h with h; exact absurd h.symm he
    · rw [if_neg h1] at h
      rw [if_neg (by rw [List.length_append]; omega), List.drop_append_of_le_length (by omega), List.take_append_of_le_length (by rw [List.length_drop]; omega)]
      by_cases h2 : (t.drop n).take 2 ≠ [13, 10]
      · rw [if_pos h2] at h ⊢; exact h
      · rw [if_neg h2] at h; cases h
def takeS (n : Nat) (t : Bytes) : Res Bytes := if t.length < n then .err 283 else .ok (t.take n) (t.drop n)
theorem good_take (n : Nat) : Good (takeS n) where
  ok := by
    intro t x b h
    unfold takeS at h
    by_cases h1 : t.length < n
    · rw [if_pos h1] at h; cases h
    · rw [if_neg h1] at h
      injection h with h3 h4
      subst h3 h4
      refine ⟨t.take n, (List.take_append_drop _ _).symm, fun b' => ?_⟩
      have hl : (t.take n).length = n := by rw [List.length_take]; omega
      unfold takeS
      rw [if_neg (by rw [List.length_append]; omega), List.take_left' hl, List.drop_left' hl]
  short := by
    intro t x b u h hu v z hv hz
    unfold takeS at h
    by_cases h1 : t.length < n
    · rw [if_pos h1] at h; cases h
    · rw [if_neg h1] at h
      injection h with h3 h4
      have hul : u.length = n := by
        have := congrArg List.length hu
        rw [List.length_append, ← h4, List.length_drop] at this
        omega
      have hz0 : 0 < z.length := List.length_pos_iff.2 hz
      have := congrArg List.length hv
      rw [List.length_append] at this
      unfold takeS
      rw [if_pos (by omega)]
  err := by
    intro t e h he z
    unfold takeS at h
    by_cases h1 : t.length < n
    · rw [if_pos h1] at h; injection h with h; exact absurd h.symm he
    · rw [if_neg h1] at h; cases h
theorem good_chunksF : ∀ k p, Good (chunksF k p)
  | 0, p => Good.congr (fun t => rfl) (Good.fail 283)
  | k + 1, p => by
    have h := (good_line 282 (by decide)).bind (g := fun c m b => match sizeS c with
      | none => .err 282
      | some n => if n = 0 then (fieldsS 282 b).map (fun _ => []) else if 65536 < p + m + n + 2 then .err 284 else
        match bulkS n b with
        | .err e => .err e
        | .ok d r => (chunksF k (p + m + n + 2) r).map (d ++ ·)) (fun c m => by
        cases sizeS c with
        | none => exact Good.fail _
        | some n =>
          by_cases h0 : n = 0
          · simp only [if_pos h0]; exact (good_fields 282 (by decide)).map _
          · simp only [if_neg h0]
            by_cases h1 : 65536 < p + m + n + 2
            · simp only [if_pos h1]; exact Good.fail _
            · simp only [if_neg h1]
              refine Good.congr (fun t => ?_) ((good_bulk n).bind (g := fun d _ r => (chunksF k (p + m + n + 2) r).map (d ++ ·)) (fun d _ => (good_chunksF k _).map _))
              cases bulkS n t <;> rfl)
    refine Good.congr (fun t => ?_) h
    rw [chunksF]
    cases lineS 282 t with
    | err e => rfl
    | ok c b =>
      simp only
      cases sizeS c with
      | none => rfl
      | some n =>
        simp only
        by_cases h0 : n = 0
        · rw [if_pos h0, if_pos h0]
        · rw [if_neg h0, if_neg h0]
          by_cases h1 : 65536 < p + (t.length - b.length) + n + 2
          · rw [if_pos h1, if_pos h1]
          · rw [if_neg h1, if_neg h1]
            unfold bulkS
            by_cases h2 : b.length < n + 2
            · rw [if_pos h2, if_pos h2]
            · rw [if_neg h2, if_neg h2]
              by_cases h3 : (b.drop n).take 2 ≠ [13, 10]
              · rw [if_pos h3, if_pos h3]
              · rw [if_neg h3, if_neg h3]
theorem good_chunks (p : Nat) : Good (chunksS p) :=
  Good.fuel (fun k => good_chunksF k p) (fun t k hk => by unfold chunksS; exact chunksF_more (t.length + 1) k p t (by omega) (by omega))
theorem good_body (sh : Shape) (p : Nat) : Good (bodyS sh p) := by
  cases sh with
  | none => exact Good.congr (fun t => rfl) (Good.pure [])
  | long n =>
    by_cases h : 65536 < p + n
    · exact Good.congr (fun t => by unfold bodyS; simp only; rw [if_pos h]) (Good.fail 284)
    · exact Good.congr (fun t => by unfold bodyS takeS; simp only; rw [if_neg h]) (good_take n)
  | chunked => exact Good.congr (fun t => rfl) (good_chunks p)
def afterFields (m tg : Bytes) (old : Bool) (n1 : Nat) (hs : List HD) (n2 : Nat) (t2 : Bytes) : Res Req :=
  match judgeS hs old with
  | none => .err 281
  | some sh => (bodyS sh (n1 + n2) t2).map fun body => ⟨m, tg, hs, body, endS hs old⟩
def afterFirst (c : Bytes) (n1 : Nat) (t1 : Bytes) : Res Req :=
  match firstS c with
  | none => .err 280
  | some (m, tg, old) => match fieldsS 281 t1 with
    | .err e => .err e
    | .ok hs t2 => afterFields m tg old n1 hs (t1.length - t2.length) t2
theorem good_afterFields (m tg : Bytes) (old : Bool) (n1 : Nat) (hs : List HD) (n2 : Nat) : Good (afterFields m tg old n1 hs n2) := by
  unfold afterFields
  cases judgeS hs old with
  | none => exact Good.fail _
  | some sh => exact (good_body sh _).map _
theorem good_afterFirst (c : Bytes) (n1 : Nat) : Good (afterFirst c n1) := by
  unfold afterFirst
  cases firstS c with
  | none => exact Good.fail _
  | some x =>
    obtain ⟨m, tg, old⟩ := x
    refine Good.congr (fun t => ?_) ((good_fields 281 (by decide)).bind (g := afterFields m tg old n1) (fun hs n2 => good_afterFields m tg old n1 hs n2))
    simp only
    cases fieldsS 281 t <;> rfl
theorem readS_eq (s : Bytes) : readS s = match lineS 280 s with
    | .err e => .err e
    | .ok c t1 => afterFirst c (s.length - t1.length) t1 := by
  unfold readS
  cases hl : lineS 280 s with
  | err e => rfl
  | ok c t1 =>
    have h1 := lineS_len hl
    simp only
    unfold afterFirst
    cases firstS c with
    | none => rfl
    | some x =>
      obtain ⟨m, tg, old⟩ := x
      simp only
      cases hf : fieldsS 281 t1 with
      | err e => rfl
      | ok hs t2 =>
        have h2 := fieldsS_len t1.length (Nat.le_refl _) hf
        simp only
        unfold afterFields
        cases judgeS hs old with
        | none => rfl
        | some sh =>
          simp only
          rw [show s.length - t1.length + (t1.length - t2.length) = s.length - t2.length by omega]
          cases bodyS sh (s.length - t2.length) t2 <;> rfl
/-- a request never looks ahead -/
theorem good_read : Good readS :=
  Good.congr (fun t => by rw [readS_eq]; cases lineS 280 t <;> rfl) ((good_line 280 (by decide)).bind (g := afterFirst) (fun c n => good_afterFirst c n))
end Go.Proofs.YtojemdggbcklkaaDoor.Wire
namespace Go.Proofs.YtojemdggbcklkaaDoor.WireR
open Go.RowKit Go.Proofs.YtojemdggbcklkaaDoor.Mem Go.Proofs.YtojemdggbcklkaaDoor.Wire Go.Proofs.YtojemdggbcklkaaDoor.Strs Go.Proofs.YtojemdggbcklkaaDoor.Heads
set_option linter.unusedVariables false
set_option linter.unusedSimpArgs false
set_option maxRecDepth 4000

/-! what a Read says of a beginning -/
theorem all_err {raw : Bytes} {er : Nat} (h : readAll raw = .error er) : 280 ≤ er ∧ er ≤ 284 := by
  unfold readAll at h
  cases hr : readS (raw.take Most) with
  | ok r t => rw [hr] at h; cases h
  | err e =>
    rw [hr] at h
    injection h with h
    have he : 280 ≤ e ∧ e ≤ 284 := by
      unfold readS at hr
      cases h1 : lineS 280 (raw.take Most) with
      | err e1 => simp only [h1] at hr; injection hr with hr; subst hr; exact lineS_err h1 (by omega)
      | ok c t1 =>
        simp only [h1] at hr
        cases h2 : firstS c with
        | none => simp only [h2] at hr; injection hr with hr; omega
        | some m =>
          obtain ⟨mm, tg, old⟩ := m
          simp only [h2] at hr
          cases h3 : fieldsS 281 t1 with
          | err e3 => simp only [h3] at hr; injection hr with hr; have := fields_err _ h3; omega
          | ok hs t2 =>
            simp only [h3] at hr
            cases h4 : judgeS hs old with
            | none => simp only [h4] at hr; injection hr with hr; omega
            | some sh =>
              simp only [h4] at hr
              cases h5 : bodyS sh ((raw.take Most).length - t2.length) t2 with
              | err e5 => simp only [h5] at hr; injection hr with hr; subst hr; exact body_err h5
              | ok body t3 => simp only [h5] at hr; cases hr
    split at h <;> omega
theorem read_ne : readS [] = .err 283 := rfl
theorem all_ok {raw : Bytes} {rq : Req} {n : Nat} (h : readAll raw = .ok (rq, n)) : 1 ≤ n ∧ n ≤ raw.length ∧ n ≤ 65536 ∧ readAll (raw.take n) = .ok (rq, n) ∧ ∀ k, k < n → readAll (raw.take k) = .error 283 := by
  have h0 := h
  unfold readAll at h
  cases hr : readS (raw.take Most) with
  | err e => rw [hr] at h; cases h
  | ok r t =>
    rw [hr] at h
    injection h with h
    injection h with h1 h2
    subst h1
    obtain ⟨u, hu, hext⟩ := good_read.ok hr
    have hul : u.length = n := by
      rw [← h2, hu, List.length_append]; omega
    have hml : (raw.take Most).length ≤ 65536 := by rw [List.length_take]; unfold Most; omega
    have hml2 : (raw.take Most).length ≤ raw.length := by rw [List.length_take]; omega
    have hle : u.length ≤ (raw.take Most).length := by rw [hu, List.length_append]; omega
    have hut : raw.take n = u := by
      have h3 : (raw.take Most).take n = u := by rw [hu, ← hul]; exact List.take_left' rfl
      rw [List.take_take] at h3
      rwa [Nat.min_eq_left (by unfold Most; omega)] at h3
    have hne : 1 ≤ n := by
      rcases Nat.eq_zero_or_pos n with h0 | h0
      · exfalso
        have : u = [] := List.eq_nil_of_length_eq_zero (by omega)
        have h4 := hext []
        rw [this, List.append_nil, read_ne] at h4
        cases h4
      · exact h0
    refine ⟨hne, by omega, by omega, ?_, fun k hk => ?_⟩
    · rw [hut]
      unfold readAll
      rw [List.take_of_length_le (by unfold Most; omega)]
      have h4 := hext []
      rw [List.append_nil] at h4
      rw [h4]
      simp [hul]
    · have hkk : raw.take k = u.take k := by rw [← hut, List.take_take, Nat.min_eq_left (by omega)]
      have hz : u.drop k ≠ [] := by
        intro e
        have := congrArg List.length e
        rw [List.length_drop] at this
        simp at this
        omega
      have h4 := good_read.short hr hu (u.take k) (u.drop k) (List.take_append_drop k u).symm hz
      have hl : (u.take k).length ≤ 65536 := by rw [List.length_take]; omega
      rw [hkk]
      unfold readAll
      rw [List.take_of_length_le (by unfold Most; omega), h4]
      simp only
      rw [if_neg (fun h => by have := h.2; unfold Most at this; omega)]
theorem req_load {w : World} {H : Nat} {vs : List Value} (hB : Blk w H 30 vs) (hl : vs.length = 5) : (Instr.loadAt 30 (.pointer (some ⟨H, 0, none⟩))).run Tryd.prog w = .ok (.agg vs.toArray) w :=
  run_loadB AR hB vs (by rw [List.drop_zero]; exact List.take_of_length_le (by rw [hl]; decide)) hl
set_option maxHeartbeats 4000000 in
theorem none_zero (w : World) : Calls Tryd.prog 18 #[.agg #[.string ⟨#[]⟩, .string ⟨#[]⟩, .slice none 0 0, .slice none 0 0, .bool false]] w fun e w' => e = .returned (.bool true) ∧ Below w.heap.size w w' := by
  have sm : ∀ W, Calls Tryd.prog 17 #[.agg #[.string ⟨#[]⟩, .string ⟨#[]⟩, .slice none 0 0, .slice none 0 0, .bool false], .agg #[.string ⟨#[]⟩, .string ⟨#[]⟩, .slice none 0 0, .slice none 0 0, .bool false]] W fun e w' => e = .returned (.bool true) ∧ Below W.heap.size W w' := fun W =>
    same_req (w := W) ⟨[], [], [], [], false⟩ ⟨[], [], [], [], false⟩ none 0 none 0 none 0 none 0 rfl (RV.nil _ _) (RV.nil _ _) (RB.nil _ _) (RB.nil _ _) (by intro ad h; cases h) (by intro ad h; cases h) (by simp) (by simp)
  have SM := Lib.hid sm
  clear sm
  go_enter Tryd.func18, Tryd.ntmps18
  go_wp2_with (first
    | ((with_reducible show wpList _ _ _ (⟨some 1, _, _, _, _, _⟩ :: _) _ _); go_must (refine wpList_boxB rfl (.tmp 0) rfl [.string ⟨#[]⟩, .string ⟨#[]⟩, .slice none 0 0, .slice none 0 0, .bool false] rfl w.heap.size rfl ?_); intro w1 hB1 hb1 hz1; have H1 := Lib.hid (And.intro hB1 hb1); clear hB1 hb1 hz1)
    | ((with_reducible show wpList _ _ _ (⟨some 3, _, _, _, _, _⟩ :: _) _ _); go_must (refine wpList_loadB AR rfl (.tmp 1) rfl w.heap.size 0 rfl _ _ H1.out.1 [.string ⟨#[]⟩, .string ⟨#[]⟩, .slice none 0 0, .slice none 0 0, .bool false] (by simp) rfl ?_))
    | (go_at_call 17; go_must (refine (SM.out _).mono ?_); rintro e w2 ⟨rfl, hb2⟩; have B2 := Lib.hid (gt H1.out.2 hb2); clear hb2))
  go_ret
  exact ⟨rfl, B2.out⟩
set_option maxHeartbeats 16000000 in
theorem law_short (A : Option Addr) (n c : Nat) (raw : List UInt8) (z : Int) (w : World) (hA : RB w A raw) (hn : n = raw.length) (hc : n ≤ c) (hl : n ≤ 1073741824) :
    Calls Tryd.prog 6 #[.slice A n c, .int .i64 z] w fun e w' => e = .returned (.bool true) ∧ Below w.heap.size w w' := by
  have cp := fun (W : World) (h : Below w.heap.size w W) => read_any A n c raw W (hA.below h) hn hc (by omega)
  cases hr : readAll raw with
  | error er =>
    have her := all_err hr
    simp only [hr] at cp
    have he0 : ((er : Nat) : Int) ≠ 0 := by omega
    have CP := Lib.hid cp
    clear cp hr hA hn hc hl her
    go_enter Tryd.func6, Tryd.ntmps6
    go_wp2_with (first
      | (go_at_call 14; go_must (refine (awake_any _).mono ?_); rintro e w1 ⟨rfl, hb1⟩; have B1 := Lib.hid hb1; clear hb1)
      | (go_at_call 16; (with_reducible show Calls _ _ #[_] _ _); go_must (refine (CP.out _ B1.out).mono ?_); rintro e w2 hp; obtain ⟨hb, rfl⟩ := hp; have A2 := Lib.hid (gt B1.out hb); have E2 := Lib.hid hb; clear hb)
      | ((with_reducible show wpList _ _ _ (⟨some 5, .alloc _, _, _, _, _⟩ :: _) _ _); go_must (refine wpList_allocB AR rfl rfl w2.heap.size rfl ?_); intro w2a hBx hbx hzx; have H2 := Lib.hid (And.intro hBx hbx); clear hBx hbx hzx)
      | ((with_reducible show wpList _ _ _ (⟨none, .store _ (.tmp 5) _, _, _, _, _⟩ :: _) _ _); go_must (refine wpList_storeB AR rfl (.tmp 5) (.tmp 19) rfl w2.heap.size 0 rfl [.string ⟨#[]⟩, .string ⟨#[]⟩, .slice none 0 0, .slice none 0 0, .bool false] rfl rfl _ _ H2.out.1 (by simp) (by simp [Value.oneCell']) ?_); intro w2b hBy hgy hzy
         simp only [splice, List.take_zero, List.nil_append, List.length_cons, List.length_nil, List.drop_succ_cons, List.drop_zero, List.append_nil, Nat.zero_add, List.drop_nil] at hBy
         have D2 := Lib.hid (H2.out.2.grown hgy H2.out.2.size (fun j hj => by injection hj with hj; omega))
         have C2 := Lib.hid hBy
         have B2 := Lib.hid (gt A2.out D2.out)
         clear hBy hgy hzy))
    go_ret
    exact ⟨rfl, B2.out⟩
  | ok x =>
    obtain ⟨rq, N⟩ := x
    have hlen := all_len hr
    obtain ⟨hN1, hNn, hN65, hwhole, hpart⟩ := all_ok hr
    have cw := fun (W : World) (h : Below w.heap.size w W) => read_any A N c (raw.take N) W ((hA.take N).below h) (by rw [List.length_take]; omega) (by omega) (by omega)
    have ck := fun (k : Nat) (hk : k < N) (W : World) (h : Below w.heap.size w W) => read_any A k c (raw.take k) W ((hA.take k).below h) (by rw [List.length_take]; omega) (by omega) (by omega)
    simp only [hr] at cp
    simp only [hwhole] at cw
    have CK := Lib.hid (fun (k : Nat) (hk : k < N) (W : World) (h : Below w.heap.size w W) => (hpart k hk) ▸ ck k hk W h)
    have sm := fun (W : World) A5 k5 A7 k7 B5 l5 B7 l7 h1 h2 h3 h4 h5 h6 => same_req (w := W) rq rq A5 k5 A7 k7 B5 l5 B7 l7 rfl h1 h2 h3 h4 h5 h6 (by omega) (by omega)
    obtain ⟨smm, hsm⟩ : ∃ x, x = (⟨rq.method.toArray⟩ : ByteArray) := ⟨_, rfl⟩
    obtain ⟨stg, hst⟩ : ∃ x, x = (⟨rq.target.toArray⟩ : ByteArray) := ⟨_, rfl⟩
    obtain ⟨hm, hhm⟩ : ∃ x, x = rq.headers.length := ⟨_, rfl⟩
    obtain ⟨bl, hbl⟩ : ∃ x, x = rq.body.length := ⟨_, rfl⟩
    obtain ⟨cl, hcl⟩ : ∃ x, x = rq.close := ⟨_, rfl⟩
    unfold ReadPost at cp cw
    simp only at cp cw
    rw [← hsm, ← hst, ← hhm, ← hbl, ← hcl] at cp cw sm
    have CP := Lib.hid cp
    have CW := Lib.hid cw
    have SM := Lib.hid sm
    have i1 : decide ((N : Int) < 1) = false := by rw [decide_eq_false_iff_not]; omega
    have i2 : decide ((n : Int) < (N : Int)) = false := by rw [decide_eq_false_iff_not]; omega
    have i3 : decide (n < N) = false := by rw [decide_eq_false_iff_not]; omega
    have i4 : ¬ n < N := by omega
    have i5 : (0 : Int) ≤ (N : Int) := by omega
    have i6 : (N : Int) ≤ (c : Int) := by omega
    have HN := Lib.hid (And.intro hN1 (And.intro hNn (And.intro hN65 hc)))
    clear cp cw ck hr hA hn hc hl sm hsm hst hhm hbl hcl hlen hwhole hpart hN1 hNn hN65
    go_enter Tryd.func6, Tryd.ntmps6
    go_upto_region 9 with (first
      | (go_at_call 14; go_must (refine (awake_any _).mono ?_); rintro e w1 ⟨rfl, hb1⟩; have B1 := Lib.hid hb1; clear hb1)
      | (go_at_call 16; (with_reducible show Calls _ _ #[.slice A n c] _ _); go_must (refine (CP.out _ B1.out).mono ?_); rintro e w2 hp; obtain ⟨hb, A1, k1, P1, q1, K1, rfl, ho1, hK1, hw1, hob1⟩ := hp; have A2 := Lib.hid (gt B1.out hb); have E2 := Lib.hid hb; have R1 := Lib.hid (And.intro ho1 hob1); clear ho1 hK1 hw1 hob1; clear hb)
      | ((with_reducible show wpList _ _ _ (⟨some 5, .alloc _, _, _, _, _⟩ :: _) _ _); go_must (refine wpList_allocB AR rfl rfl w2.heap.size rfl ?_); intro w2a hBx hbx hzx; have H2 := Lib.hid (And.intro hBx hbx); clear hBx hbx hzx)
      | ((with_reducible show wpList _ _ _ (⟨none, .store _ (.tmp 5) _, _, _, _, _⟩ :: _) _ _); go_must (refine wpList_storeB AR rfl (.tmp 5) (.tmp 19) rfl w2.heap.size 0 rfl [.string smm, .string stg, .slice A1 hm k1, .slice P1 bl q1, .bool cl] rfl rfl _ _ H2.out.1 (by simp) (by simp [Value.oneCell']) ?_); intro w2b hBy hgy hzy
         simp only [splice, List.take_zero, List.nil_append, List.length_cons, List.length_nil, List.drop_succ_cons, List.drop_zero, List.append_nil, Nat.zero_add, List.drop_nil] at hBy
         have D2 := Lib.hid (H2.out.2.grown hgy H2.out.2.size (fun j hj => by injection hj with hj; omega))
         have C2 := Lib.hid hBy
         have B2 := Lib.hid (gt A2.out D2.out)
         clear hBy hgy hzy)
      | (go_at_call 16; (with_reducible show Calls _ _ #[.slice A N c] _ _); go_must (refine (CW.out _ B2.out).mono ?_); rintro e w3 hp; obtain ⟨hb, A2, k2, P2, q2, K2, rfl, ho2, hK2, hw2, hob2⟩ := hp; have A3 := Lib.hid (gt B2.out hb); have E3 := Lib.hid hb; have R2 := Lib.hid (And.intro ho2 hob2); clear ho2 hK2 hw2 hob2; clear hb)
      | ((with_reducible show wpList _ _ _ (⟨some 8, .alloc _, _, _, _, _⟩ :: _) _ _); go_must (refine wpList_allocB AR rfl rfl w3.heap.size rfl ?_); intro w3a hBx hbx hzx; have H3 := Lib.hid (And.intro hBx hbx); clear hBx hbx hzx)
      | ((with_reducible show wpList _ _ _ (⟨none, .store _ (.tmp 8) _, _, _, _, _⟩ :: _) _ _); go_must (refine wpList_storeB AR rfl (.tmp 8) (.tmp 37) rfl w3.heap.size 0 rfl [.string smm, .string stg, .slice A2 hm k2, .slice P2 bl q2, .bool cl] rfl rfl _ _ H3.out.1 (by simp) (by simp [Value.oneCell']) ?_); intro w3b hBy hgy hzy
         simp only [splice, List.take_zero, List.nil_append, List.length_cons, List.length_nil, List.drop_succ_cons, List.drop_zero, List.append_nil, Nat.zero_add, List.drop_nil] at hBy
         have D3 := Lib.hid (H3.out.2.grown hgy H3.out.2.size (fun j hj => by injection hj with hj; omega))
         have C3 := Lib.hid hBy
         have B3 := Lib.hid (gt A3.out D3.out)
         clear hBy hgy hzy))
    have hBku := (C2.out.grow E3.out).grow D3.out
    have u0 := hBku.cell 0
    have u1 := hBku.cell 1
    have u2 := hBku.cell 2
    have u3 := hBku.cell 3
    have u4 := hBku.cell 4
    simp only [List.getElem?_cons_succ, List.getElem?_cons_zero] at u0 u1 u2 u3 u4
    have hBkv := C3.out
    have v0 := hBkv.cell 0
    have v1 := hBkv.cell 1
    have v2 := hBkv.cell 2
    have v3 := hBkv.cell 3
    have v4 := hBkv.cell 4
    simp only [List.getElem?_cons_succ, List.getElem?_cons_zero] at v0 v1 v2 v3 v4
    clear hBku hBkv
    obtain ⟨h5, hh5⟩ : ∃ x, x = w2.heap.size := ⟨_, rfl⟩
    obtain ⟨h8, hh8⟩ : ∃ x, x = w3.heap.size := ⟨_, rfl⟩
    rw [← hh5] at u0 u1 u2 u3 u4 ⊢
    rw [← hh8] at v0 v1 v2 v3 v4 ⊢
    have k1 := SM.out w3b A1 k1 P1 q1 A2 k2 P2 q2 ((((own_rv R1.out.1).below D2.out).below E3.out).below D3.out) ((own_rv R2.out.1).below D3.out) ((((own_rv R1.out.2).rb.below D2.out).below E3.out).below D3.out) ((own_rv R2.out.2).rb.below D3.out) (own_spot R1.out.1) (own_spot R2.out.1)
    have K1 := Lib.hid k1
    clear k1 hh5 hh8
    go_upto_region 11 with (first
      | (go_at_call 17; go_must (refine (K1.out).mono ?_); rintro e w4 ⟨rfl, hb4⟩; have B4 := Lib.hid (gt B3.out hb4); clear hb4))
    clear u0 u1 u2 u3 u4 v0 v1 v2 v3 v4
    obtain ⟨kk, hkk⟩ : ∃ k, k = N - 1 := ⟨_, rfl⟩
    have hN1 := HN.out.1
    have e1 : (N : Int) - 1 = (kk : Int) := by omega
    have e2 : (0 : Int) ≤ (kk : Int) := by omega
    have e3 : (kk : Int) ≤ (c : Int) := by have := HN.out; omega
    have e4 : (kk : Int) ≤ 1152921504606846976 := by have := HN.out; omega
    by_cases hz0 : z < 0
    · have b1 : decide (z < 0) = true := decide_eq_true hz0
      have HK := Lib.hid (show kk < N by omega)
      have ww : wrap64 (kk : Int) = (kk : Int) := w64b rfl e2 e4
      clear hz0 hkk hN1 e4
      go_upto_region 13 with fail
      rw [ww]
      clear ww e1
      go_upto_region 14 with (first
        | (go_at_call 16; (with_reducible show Calls _ _ #[_] _ _); go_must (refine (CK.out kk HK.out _ B4.out).mono ?_); rintro e w5 hp; obtain ⟨hb, rfl⟩ := hp; have A5 := Lib.hid (gt B4.out hb); have E5 := Lib.hid hb; clear hb)
        | ((with_reducible show wpList _ _ _ (⟨some 11, .alloc _, _, _, _, _⟩ :: _) _ _); go_must (refine wpList_allocB AR rfl rfl w5.heap.size rfl ?_); intro w5a hBx hbx hzx; have H5 := Lib.hid (And.intro hBx hbx); clear hBx hbx hzx)
        | ((with_reducible show wpList _ _ _ (⟨none, .store _ (.tmp 11) _, _, _, _, _⟩ :: _) _ _); go_must (refine wpList_storeB AR rfl (.tmp 11) (.tmp 67) rfl w5.heap.size 0 rfl [.string ⟨#[]⟩, .string ⟨#[]⟩, .slice none 0 0, .slice none 0 0, .bool false] rfl rfl _ _ H5.out.1 (by simp) (by simp [Value.oneCell']) ?_); intro w5b hBy hgy hzy
           simp only [splice, List.take_zero, List.nil_append, List.length_cons, List.length_nil, List.drop_succ_cons, List.drop_zero, List.append_nil, Nat.zero_add, List.drop_nil] at hBy
           have D5 := Lib.hid (H5.out.2.grown hgy H5.out.2.size (fun j hj => by injection hj with hj; omega))
           have C5 := Lib.hid hBy
           have B5 := Lib.hid (gt A5.out D5.out)
           clear hBy hgy hzy))
      have hBkt := C5.out
      have t0 := hBkt.cell 0
      have t1 := hBkt.cell 1
      have t2 := hBkt.cell 2
      have t3 := hBkt.cell 3
      have t4 := hBkt.cell 4
      simp only [List.getElem?_cons_succ, List.getElem?_cons_zero] at t0 t1 t2 t3 t4
      obtain ⟨h11, hh11⟩ : ∃ x, x = w5.heap.size := ⟨_, rfl⟩
      rw [← hh11] at t0 t1 t2 t3 t4 ⊢
      clear hBkt hh11
      go_wp2_with (first
        | (go_at_call 18; go_must (refine (none_zero _).mono ?_); rintro e w6 ⟨rfl, hb6⟩; have B6 := Lib.hid (gt B5.out hb6); clear hb6))
      go_ret
      exact ⟨rfl, B6.out⟩
    · by_cases hzN : (N : Int) ≤ z
      · have b1 : decide (z < 0) = false := decide_eq_false hz0
        have b2 : decide ((N : Int) ≤ z) = true := decide_eq_true hzN
        have HK := Lib.hid (show kk < N by omega)
        have ww : wrap64 (kk : Int) = (kk : Int) := w64b rfl e2 e4
        clear hz0 hzN hkk hN1 e4
        go_upto_region 13 with fail
        rw [ww]
        clear ww e1
        go_upto_region 14 with (first
          | (go_at_call 16; (with_reducible show Calls _ _ #[_] _ _); go_must (refine (CK.out kk HK.out _ B4.out).mono ?_); rintro e w5 hp; obtain ⟨hb, rfl⟩ := hp; have A5 := Lib.hid (gt B4.out hb); have E5 := Lib.hid hb; clear hb)
          | ((with_reducible show wpList _ _ _ (⟨some 11, .alloc _, _, _, _, _⟩ :: _) _ _); go_must (refine wpList_allocB AR rfl rfl w5.heap.size rfl ?_); intro w5a hBx hbx hzx; have H5 := Lib.hid (And.intro hBx hbx); clear hBx hbx hzx)
          | ((with_reducible show wpList _ _ _ (⟨none, .store _ (.tmp 11) _, _, _, _, _⟩ :: _) _ _); go_must (refine wpList_storeB AR rfl (.tmp 11) (.tmp 67) rfl w5.heap.size 0 rfl [.string ⟨#[]⟩, .string ⟨#[]⟩, .slice none 0 0, .slice none 0 0, .bool false] rfl rfl _ _ H5.out.1 (by simp) (by simp [Value.oneCell']) ?_); intro w5b hBy hgy hzy
             simp only [splice, List.take_zero, List.nil_append, List.length_cons, List.length_nil, List.drop_succ_cons, List.drop_zero, List.append_nil, Nat.zero_add, List.drop_nil] at hBy
             have D5 := Lib.hid (H5.out.2.grown hgy H5.out.2.size (fun j hj => by injection hj with hj; omega))
             have C5 := Lib.hid hBy
             have B5 := Lib.hid (gt A5.out D5.out)
             clear hBy hgy hzy))
        have hBkt := C5.out
        have t0 := hBkt.cell 0
        have t1 := hBkt.cell 1
        have t2 := hBkt.cell 2
        have t3 := hBkt.cell 3
        have t4 := hBkt.cell 4
        simp only [List.getElem?_cons_succ, List.getElem?_cons_zero] at t0 t1 t2 t3 t4
        obtain ⟨h11, hh11⟩ : ∃ x, x = w5.heap.size := ⟨_, rfl⟩
        rw [← hh11] at t0 t1 t2 t3 t4 ⊢
        clear hBkt hh11
        go_wp2_with (first
          | (go_at_call 18; go_must (refine (none_zero _).mono ?_); rintro e w6 ⟨rfl, hb6⟩; have B6 := Lib.hid (gt B5.out hb6); clear hb6))
        go_ret
        exact ⟨rfl, B6.out⟩
      · obtain ⟨k, rfl⟩ : ∃ k : Nat, z = (k : Int) := ⟨z.toNat, by omega⟩
        have b1 : decide ((k : Int) < 0) = false := decide_eq_false hz0
        have b2 : decide ((N : Int) ≤ (k : Int)) = false := decide_eq_false hzN
        have b3 : decide (N ≤ k) = false := by rw [decide_eq_false_iff_not]; omega
        have HK := Lib.hid (show k < N by omega)
        have e5 : (k : Int) ≤ (c : Int) := by have := HN.out; omega
        have e6 : (0 : Int) ≤ (k : Int) := by omega
        clear hz0 hzN hkk hN1 e1 e2 e3 e4
        go_upto_region 14 with (first
          | (go_at_call 16; (with_reducible show Calls _ _ #[_] _ _); go_must (refine (CK.out k HK.out _ B4.out).mono ?_); rintro e w5 hp; obtain ⟨hb, rfl⟩ := hp; have A5 := Lib.hid (gt B4.out hb); have E5 := Lib.hid hb; clear hb)
          | ((with_reducible show wpList _ _ _ (⟨some 11, .alloc _, _, _, _, _⟩ :: _) _ _); go_must (refine wpList_allocB AR rfl rfl w5.heap.size rfl ?_); intro w5a hBx hbx hzx; have H5 := Lib.hid (And.intro hBx hbx); clear hBx hbx hzx)
          | ((with_reducible show wpList _ _ _ (⟨none, .store _ (.tmp 11) _, _, _, _, _⟩ :: _) _ _); go_must (refine wpList_storeB AR rfl (.tmp 11) (.tmp 67) rfl w5.heap.size 0 rfl [.string ⟨#[]⟩, .string ⟨#[]⟩, .slice none 0 0, .slice none 0 0, .bool false] rfl rfl _ _ H5.out.1 (by simp) (by simp [Value.oneCell']) ?_); intro w5b hBy hgy hzy
             simp only [splice, List.take_zero, List.nil_append, List.length_cons, List.length_nil, List.drop_succ_cons, List.drop_zero, List.append_nil, Nat.zero_add, List.drop_nil] at hBy
             have D5 := Lib.hid (H5.out.2.grown hgy H5.out.2.size (fun j hj => by injection hj with hj; omega))
             have C5 := Lib.hid hBy
             have B5 := Lib.hid (gt A5.out D5.out)
             clear hBy hgy hzy))
        have hBkt := C5.out
        have t0 := hBkt.cell 0
        have t1 := hBkt.cell 1
        have t2 := hBkt.cell 2
        have t3 := hBkt.cell 3
        have t4 := hBkt.cell 4
        simp only [List.getElem?_cons_succ, List.getElem?_cons_zero] at t0 t1 t2 t3 t4
        obtain ⟨h11, hh11⟩ : ∃ x, x = w5.heap.size := ⟨_, rfl⟩
        rw [← hh11] at t0 t1 t2 t3 t4 ⊢
        clear hBkt hh11
        go_wp2_with (first
          | (go_at_call 18; go_must (refine (none_zero _).mono ?_); rintro e w6 ⟨rfl, hb6⟩; have B6 := Lib.hid (gt B5.out hb6); clear hb6))
        go_ret
        exact ⟨rfl, B6.out⟩
end Go.Proofs.YtojemdggbcklkaaDoor.WireR
