import Derived.Test.YtoemceehmiaigaaEqual
import Derived.Test.YtoemceehmiaigaaLoan
import Derived.Test.YtoemceehmiaigaaHex
import Derived.Test.YtoemceehmiaigaaRg
import Derived.Lib.QuietBelow
open Go.Sort
namespace Go.Proofs.Ytoemceehmiaigaa.LawEquals
open Go.RowKit Go.Proofs.Ytoemceehmiaigaa.Mem Go.Proofs.Ytoemceehmiaigaa.Loan
attribute [local go_sem ↓] Go.wp_at_zero Go.wp_at_succ

/-- A pair of lists as it lies in memory. -/
structure PairD where
  A : Option Addr
  B : Option Addr
  ca : Nat
  cb : Nat
  a : List UInt8
  b : List UInt8
def PairD.cells (p : PairD) : List Value := [.slice p.A p.a.length p.ca, .slice p.B p.b.length p.cb]
def PairD.ok (w : World) (p : PairD) : Prop := RB w p.A p.a ∧ RB w p.B p.b ∧ p.a.length ≤ 70368744177664 ∧ p.b.length ≤ 70368744177664
theorem PairD.ok.below {w w' : World} {p : PairD} (h : p.ok w) (hb : Below w.heap.size w w') : p.ok w' := ⟨h.1.below hb, h.2.1.below hb, h.2.2⟩

theorem eq_c (A B : Option Addr) (na ca nb cb : Nat) (la lb : List UInt8) (w : World) (hna : na = la.length) (hnb : nb = lb.length) (ha : RB w A la) (hb : RB w B lb) (hca : la.length ≤ 70368744177664) (hcb : lb.length ≤ 70368744177664) (r : Bool) (hr : decide (la = lb) = r) :
    Calls Try.prog 6 #[.slice A na ca, .slice B nb cb] w fun e w' => e = .returned (.bool r) ∧ Below w.heap.size w w' := by
  subst hna hnb hr
  exact (Equal.any A B ca cb la lb w ha hb (by unfold maxLen; omega) (by unfold maxLen; omega)).mono fun e w' h => ⟨h.1, below_of_drewN h.2 _⟩
theorem hex_c (A : Option Addr) (n c : Nat) (l : List UInt8) (w : World) (hn : n = l.length) (ha : RB w A l) (hl : l.length ≤ 70368744177664) (r : List UInt8) (hr : Hex.hexl l = r) :
    Calls Try.prog 7 #[.slice A n c] w fun e w' => e = .returned (.string ⟨r.toArray⟩) ∧ Below w.heap.size w w' := by
  subst hn hr
  exact Hex.any A c l w ha hl

theorem refeq_c (A B : Option Addr) (na ca nb cb : Nat) (la lb : List UInt8) (w : World) (hna : na = la.length) (hnb : nb = lb.length) (ha : RB w A la) (hb : RB w B lb) (r : Bool) (hr : decide (la = lb) = r) :
    Calls Try.prog 10 #[.slice A na ca, .slice B nb cb] w fun e w' => e = .returned (.bool r) ∧ Below w.heap.size w w' := by
  subst hna hnb hr
  exact (Hex.ref_equal A B ca cb la lb w ha hb).mono fun e w' h => ⟨h.1, below_of_drewN h.2 _⟩
theorem refhex_c (A : Option Addr) (n c : Nat) (l : List UInt8) (w : World) (hn : n = l.length) (ha : RB w A l) (hl : l.length ≤ 70368744177664) (r : List UInt8) (hr : Hex.hexl l = r) :
    Calls Try.prog 11 #[.slice A n c] w fun e w' => e = .returned (.string ⟨r.toArray⟩) ∧ Below w.heap.size w w' := by
  subst hn hr
  exact Hex.ref_any A c l w ha hl
theorem marked_rb {w : World} {g : Nat} {t : TypeId} {l : List UInt8} {k : Nat} (h : Blk w g t ((marked l k).map bv)) : RB w (some ⟨g, 0, none⟩) l := by
  have := h.rb 0 l.length
  simpa [marked] using this

theorem flat_get (ps : List PairD) (k : Nat) (h : k < ps.length) : (ps.flatMap PairD.cells)[k * 2]? = some (.slice ps[k].A ps[k].a.length ps[k].ca) ∧ (ps.flatMap PairD.cells)[k * 2 + (0 + 1)]? = some (.slice ps[k].B ps[k].b.length ps[k].cb) := by
  induction ps generalizing k with
  | nil => simp at h
  | cons p r ih =>
    cases k with
    | zero => simp [PairD.cells]
    | succ k =>
      have := ih k (by simpa using h)
      simp only [List.flatMap_cons, PairD.cells, List.cons_append, List.nil_append, List.getElem_cons_succ]
      rw [show (k + 1) * 2 = k * 2 + 1 + 1 by omega]
      simpa using this

theorem gen_wp {P : Program} {C : Code} {Q : Exit → Act → World → Prop} {A : Act} {W0 : World} (F : World → Prop) (h : F W0) (k : ∀ W, F W → C.wp P Q A W) : C.wp P Q A W0 := k _ h

/-- what lies in memory while a pair is looked at -/
structure Ctx (w W : World) (b4 b5 b6 g1 g2 : Nat) (p : PairD) (la lb : List UInt8) : Prop where
  hp : Blk W b4 27 p.cells
  ha : Blk W b5 29 [.slice (some ⟨g1, 0, none⟩) (la.length + 200) (la.length + 200), .int .i64 la.length]
  hb : Blk W b6 29 [.slice (some ⟨g2, 0, none⟩) (lb.length + 200) (lb.length + 200), .int .i64 lb.length]
  h1 : Blk W g1 5 ((marked la 200).map bv)
  h2 : Blk W g2 5 ((marked lb 200).map bv)
  ok : p.ok W
  low : Below w.heap.size w W
  ne : g1 ≠ g2 ∧ g1 ≠ b4 ∧ g1 ≠ b5 ∧ g1 ≠ b6 ∧ w.heap.size ≤ g1

theorem Ctx.grow {w W W' : World} {b4 b5 b6 g1 g2 : Nat} {p : PairD} {la lb : List UInt8} (h : Ctx w W b4 b5 b6 g1 g2 p la lb) (hb : Below W.heap.size W W') : Ctx w W' b4 b5 b6 g1 g2 p la lb :=
  ⟨h.hp.grow hb, h.ha.grow hb, h.hb.grow hb, h.h1.grow hb, h.h2.grow hb, h.ok.below hb, h.low.trans (hb.mono h.low.size), h.ne⟩
def mtail : List UInt8 := List.replicate 200 90 ++ List.replicate (200 - 200) 0
theorem mtail_length : mtail.length = 200 := by unfold mtail; rw [List.length_append, List.length_replicate, List.length_replicate]
theorem marked_tail : ∀ x ∈ mtail, x = 90 := by
  intro x hx
  rcases List.mem_append.1 hx with h | h
  · exact (List.mem_replicate.1 h).2
  · have := (List.mem_replicate.1 h).1
    omega
theorem len_tail (l : List UInt8) : l.length + 200 = (l ++ mtail).length := by rw [List.length_append, mtail_length]

set_option maxHeartbeats 2000000 in
theorem law_any (A : Option Addr) (c : Nat) (ps : List PairD) (w : World) (hr : RV w A (ps.flatMap PairD.cells)) (hp : ∀ p ∈ ps, p.ok w) (hl : ps.length ≤ 140737488351232) :
    Calls Try.prog 3 #[.slice A ps.length c] w fun e w' => e = .returned (.bool true) ∧ Below w.heap.size w w' := by
  have HR := Lib.hid hr
  have HP := Lib.hid hp
  clear hr hp
  have hll : (ps.length : Int) ≤ 9223372036854775807 := by omega
  go_enter Try.func3, Try.ntmps3
  go_wp2_with fail
  refine (eq_c _ _ _ _ _ _ [1] [1] _ rfl rfl ((rv2a w _ _ [.int .u8 1]).rb' [1] rfl) ((rv2b w _ _ [.int .u8 1]).rb' [1] rfl) (by simp) (by simp) true (by decide)).mono ?_
  rintro e w1 ⟨rfl, hb1⟩
  go_wp2_with fail
  refine (eq_c _ _ _ _ _ _ [1] [2] _ rfl rfl ((rv2a w1 _ _ [.int .u8 1]).rb' [1] rfl) ((rv2b w1 _ _ [.int .u8 2]).rb' [2] rfl) (by simp) (by simp) false (by decide)).mono ?_
  rintro e w2 ⟨rfl, hb2⟩
  go_wp2_with fail
  refine (hex_c _ _ _ [0, 171] _ rfl ((rv_new w2 [.int .u8 0, .int .u8 171] _).rb' [0, 171] rfl) (by simp) [48, 48, 97, 98] (by decide)).mono ?_
  rintro e w3 ⟨rfl, hb3⟩
  have g1 := gt (ga (ga (gr w) _) _) hb1
  have g2 := gt (ga (ga g1 _) _) hb2
  have hbw := gt (ga g2 _) hb3
  clear hb1 hb2 hb3 g1 g2
  go_wp2_with fail
  go_loopw [25] (fun i wr => ∃ k : Nat, k ≤ ps.length ∧ i = .int .i64 k ∧ Below w.heap.size w wr) (fun i _ => ps.length - (intOf i).toNat)
  case atStart => exact ⟨0, by omega, rfl, hbw⟩
  case round =>
    obtain ⟨k, hk, rfl, hb⟩ := hrel
    clear hbw
    by_cases hlt : k < ps.length
    · have hlt' : (k : Int) < (ps.length : Int) := by omega
      have h0k : (0 : Int) ≤ (k : Int) := by omega
      obtain ⟨f0, f1⟩ := flat_get ps k hlt
      have hok := (HP.out _ (List.getElem_mem hlt)).below hb
      have hrv := HR.out.below hb
      obtain ⟨ad, rfl⟩ : ∃ ad, A = some ad := by obtain ⟨ad, e, _⟩ := hrv (k * 2) (List.getElem?_eq_some_iff.1 f0).1; exact ⟨ad, e⟩
      have c0 := hrv.cells rfl _ _ f0
      have c1 := cell_next (hrv.cells rfl _ _ f1)
      obtain ⟨p, hpk⟩ : ∃ p, p = ps[k] := ⟨_, rfl⟩
      rw [← hpk] at c0 c1 hok
      clear hrv f0 f1 hpk
      obtain ⟨pA, pB, ca, cb, la, lb⟩ := p
      simp only [Nat.zero_add] at c0 c1
      go_wp2_with fail
      have HOK := Lib.hid hok
      clear hok c0 c1
      refine wp_region_rgT 8 [.eq 29 (.pointer (some ⟨wr.heap.size, 0, none⟩)), .eq 30 (.slice pA la.length ca),
        .new 31 (fun v W => ∃ g, v = .agg #[.slice (some ⟨g, 0, none⟩) (la.length + 200) (la.length + 200), .int .i64 la.length] ∧ wr.heap.size < g ∧ Blk W g 5 ((marked la 200).map bv)),
        .eq 32 (.pointer (some ⟨wr.heap.size, 1, none⟩)), .eq 33 (.slice pB lb.length cb),
        .new 34 (fun v W => ∃ g, v = .agg #[.slice (some ⟨g, 0, none⟩) (lb.length + 200) (lb.length + 200), .int .i64 lb.length] ∧ wr.heap.size < g ∧ Blk W g 5 ((marked lb 200).map bv)),
        .new 5 (fun v W => ∃ g, v = .pointer (some ⟨g, 0, none⟩) ∧ wr.heap.size < g ∧ Blk W g 29 [.slice none 0 0, .int .i64 0]),
        .new 6 (fun v W => ∃ g, v = .pointer (some ⟨g, 0, none⟩) ∧ wr.heap.size < g ∧ Blk W g 29 [.slice none 0 0, .int .i64 0])]
        (by kernel_rfl) (by kernel_rfl) (by kernel_rfl) (by kernel_rfl) ?hst ?hob ?hfin
      case hst =>
        exact stables_cons (st_eq _ _) (stables_cons (st_eq _ _) (stables_cons (st_new fun v w1 w2 ⟨g, e, h1, h2⟩ hb => ⟨g, e, h1, h2.grow hb⟩) (stables_cons (st_eq _ _) (stables_cons (st_eq _ _)
          (stables_cons (st_new fun v w1 w2 ⟨g, e, h1, h2⟩ hb => ⟨g, e, h1, h2.grow hb⟩) (stables_cons (st_new fun v w1 w2 ⟨g, e, h1, h2⟩ hb => ⟨g, e, h1, h2.grow hb⟩)
          (stables_cons (st_new fun v w1 w2 ⟨g, e, h1, h2⟩ hb => ⟨g, e, h1, h2.grow hb⟩) stables_nil)))))))
      case hob =>
        simp only [List.take_succ_cons, List.take_zero]
        refine rgs_cons ?_ (rgs_cons ?_ (rgs_cons ?_ (rgs_cons ?_ (rgs_cons ?_ (rgs_cons ?_ (rgs_cons ?_ (rgs_cons ?_ rgs_nil)))))))
        · refine rg_eq (by decide) (by rfl) (by rfl) fun x w' A hg hp hA => ?_
          have e4 := hA 4
          simp [rgDsts] at e4
          go_simp
        · refine rg_eq (by decide) (by rfl) (by rfl) fun x w' A hg hp hA => ?_
          have e29 := hA 29
          simp [rgDsts] at e29
          simp [RgPreds, Region.binds] at hp
          have hc : w'.cell? ⟨wr.heap.size, 0, none⟩ = some (.slice pA la.length ca) := by
            rw [hg.cell (by simp)]
            simp [go_sem]
          go_simp
        · refine rg_call (by decide) (by rfl) fun x w' A hg hp hA => ⟨8, #[.slice pA la.length ca], ?_, ?_⟩
          · have e30 := hA 30
            simp [rgDsts] at e30
            simp [RgPreds, Region.binds] at hp
            go_simp
          · refine (lend_any pA ca la _ ?_ ?_).mono ?_
            · exact ((HOK.out.1.alloc _).below hg)
            · have := HOK.out.2.2.1; simp at this; omega
            · rintro e w4 ⟨g1, rfl, hg1, hB1, hb4⟩
              have q1 := hg.size
              have q2 := hB1.lt
              simp at q1
              refine ⟨_, rfl, hb4, ?_, ?_⟩
              · simp; exact ⟨by omega, hB1⟩
              · simp [blockOf]; omega
        · refine rg_eq (by decide) (by rfl) (by rfl) fun x w' A hg hp hA => ?_
          have e4 := hA 4
          simp [rgDsts] at e4
          go_simp
        · refine rg_eq (by decide) (by rfl) (by rfl) fun x w' A hg hp hA => ?_
          have e29 := hA 32
          simp [rgDsts] at e29
          simp [RgPreds, Region.binds] at hp
          have hc : w'.cell? ⟨wr.heap.size, 1, none⟩ = some (.slice pB lb.length cb) := by
            rw [hg.cell (by simp)]
            simp [go_sem]
          go_simp
        · refine rg_call (by decide) (by rfl) fun x w' A hg hp hA => ⟨8, #[.slice pB lb.length cb], ?_, ?_⟩
          · have e30 := hA 33
            simp [rgDsts] at e30
            simp [RgPreds, Region.binds] at hp
            have e33 := hp.1
            go_simp
          · refine (lend_any pB cb lb _ ?_ ?_).mono ?_
            · exact ((HOK.out.2.1.alloc _).below hg)
            · have := HOK.out.2.2.2; simp at this; omega
            · rintro e w4 ⟨g1, rfl, hg1, hB1, hb4⟩
              have q1 := hg.size
              have q2 := hB1.lt
              simp at q1
              refine ⟨_, rfl, hb4, ?_, ?_⟩
              · simp; exact ⟨by omega, hB1⟩
              · simp [blockOf]; omega
        · refine rg_val (by decide) (by rfl) fun x w' A hg hp hA => ⟨.pointer (some ⟨w'.heap.size, 0, none⟩), w'.alloc (.cells #[.slice none 0 0, .int .i64 0] 29), ?_, ga (gr _) _, ?_, ?_⟩
          · go_simp
          · simp
            have := hg.size
            simp at this
            exact ⟨by omega, Blk.new w' _ _⟩
          · simp [blockOf]
        · refine rg_val (by decide) (by rfl) fun x w' A hg hp hA => ⟨.pointer (some ⟨w'.heap.size, 0, none⟩), w'.alloc (.cells #[.slice none 0 0, .int .i64 0] 29), ?_, ga (gr _) _, ?_, ?_⟩
          · go_simp
          · simp
            have := hg.size
            simp at this
            exact ⟨by omega, Blk.new w' _ _⟩
          · simp [blockOf]
      case hfin =>
        intro x w' hg hall hap
        simp only [RgAll, holds_eq, holds_new, and_true] at hall
        obtain ⟨e29, e30, ⟨g1, e31, hg1, hB1⟩, e32, e33, ⟨g2, e34, hg2, hB2⟩, ⟨b5, e5, hb5, hB5⟩, ⟨b6, e6, hb6, hB6⟩⟩ := hall
        simp [RgApart, e31, e34, e5, e6, blockOf] at hap
        simp only [rgDsts, List.take_succ_cons, List.take_zero, List.filterMap_cons, List.filterMap_nil, putMany, List.foldl_cons, List.foldl_nil, List.setIfInBounds_toArray, List.set_cons_succ, List.set_cons_zero, List.drop_succ_cons, List.drop_zero, e29, e30, e31, e32, e33, e34, e5, e6]
        have hP : Blk w' wr.heap.size 27 [.slice pA la.length ca, .slice pB lb.length cb] := (Blk.new wr _ [.slice pA la.length ca, .slice pB lb.length cb]).grow hg
        have hbr : Below wr.heap.size wr w' := gt (ga (gr wr) _) hg
        have X := Lib.hid (And.intro hP (And.intro HOK.out (And.intro hb hbr)))
        have c50 := hB5.cell 0
        have c51 := hB5.cell 1
        have c60 := hB6.cell 0
        have c61 := hB6.cell 1
        simp only [List.getElem?_cons_zero, List.getElem?_cons_succ] at c50 c51 c60 c61
        have f50 := hB5.frozen 0
        have f51 := hB5.frozen 1
        have f60 := hB6.frozen 0
        have f61 := hB6.frozen 1
        have HB := Lib.hid (And.intro hB1 (And.intro hB2 (And.intro hB5 hB6)))
        have HA := Lib.hid hap
        have hne : ¬ b6 = b5 := by omega
        have hne' : ¬ b5 = b6 := by omega
        clear hP hbr hb hB1 hB2 hB5 hB6 hap hg e29 e30 e31 e32 e33 e34 e5 e6 HOK
        go_wp2_with fail
        refine gen_wp (fun W => Ctx w W wr.heap.size b5 b6 g1 g2 ⟨pA, pB, ca, cb, la, lb⟩ la lb) ?_ fun W hC => ?_
        · obtain ⟨hP, hok, hb, hbr⟩ := X.out
          obtain ⟨hB1, hB2, hB5, hB6⟩ := HB.out
          have hap := HA.out
          have hW := gs (gs (gs (gs hbr (p := ⟨b5, 0, none⟩) (by simp; omega) (.slice (some ⟨g1, 0, none⟩) (la.length + 200) (la.length + 200))) (p := ⟨b5, 1, none⟩) (by simp; omega) (.int .i64 la.length))
            (p := ⟨b6, 0, none⟩) (by simp; omega) (.slice (some ⟨g2, 0, none⟩) (lb.length + 200) (lb.length + 200))) (p := ⟨b6, 1, none⟩) (by simp; omega) (.int .i64 lb.length)
          refine ⟨?_, ?_, ?_, ?_, ?_, hok.below hW, hb.trans (hW.mono hb.size), ?_⟩
          · exact (((hP.far (by simp; omega) _).far (by simp; omega) _).far (by simp; omega) _).far (by simp; omega) _
          · exact (((hB5.set_ 0 _).set_ 1 _).far (by simp; omega) _).far (by simp; omega) _
          · exact (((hB6.far (by simp; omega) _).far (by simp; omega) _).set_ 0 _).set_ 1 _
          · exact (((hB1.far (by simp; omega) _).far (by simp; omega) _).far (by simp; omega) _).far (by simp; omega) _
          · exact (((hB2.far (by simp; omega) _).far (by simp; omega) _).far (by simp; omega) _).far (by simp; omega) _
          · have := hb.size
            omega
        clear X HB HA hne hne' c50 c51 c60 c61 f50 f51 f60 f61
        have HC := Lib.hid hC
        have hpc := hC.hp
        simp only [PairD.cells] at hpc
        have q40 := hpc.cell 0
        have q41 := hpc.cell 1
        have q50 := hC.ha.cell 0
        have q51 := hC.ha.cell 1
        have q60 := hC.hb.cell 0
        have q61 := hC.hb.cell 1
        simp only [List.getElem?_cons_zero, List.getElem?_cons_succ] at q40 q41 q50 q51 q60 q61
        have r40 := fun d os => cell_regrown q40 d os
        have r41 := fun d os => cell_regrown q41 d os
        have r50 := fun d os => cell_regrown q50 d os
        have r51 := fun d os => cell_regrown q51 d os
        have r60 := fun d os => cell_regrown q60 d os
        have r61 := fun d os => cell_regrown q61 d os
        clear hpc hC
        refine wp_region_quiet_below (by kernel_rfl) (by kernel_rfl) ?_
        have hra : RB W (some ⟨g1, 0, none⟩) la := marked_rb HC.out.h1
        have hrb : RB W (some ⟨g2, 0, none⟩) lb := marked_rb HC.out.h2
        obtain ⟨hpa, hpb, hla, hlb⟩ := HC.out.ok
        simp only at hpa hpb hla hlb
        have HR1 := Lib.hid (And.intro hra (And.intro hrb (And.intro hpa hpb)))
        clear hra hrb hpa hpb
        repeat (quiet_step (first
          | (go_at_call 9; exact Calls.regrown_of (in_any _ _ _ _ _ (by omega) (by unfold maxLen; omega)))
          | (go_at_call 6; exact Calls.regrown_of (eq_c _ _ _ _ _ _ la lb _ rfl rfl (HR1.out.1.below (below_regrown W _ _)) (HR1.out.2.1.below (below_regrown W _ _)) hla hlb _ rfl))
          | (go_at_call 10; exact Calls.regrown_of (refeq_c _ _ _ _ _ _ la lb _ rfl rfl (HR1.out.2.2.1.below (below_regrown W _ _)) (HR1.out.2.2.2.below (below_regrown W _ _)) _ rfl))
          | (go_at_call 7; exact Calls.regrown_of (hex_c _ _ _ la _ rfl (HR1.out.1.below (below_regrown W _ _)) hla _ rfl))
          | (go_at_call 11; exact Calls.regrown_of (refhex_c _ _ _ la _ rfl (HR1.out.2.2.1.below (below_regrown W _ _)) hla _ rfl))))
        refine wpQuiet_nil ?_
        intro W2 hW2
        obtain ⟨pr, rfl⟩ := hW2
        clear q40 q41 q50 q51 q60 q61 r40 r41 r50 r51 r60 r61 HR1
        have hC3 := HC.out.grow (below_regrown W pr.d pr.os)
        obtain ⟨W3, hW3⟩ : ∃ W3, W3 = grow (redrawn W pr.d) pr.os := ⟨_, rfl⟩
        rw [← hW3] at hC3 ⊢
        clear HC hW3
        have hpc := hC3.hp
        simp only [PairD.cells] at hpc
        have q40 := hpc.cell 0
        have q41 := hpc.cell 1
        have q50 := hC3.ha.cell 0
        have q51 := hC3.ha.cell 1
        have q60 := hC3.hb.cell 0
        have q61 := hC3.hb.cell 1
        simp only [List.getElem?_cons_zero, List.getElem?_cons_succ] at q40 q41 q50 q51 q60 q61
        have HC3 := Lib.hid hC3
        clear hpc hC3
        go_wp2_with fail
        refine (whole_any g1 (la.length + 200) la mtail pA ca la _ HC3.out.h1 (len_tail la) (by unfold maxLen; omega) marked_tail HC3.out.ok.1 (by unfold maxLen; omega)).mono ?_
        rintro e W4 ⟨rfl, hb4⟩
        rw [show decide (la = la) = true from by simp]
        have hC4 := HC3.out.grow hb4
        clear HC3 hb4 q40 q41 q50 q51 q60 q61
        have hpc := hC4.hp
        simp only [PairD.cells] at hpc
        have q40 := hpc.cell 0
        have q41 := hpc.cell 1
        have q50 := hC4.ha.cell 0
        have q51 := hC4.ha.cell 1
        have q60 := hC4.hb.cell 0
        have q61 := hC4.hb.cell 1
        simp only [List.getElem?_cons_zero, List.getElem?_cons_succ] at q40 q41 q50 q51 q60 q61
        have HC4 := Lib.hid hC4
        clear hpc hC4
        go_wp2_with fail
        refine (whole_any g2 (lb.length + 200) lb mtail pB cb lb _ HC4.out.h2 (len_tail lb) (by unfold maxLen; omega) marked_tail HC4.out.ok.2.1 (by unfold maxLen; omega)).mono ?_
        rintro e W5 ⟨rfl, hb5⟩
        rw [show decide (lb = lb) = true from by simp]
        have hC5 := HC4.out.grow hb5
        clear HC4 hb5 q40 q41 q50 q51 q60 q61
        have q50 := hC5.ha.cell 0
        have q51 := hC5.ha.cell 1
        have q60 := hC5.hb.cell 0
        have q61 := hC5.hb.cell 1
        simp only [List.getElem?_cons_zero, List.getElem?_cons_succ] at q50 q51 q60 q61
        have HC5 := Lib.hid hC5
        clear hC5
        go_wp2_with fail
        obtain ⟨n1, n2, n3, n4, n5⟩ := HC5.out.ne
        go_region_held3 (fun w' => w'.cell? ⟨b5, 0, none⟩ = some (.slice (some ⟨g1, 0, none⟩) (la.length + 200) (la.length + 200)) ∧ w'.cell? ⟨b5, 1, none⟩ = some (.int .i64 la.length) ∧ w'.cell? ⟨b6, 0, none⟩ = some (.slice (some ⟨g2, 0, none⟩) (lb.length + 200) (lb.length + 200)) ∧ w'.cell? ⟨b6, 1, none⟩ = some (.int .i64 lb.length))
          (first | go_keep | exact cells4_grow (by assumption) hb7 | exact ⟨hg6.cell q50 (by simp; omega), hg6.cell q51 (by simp; omega), hg6.cell q60 (by simp; omega), hg6.cell q61 (by simp; omega)⟩)
          (first | (go_at_call 13; refine (spoil_any g1 (la.length + 200) la mtail _ (HC5.out.h1.drew) (by omega) (by unfold maxLen; omega)).mono ?_; rintro e W6 ⟨rfl, hB6, hg6⟩) | (go_at_call 9; refine (in_any _ _ _ _ _ (by omega) (by unfold maxLen; omega)).mono ?_; rintro e W7 ⟨rfl, hb7⟩))
        obtain ⟨l', hl'⟩ : ∃ l', l' = turned la la.length := ⟨_, rfl⟩
        have hlen' : la.length = l'.length := by rw [hl', turned_length]
        have k1 : RB W7 (some ⟨g1, 0, none⟩) l' := by
          have := (hB6.rb 0 l'.length).below hb7
          rw [← hl'] at this
          simpa using this
        have k2 : RB W7 (some ⟨g2, 0, none⟩) lb := (marked_rb ((HC5.out.h2.drew).grown hg6 (by simp; omega))).below hb7
        have klow : Below w.heap.size w W7 := by
          have h5 := HC5.out.low
          exact ((h5.drew).grown hg6 h5.size (fun k hk => by simp at hk; omega)).trans (hb7.mono (by have := hg6.size; simp at this; have := h5.size; omega))
        have HK := Lib.hid (And.intro k1 (And.intro k2 klow))
        have Hl := Lib.hid hlen'
        clear hB6 hg6 hb7 HC5 q50 q51 q60 q61 k1 k2 klow hl' hlen'
        go_wp2_with fail
        refine (eq_c _ _ _ _ _ _ l' lb _ Hl.out rfl HK.out.1 HK.out.2.1 (by have := Hl.out; omega) hlb (decide (l' = lb)) rfl).mono ?_
        rintro e W8 ⟨rfl, hb8⟩
        have HK8 := Lib.hid (And.intro (HK.out.1.below hb8) (And.intro (HK.out.2.1.below hb8) (HK.out.2.2.trans (hb8.mono HK.out.2.2.size))))
        clear hb8
        go_wp2_with fail
        refine (refeq_c _ _ _ _ _ _ l' lb _ Hl.out rfl HK8.out.1 HK8.out.2.1 (decide (l' = lb)) rfl).mono ?_
        rintro e W9 ⟨rfl, hb9⟩
        have HK9 := Lib.hid (And.intro (HK8.out.1.below hb9) (And.intro (HK8.out.2.1.below hb9) (HK8.out.2.2.trans (hb9.mono HK8.out.2.2.size))))
        clear hb9 HK8
        go_wp2_with fail
        refine (hex_c _ _ _ l' _ Hl.out HK9.out.1 (by have := Hl.out; omega) (Hex.hexl l') rfl).mono ?_
        rintro e W10 ⟨rfl, hb10⟩
        have HK10 := Lib.hid (And.intro (HK9.out.1.below hb10) (And.intro (HK9.out.2.1.below hb10) (HK9.out.2.2.trans (hb10.mono HK9.out.2.2.size))))
        clear hb10 HK9
        go_wp2_with fail
        refine (refhex_c _ _ _ l' _ Hl.out HK10.out.1 (by have := Hl.out; omega) (Hex.hexl l') rfl).mono ?_
        rintro e W11 ⟨rfl, hb11⟩
        have HK11 := Lib.hid (HK10.out.2.2.trans (hb11.mono HK10.out.2.2.size))
        clear hb11 HK10 HK
        go_wp2_with fail
        go_roundw
        case rel => exact ⟨k + 1, by omega, by go_num, HK11.out⟩
        case measure => simp [intOf]; omega
    · obtain rfl : k = ps.length := by omega
      go_wp2_with fail
      go_ret
      exact ⟨rfl, hb⟩
end Go.Proofs.Ytoemceehmiaigaa.LawEquals
