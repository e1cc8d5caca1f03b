/- weirlaw04.ShaHmacs: the walk. -/
import Derived.Test.YtoemceehmiaigaaDoorShaMac5
import Derived.Test.YtoemceehmiaigaaDoorLawSums
import Derived.Lib.SmallJoins
namespace Go.Proofs.YtoemceehmiaigaaDoor.LawHmacs
open Go.RowKit Go.Proofs.YtoemceehmiaigaaDoor.Mem Go.Proofs.YtoemceehmiaigaaDoor.Loan Go.Proofs.YtoemceehmiaigaaDoor.Sha Go.Proofs.YtoemceehmiaigaaDoor.LawSums
set_option linter.unusedVariables false

/-- A pair of lists as it lies in memory. -/
structure PairD where
  A : Option Addr
  B : Option Addr
  ca : Nat
  cb : Nat
  a : List UInt8
  b : List UInt8
def PairD.cells (p : PairD) : List Value := [.slice p.A p.a.length p.ca, .slice p.B p.b.length p.cb]
def PairD.ok (w : World) (p : PairD) : Prop := RB w p.A p.a ∧ RB w p.B p.b ∧ p.a.length ≤ p.ca ∧ p.b.length ≤ p.cb ∧ p.a.length ≤ 1048576 ∧ p.b.length ≤ 1048576
theorem PairD.ok.below {w w' : World} {p : PairD} (h : p.ok w) (hb : Below w.heap.size w w') : p.ok w' := ⟨h.1.below hb, h.2.1.below hb, h.2.2⟩

theorem flat_get (ps : List PairD) (k : Nat) (h : k < ps.length) : (ps.flatMap PairD.cells)[k * 2]? = some (.slice ps[k].A ps[k].a.length ps[k].ca) ∧ (ps.flatMap PairD.cells)[k * 2 + (0 + 1)]? = some (.slice ps[k].B ps[k].b.length ps[k].cb) := by
  induction ps generalizing k with
  | nil => simp at h
  | cons p r ih =>
    cases k with
    | zero => simp [PairD.cells]
    | succ k =>
      have := ih k (by simpa using h)
      simp only [List.flatMap_cons, PairD.cells, List.cons_append, List.nil_append, List.getElem_cons_succ]
      rw [show (k + 1) * 2 = k * 2 + 1 + 1 by omega]
      simpa using this


theorem rvm2a (w : World) (o : Obj) (cs : List Value) (t : TypeId) (fr : Nat × Nat) : RV ((w.alloc (.cells cs.toArray t fr)).alloc o) (some ⟨w.heap.size, 0, none⟩) cs := (rvm_new w cs t fr).alloc o
theorem rvm2b (w : World) (o : Obj) (cs : List Value) (t : TypeId) (fr : Nat × Nat) : RV ((w.alloc o).alloc (.cells cs.toArray t fr)) (some ⟨w.heap.size + 1, 0, none⟩) cs := by
  have := rvm_new (w.alloc o) cs t fr
  simpa using this

theorem cells4_by {w w' : World} {a1 a2 a3 a4 : Addr} {v1 v2 v3 v4 : Value} {r : Option Nat} (h : w.cell? a1 = some v1 ∧ w.cell? a2 = some v2 ∧ w.cell? a3 = some v3 ∧ w.cell? a4 = some v4) (hg : w.grownBy w' r)
    (n1 : some a1.block ≠ r) (n2 : some a2.block ≠ r) (n3 : some a3.block ≠ r) (n4 : some a4.block ≠ r) : w'.cell? a1 = some v1 ∧ w'.cell? a2 = some v2 ∧ w'.cell? a3 = some v3 ∧ w'.cell? a4 = some v4 :=
  ⟨hg.cell h.1 n1, hg.cell h.2.1 n2, hg.cell h.2.2.1 n3, hg.cell h.2.2.2 n4⟩

/-- what lies in memory while a pair is looked at -/
structure HX2 (w : World) (b4 b5 b6 g1 g2 : Nat) (p : PairD) (W : World) : Prop where
  hp : Blk W b4 65 p.cells
  ha : Blk W b5 34 (lcell g1 p.a.length)
  hb : Blk W b6 34 (lcell g2 p.b.length)
  h1 : Blk W g1 5 ((p.a ++ mtail).map bv)
  h2 : Blk W g2 5 ((p.b ++ mtail).map bv)
  ok : p.ok W
  gb : GB W
  low : Below w.heap.size w W
  ne : g1 ≠ g2 ∧ w.heap.size ≤ g1 ∧ w.heap.size ≤ g2 ∧ g1 ≠ b5 ∧ g1 ≠ b6 ∧ g2 ≠ b5 ∧ g2 ≠ b6
theorem HX2.grow {w W W' : World} {b4 b5 b6 g1 g2 : Nat} {p : PairD} (h : HX2 w b4 b5 b6 g1 g2 p W) (hb : Below W.heap.size W W') : HX2 w b4 b5 b6 g1 g2 p W' :=
  ⟨h.hp.grow hb, h.ha.grow hb, h.hb.grow hb, h.h1.grow hb, h.h2.grow hb, h.ok.below hb, h.gb.grow hb, h.low.trans (hb.mono h.low.size), h.ne⟩

set_option maxHeartbeats 3200000 in
set_option maxRecDepth 40000 in
theorem law_any (A : Option Addr) (c : Nat) (ps : List PairD) (w : World) (hr : RV w A (ps.flatMap PairD.cells)) (hp : ∀ p ∈ ps, p.ok w) (hl : ps.length ≤ 1048576) (hG : GB w) :
    Calls Tryd.prog 8 #[.slice A ps.length c] w fun e w' => e = .returned (.bool true) ∧ Below w.heap.size w w' := by
  have HR := Lib.hid hr
  have HP := Lib.hid hp
  have HG := Lib.hid hG
  clear hr hp hG
  have kc := fun (w : World) (C : Array Value) (n c : Nat) => Lib.run_convert_bytes_const (P := Tryd.prog) w 32 5 C n c Tryd.underlying32 Tryd.underlying5
  have kc2 := fun (w : World) (C : Array Value) (n c g : Nat) (hg : g = w.heap.size) => Joins.run_convert_bytes_const_at (P := Tryd.prog) w 32 5 C n c g hg Tryd.underlying32 Tryd.underlying5
  have heqi : ∀ W, (Op.equalIn 10000 30 (.agg ((hmacf [107] [109]).map bv).toArray) (.agg ((hmacf [107] [109]).map bv).toArray)).run Tryd.prog W = .ok true W := fun W => dig_eqi _ W
  obtain ⟨d0, hd0⟩ : ∃ d, d = (hmacf [107] [109]).map bv := ⟨_, rfl⟩
  rw [← hd0] at heqi
  have HD0 := Lib.hid hd0
  clear hd0
  have hll : (ps.length : Int) ≤ 9223372036854775807 := by omega
  go_enter Tryd.func8, Tryd.ntmps8
  go_wp2_with (first
    | (go_at_call 34; go_must (refine (phmac_any [107] [109] _ _ 1 1 1 1 _ rfl rfl ((rvm2a w _ [bv 107] _ _).rb' [107] rfl) ((rvm2b w _ [bv 109] _ _).rb' [109] rfl) (by decide) (by decide) (by decide) (by decide) (HG.out.grow (ga (ga (gr w) _) _))).mono ?_); rintro e w1 ⟨he, hb1⟩; rw [← HD0.out] at he; subst he)
    | (go_at_call 33; go_must (refine (rhmac_any [107] [109] _ _ 1 1 1 1 _ rfl rfl ((rvm2a w1 _ [bv 107] _ _).rb' [107] rfl) ((rvm2b w1 _ [bv 109] _ _).rb' [109] rfl) (by decide) (by decide)).mono ?_); rintro e w2 ⟨he, hb2⟩; rw [← HD0.out] at he; subst he))
  have hb0 : Below w.heap.size w w2 := gt (ga (ga (gt (ga (ga (gr w) _) _) hb1) _) _) hb2
  have HX := Lib.hid hb0
  clear hb0 hb1 hb2 kc kc2 heqi HD0
  go_loopw [25] (fun i wr => ∃ k : Nat, k ≤ ps.length ∧ i = .int .i64 k ∧ Below w.heap.size w wr) (fun i _ => ps.length - (intOf i).toNat)
  case atStart => exact ⟨0, by omega, rfl, HX.out⟩
  case round =>
    clear HX
    obtain ⟨k, hk, rfl, hb⟩ := hrel
    by_cases hlt : k < ps.length
    -- A>
    · have hlt' : (k : Int) < (ps.length : Int) := by omega
      have h0k : (0 : Int) ≤ (k : Int) := by omega
      obtain ⟨f0, f1⟩ := flat_get ps k hlt
      have hok := (HP.out _ (List.getElem_mem hlt)).below hb
      have hrv := HR.out.below hb
      obtain ⟨ad, hA⟩ : ∃ ad, A = some ad := by obtain ⟨ad, e, _⟩ := hrv (k * 2) (List.getElem?_eq_some_iff.1 f0).1; exact ⟨ad, e⟩
      have c0 := hrv.cells hA _ _ f0
      have c1 := cell_next (hrv.cells hA _ _ f1)
      subst hA
      obtain ⟨p, hpk⟩ : ∃ p, p = ps[k] := ⟨_, rfl⟩
      rw [← hpk] at c0 c1 hok
      clear hrv f0 f1 hpk
      obtain ⟨pA, pB, ca, cb, la, lb⟩ := p
      simp only [Nat.zero_add] at c0 c1
      have hGr : GB wr := HG.out.grow hb
      go_upto_region 6 with fail
      have HOK := Lib.hid hok
      clear hok c0 c1
      obtain ⟨w3, hw3⟩ : ∃ w3, w3 = wr.alloc (.cells #[.slice pA la.length ca, .slice pB lb.length cb] 65) := ⟨_, rfl⟩
      rw [← hw3]
      have hB4 : Blk w3 wr.heap.size 65 [.slice pA la.length ca, .slice pB lb.length cb] := by rw [hw3]; exact Blk.new wr _ _
      have h03 : Below wr.heap.size wr w3 := by rw [hw3]; exact ga (gr wr) _
      have hz3 : w3.heap.size = wr.heap.size + 1 := by rw [hw3]; simp
      have hok3 : PairD.ok w3 ⟨pA, pB, ca, cb, la, lb⟩ := ⟨HOK.out.1.below h03, HOK.out.2.1.below h03, HOK.out.2.2⟩
      have hG3 : GB w3 := hGr.grow h03
      have hlo3 : Below w.heap.size w w3 := hb.trans (h03.mono hb.size)
      obtain ⟨hra, hrb, hcA, hcB, hla, hlb⟩ := hok3
      simp only at hra hrb hcA hcB hla hlb
      obtain ⟨b4, hb4⟩ : ∃ b, b = wr.heap.size := ⟨_, rfl⟩
      rw [← hb4] at hB4 hz3 ⊢
      have hwb : w.heap.size ≤ b4 := by rw [hb4]; exact hb.size
      clear hw3 h03 HOK hGr hb4
      refine wp_region_rrT (fun a b => Below a.heap.size a b) (fun _ _ _ h g => gt h g) (fun _ _ h => h.size) (fun a => (gr a).drew) 8
        [.eq 29 (.pointer (some ⟨b4, 0, none⟩)), .eq 30 (.slice pA la.length ca),
        .new 31 (fun v W => ∃ g, v = .agg #[.slice (some ⟨g, 0, none⟩) (la.length + 200) (la.length + 200), .int .i64 la.length] ∧ b4 < g ∧ Blk W g 5 ((marked la 200).map bv)),
        .eq 32 (.pointer (some ⟨b4, 1, none⟩)), .eq 33 (.slice pB lb.length cb),
        .new 34 (fun v W => ∃ g, v = .agg #[.slice (some ⟨g, 0, none⟩) (lb.length + 200) (lb.length + 200), .int .i64 lb.length] ∧ b4 < g ∧ Blk W g 5 ((marked lb 200).map bv)),
        .new 5 (fun v W => ∃ g, v = .pointer (some ⟨g, 0, none⟩) ∧ b4 < g ∧ Blk W g 34 [.slice none 0 0, .int .i64 0]),
        .new 6 (fun v W => ∃ g, v = .pointer (some ⟨g, 0, none⟩) ∧ b4 < g ∧ Blk W g 34 [.slice none 0 0, .int .i64 0])]
        (by kernel_rfl) (by kernel_rfl) (by kernel_rfl) (by kernel_rfl) ?hst ?hob ?hfin
      case hst =>
        intro s hs
        simp only [List.mem_cons, List.not_mem_nil, or_false] at hs
        rcases hs with rfl | rfl | rfl | rfl | rfl | rfl | rfl | rfl
        · exact fun _ _ _ h _ => h
        · exact fun _ _ _ h _ => h
        · rintro vs w1 w2 ⟨v, rfl, g, rfl, hg, h⟩ hb
          exact ⟨_, rfl, g, rfl, hg, h.grow hb⟩
        · exact fun _ _ _ h _ => h
        · exact fun _ _ _ h _ => h
        · rintro vs w1 w2 ⟨v, rfl, g, rfl, hg, h⟩ hb
          exact ⟨_, rfl, g, rfl, hg, h.grow hb⟩
        · rintro vs w1 w2 ⟨v, rfl, g, rfl, hg, h⟩ hb
          exact ⟨_, rfl, g, rfl, hg, h.grow hb⟩
        · rintro vs w1 w2 ⟨v, rfl, g, rfl, hg, h⟩ hb
          exact ⟨_, rfl, g, rfl, hg, h.grow hb⟩
      case hob =>
        simp only [List.take_succ_cons, List.take_zero]
        refine rrs_cons ?_ (rrs_cons ?_ (rrs_cons ?_ (rrs_cons ?_ (rrs_cons ?_ (rrs_cons ?_ (rrs_cons ?_ (rrs_cons ?_ rrs_nil)))))))
        · refine rr_eq gr (by decide) (by rfl) (by rfl) fun x w' A hg hp hA => ?_
          have e4 := hA 4
          simp [rgDsts] at e4
          go_simp
        · refine rr_eq gr (by decide) (by rfl) (by rfl) fun x w' A hg hp hA => ?_
          have e29 := hA 29
          simp [rgDsts] at e29
          simp [RgPreds, Region.binds] at hp
          have hc : w'.cell? ⟨b4, 0, none⟩ = some (.slice pA la.length ca) := (hB4.grow hg).cell 0
          go_simp
        · refine rr_call (by decide) (by rfl) fun x w' A hg hp hA => ⟨20, #[.slice pA la.length ca], ?_, ?_⟩
          · have e30 := hA 30
            simp [rgDsts] at e30
            simp [RgPreds, Region.binds] at hp
            go_simp
          · refine (lend_any pA ca la w' (hra.below hg) (by omega)).mono ?_
            rintro e w'' ⟨g1, rfl, hg1, hB1, hb4⟩
            have q1 := hg.size
            have q2 := hB1.lt
            refine ⟨_, rfl, hb4, ?_, ?_⟩
            · simp; exact ⟨by omega, hB1⟩
            · simp [blockOf]; omega
        · refine rr_eq gr (by decide) (by rfl) (by rfl) fun x w' A hg hp hA => ?_
          have e4 := hA 4
          simp [rgDsts] at e4
          go_simp
        · refine rr_eq gr (by decide) (by rfl) (by rfl) fun x w' A hg hp hA => ?_
          have e29 := hA 32
          simp [rgDsts] at e29
          simp [RgPreds, Region.binds] at hp
          have hc : w'.cell? ⟨b4, 1, none⟩ = some (.slice pB lb.length cb) := (hB4.grow hg).cell 1
          go_simp
        · refine rr_call (by decide) (by rfl) fun x w' A hg hp hA => ⟨20, #[.slice pB lb.length cb], ?_, ?_⟩
          · have e30 := hA 33
            simp [rgDsts] at e30
            simp [RgPreds, Region.binds] at hp
            have e33 := hp.1
            go_simp
          · refine (lend_any pB cb lb w' (hrb.below hg) (by omega)).mono ?_
            rintro e w'' ⟨g1, rfl, hg1, hB1, hb4⟩
            have q1 := hg.size
            have q2 := hB1.lt
            refine ⟨_, rfl, hb4, ?_, ?_⟩
            · simp; exact ⟨by omega, hB1⟩
            · simp [blockOf]; omega
        · refine rr_val (by decide) (by rfl) fun x w' A hg hp hA => ⟨_, _, run_allocB A34 rfl, ga (gr _) _, ?_, ?_⟩
          · simp
            have := hg.size
            exact ⟨by omega, Blk.new w' _ _⟩
          · simp [blockOf]
        · refine rr_val (by decide) (by rfl) fun x w' A hg hp hA => ⟨_, _, run_allocB A34 rfl, ga (gr _) _, ?_, ?_⟩
          · simp
            have := hg.size
            exact ⟨by omega, Blk.new w' _ _⟩
          · simp [blockOf]
      case hfin =>
      intro x w4 hg hall hap
      simp only [RgAll, holds_eq, holds_new, and_true] at hall
      obtain ⟨e29, e30, ⟨g1, e31, hg1, hB1⟩, e32, e33, ⟨g2, e34, hg2, hB2⟩, ⟨b5, e5, hb5, hB5⟩, ⟨b6, e6, hb6, hB6⟩⟩ := hall
      simp [RgApart, e31, e34, e5, e6, blockOf] at hap
      simp only [rgDsts, List.take_succ_cons, List.take_zero, List.filterMap_cons, List.filterMap_nil, putMany, List.foldl_cons, List.foldl_nil, List.setIfInBounds_toArray, List.set_cons_succ, List.set_cons_zero, List.drop_succ_cons, List.drop_zero, e29, e30, e31, e32, e33, e34, e5, e6]
      clear e29 e30 e31 e32 e33 e34 e5 e6
      have X4 := Lib.hid (show Blk w4 b4 65 [.slice pA la.length ca, .slice pB lb.length cb] ∧ PairD.ok w4 ⟨pA, pB, ca, cb, la, lb⟩ ∧ GB w4 ∧ Below w.heap.size w w4 from
        ⟨hB4.grow hg, ⟨hra.below hg, hrb.below hg, hcA, hcB, hla, hlb⟩, hG3.grow hg, hlo3.trans (hg.mono hlo3.size)⟩)
      have HNE := Lib.hid hap
      have HK3 := Lib.hid (And.intro hra (And.intro hrb hg))
      clear hap hB4 hra hrb hG3 hlo3 hg
      go_upto_region 7 with (first
        | ((with_reducible show wpList _ _ _ (⟨none, .store 34 (.tmp 5) _, _, _, _, _⟩ :: _) _ _); go_must (refine wpList_storeB (op := ⟨none, _, _, _, _, _⟩) A34 rfl _ _ rfl b5 0 rfl (lcell g1 la.length) rfl rfl _ _ hB5 (Nat.le_refl 2) (lcell_one _ _) ?_); intro w5 hBw5 hgw5 hzw5; rw [splice_all [.slice none 0 0, .int .i64 0] (lcell g1 la.length) rfl] at hBw5)
        | ((with_reducible show wpList _ _ _ (⟨none, .store 34 (.tmp 6) _, _, _, _, _⟩ :: _) _ _); go_must (refine wpList_storeB (op := ⟨none, _, _, _, _, _⟩) A34 rfl _ _ rfl b6 0 rfl (lcell g2 lb.length) rfl rfl _ _ (hB6.grown hgw5 (by have := HNE.out; simp; omega)) (Nat.le_refl 2) (lcell_one _ _) ?_); intro w6 hBw6 hgw6 hzw6; rw [splice_all [.slice none 0 0, .int .i64 0] (lcell g2 lb.length) rfl] at hBw6))
      have hC6 : HX2 w b4 b5 b6 g1 g2 ⟨pA, pB, ca, cb, la, lb⟩ w6 := by
        obtain ⟨x1, ⟨x2, x3, x4⟩, x5, x6⟩ := X4.out
        have hap := HNE.out
        have z1 := hB5.lt
        have z2 := hB6.lt
        have hlow : Below w3.heap.size w4 w6 := by
          rw [hz3]
          exact (((gr w4).mono (by omega)).grown hgw5 (by omega) (fun j hj => by simp at hj; omega)).grown hgw6 (by omega) (fun j hj => by simp at hj; omega)
        have x2' := HK3.out.1.below (HK3.out.2.2.trans hlow)
        have x3' := HK3.out.2.1.below (HK3.out.2.2.trans hlow)
        exact ⟨x1.below hlow (by omega), hBw5.grown hgw6 (by simp; omega), hBw6, (hB1.grown hgw5 (by simp; omega)).grown hgw6 (by simp; omega), (hB2.grown hgw5 (by simp; omega)).grown hgw6 (by simp; omega), ⟨x2', x3', x4⟩, x5.below hlow (by omega), x6.trans (hlow.mono (by omega)), by omega⟩
      replace HX := Lib.hid hC6
      clear hC6 X4 HNE HK3 hz3 hB1 hB2 hB5 hBw5 hgw5 hzw5 hB6 hBw6 hgw6 hzw6
      have heqi : ∀ W, (Op.equalIn 10000 30 (.agg ((hmacf la lb).map bv).toArray) (.agg ((hmacf la lb).map bv).toArray)).run Tryd.prog W = .ok true W := fun W => dig_eqi _ W
      obtain ⟨d, hd⟩ : ∃ d, d = (hmacf la lb).map bv := ⟨_, rfl⟩
      have hdl : d.length = (List.replicate 32 (bv 0)).length := by rw [hd]; simp [hmacf, sumf_length]
      have hd1 : ∀ v ∈ d, v.oneCell' = true := by rw [hd]; exact bytes_oneCell _
      rw [← hd] at heqi
      have HD := Lib.hid hd
      clear hd
      have q40 : w6.cell? ⟨b4, 0, none⟩ = some (.slice pA la.length ca) := HX.out.hp.cell 0
      have q41 : w6.cell? ⟨b4, 1, none⟩ = some (.slice pB lb.length cb) := HX.out.hp.cell 1
      go_upto_region 8 with (first
        | (go_at_call 33; go_must (refine (rhmac_any la lb pA pB la.length lb.length ca cb _ rfl rfl HX.out.ok.1 HX.out.ok.2.1 (by omega) (by omega)).mono ?_); rintro e w7 ⟨he, hb7⟩; rw [← HD.out] at he; subst he)
        | ((with_reducible show wpList _ _ _ (⟨some 7, _, _, _, _, _⟩ :: _) _ _); go_must (refine wpList_allocB (op := ⟨some 7, _, _, _, _, _⟩) A30 rfl rfl w7.heap.size rfl ?_); intro w8 hBw8 hbw8 hzw8)
        | ((with_reducible show wpList _ _ _ (⟨none, .store 30 (.tmp 7) _, _, _, _, _⟩ :: _) _ _); go_must (refine wpList_storeB (op := ⟨none, _, _, _, _, _⟩) A30 rfl _ _ rfl w7.heap.size 0 rfl d rfl hdl _ _ hBw8 (Nat.le_of_eq ((Nat.zero_add _).trans hdl)) hd1 ?_); intro w9 hBw9 hgw9 hzw9; rw [splice_all _ _ hdl] at hBw9))
      obtain ⟨b7, hb7'⟩ : ∃ b, b = w7.heap.size := ⟨_, rfl⟩
      rw [← hb7'] at hBw9 ⊢
      have h69 : Below w6.heap.size w6 w9 := gst hb7 hbw8 hgw9 hb7.size
      have X9 := And.intro (HX.out.grow h69) hBw9
      replace HX := Lib.hid X9
      clear X9 q40 q41 hb7 hBw8 hbw8 hzw8 hBw9 hgw9 hzw9 hb7' h69
      simp only [Act.put, List.setIfInBounds_toArray, List.set_cons_succ, List.set_cons_zero]
      refine wp_region_rrT (fun a b => Below a.heap.size a b) (fun _ _ _ h g => gt h g) (fun _ _ h => h.size) (fun a => (gr a).drew) 6
        [.eq 40 (.agg (lcell g1 la.length).toArray), .eq 41 (.slice (some ⟨g1, 0, none⟩) la.length (la.length + 200)), .eq 42 (.agg (lcell g2 lb.length).toArray), .eq 43 (.slice (some ⟨g2, 0, none⟩) lb.length (lb.length + 200)), .eq 44 (.agg d.toArray),
         .new 8 (fun v W => ∃ g, v = .pointer (some ⟨g, 0, none⟩) ∧ w9.heap.size ≤ g ∧ Blk W g 30 (List.replicate 32 (bv 0)))]
        (by kernel_rfl) (by kernel_rfl) (by kernel_rfl) (by kernel_rfl) ?hst8 ?hob8 ?hfin8
      case hst8 =>
        intro s hs
        simp only [List.mem_cons, List.not_mem_nil, or_false] at hs
        rcases hs with rfl | rfl | rfl | rfl | rfl | rfl
        · exact fun _ _ _ h _ => h
        · exact fun _ _ _ h _ => h
        · exact fun _ _ _ h _ => h
        · exact fun _ _ _ h _ => h
        · exact fun _ _ _ h _ => h
        · rintro vs w1 w2 ⟨v, rfl, g, rfl, hg, h⟩ hb
          exact ⟨_, rfl, g, rfl, hg, h.grow hb⟩
      case hob8 =>
        simp only [List.take_succ_cons, List.take_zero]
        refine rrs_cons ?_ (rrs_cons ?_ (rrs_cons ?_ (rrs_cons ?_ (rrs_cons ?_ (rrs_cons ?_ rrs_nil)))))
        · refine rr_wp (by decide) (by rfl) fun x w' A hg hp hA K' hK' => ?_
          have e5 := hA 5
          simp [rgDsts] at e5
          refine wp_loadB A34 _ rfl b5 0 ?_ _ _ (HX.out.1.ha.grow hg) (lcell g1 la.length) rfl rfl ?_
          · simpa [Act.eval] using e5
          · exact hK' _ _ (gr _) (by simp) (by simp)
        · refine rr_call (by decide) (by rfl) fun x w' A hg hp hA => ⟨22, #[.agg (lcell g1 la.length).toArray], ?_, ?_⟩
          · have e40 := hA 40
            simp [rgDsts] at e40
            simp [RgPreds, Region.binds] at hp
            go_simp
          · refine (in_any (some ⟨g1, 0, none⟩) (la.length + 200) (la.length + 200) la.length w' (by omega) (by unfold maxLen; omega)).mono ?_
            rintro e w'' ⟨rfl, hb⟩
            exact ⟨_, rfl, hb, by simp, by simp⟩
        · refine rr_wp (by decide) (by rfl) fun x w' A hg hp hA K' hK' => ?_
          have e6 := hA 6
          simp [rgDsts] at e6
          refine wp_loadB A34 _ rfl b6 0 ?_ _ _ (HX.out.1.hb.grow hg) (lcell g2 lb.length) rfl rfl ?_
          · simpa [Act.eval] using e6
          · exact hK' _ _ (gr _) (by simp) (by simp)
        · refine rr_call (by decide) (by rfl) fun x w' A hg hp hA => ⟨22, #[.agg (lcell g2 lb.length).toArray], ?_, ?_⟩
          · have e42 := hA 42
            simp [rgDsts] at e42
            simp [RgPreds, Region.binds] at hp
            try obtain ⟨hp, _⟩ := hp
            go_simp
          · refine (in_any (some ⟨g2, 0, none⟩) (lb.length + 200) (lb.length + 200) lb.length w' (by omega) (by unfold maxLen; omega)).mono ?_
            rintro e w'' ⟨rfl, hb⟩
            exact ⟨_, rfl, hb, by simp, by simp⟩
        · refine rr_call (by decide) (by rfl) fun x w' A hg hp hA => ⟨34, #[.slice (some ⟨g1, 0, none⟩) la.length (la.length + 200), .slice (some ⟨g2, 0, none⟩) lb.length (lb.length + 200)], ?_, ?_⟩
          · have e41 := hA 41
            have e43 := hA 43
            simp [rgDsts] at e41 e43
            simp [RgPreds, Region.binds] at hp
            obtain ⟨h1, h2⟩ := hp
            try simp only [h1, h2] at e41 e43
            go_simp
          · have hC := HX.out.1.grow hg
            refine (phmac_any la lb _ _ la.length lb.length _ _ w' rfl rfl (marked_rb hC.h1) (marked_rb hC.h2) (by omega) (by omega) (by omega) (by omega) hC.gb).mono ?_
            rintro e w'' ⟨rfl, hb⟩
            exact ⟨_, rfl, hb, by simp [HD.out], by simp⟩
        · refine rr_val (by decide) (by rfl) fun x w' A hg hp hA => ⟨_, _, run_allocB A30 rfl, ga (gr _) _, ?_, ?_⟩
          · simp
            have := hg.size
            exact ⟨by omega, Blk.new w' _ _⟩
          · simp [blockOf]
      case hfin8 =>
      intro x w' hg hall hap
      simp only [RgAll, holds_eq, holds_new, and_true] at hall
      obtain ⟨f0, f1, f2, f3, f4, b8, f5, hb8, hB8⟩ := hall
      simp only [rgDsts, List.take_succ_cons, List.take_zero, List.filterMap_cons, List.filterMap_nil, putMany, List.foldl_cons, List.foldl_nil, List.setIfInBounds_toArray, List.set_cons_succ, List.set_cons_zero, List.drop_succ_cons, List.drop_zero, f0, f1, f2, f3, f4, f5]
      clear f0 f1 f2 f3 f4 f5
      go_upto_region 9 with (first
        | ((with_reducible show wpList _ _ _ (⟨none, .store 30 (.tmp 8) _, _, _, _, _⟩ :: _) _ _); go_must (refine wpList_storeB (op := ⟨none, _, _, _, _, _⟩) A30 rfl _ _ rfl b8 0 rfl d rfl hdl _ _ hB8 (Nat.le_of_eq ((Nat.zero_add _).trans hdl)) hd1 ?_); intro w10 hBw10 hgw10 hzw10; rw [splice_all _ _ hdl] at hBw10))
      have h910 : Below w9.heap.size w9 w10 := hg.grown hgw10 hg.size (fun j hj => by simp at hj; omega)
      have X10 := And.intro (HX.out.1.grow h910) (And.intro (HX.out.2.grow h910) hBw10)
      replace HX := Lib.hid X10
      clear X10 hB8 hBw10 hgw10 hzw10 h910 hg hap hb8
      simp only [Act.put, List.setIfInBounds_toArray, List.set_cons_succ, List.set_cons_zero]
      refine wp_region_rrT (fun a b => Below a.heap.size a b) (fun _ _ _ h g => gt h g) (fun _ _ h => h.size) (fun a => (gr a).drew) 6
        [.eq 45 (.agg (lcell g1 la.length).toArray), .eq 46 (.slice (some ⟨g1, 0, none⟩) la.length (la.length + 200)), .eq 47 (.agg (lcell g2 lb.length).toArray), .eq 48 (.slice (some ⟨g2, 0, none⟩) lb.length (lb.length + 200)), .eq 49 (.agg d.toArray),
         .new 9 (fun v W => ∃ g, v = .pointer (some ⟨g, 0, none⟩) ∧ w10.heap.size ≤ g ∧ Blk W g 30 (List.replicate 32 (bv 0)))]
        (by kernel_rfl) (by kernel_rfl) (by kernel_rfl) (by kernel_rfl) ?hst9 ?hob9 ?hfin9
      case hst9 =>
        intro s hs
        simp only [List.mem_cons, List.not_mem_nil, or_false] at hs
        rcases hs with rfl | rfl | rfl | rfl | rfl | rfl
        · exact fun _ _ _ h _ => h
        · exact fun _ _ _ h _ => h
        · exact fun _ _ _ h _ => h
        · exact fun _ _ _ h _ => h
        · exact fun _ _ _ h _ => h
        · rintro vs w1 w2 ⟨v, rfl, g, rfl, hg, h⟩ hb
          exact ⟨_, rfl, g, rfl, hg, h.grow hb⟩
      case hob9 =>
        simp only [List.take_succ_cons, List.take_zero]
        refine rrs_cons ?_ (rrs_cons ?_ (rrs_cons ?_ (rrs_cons ?_ (rrs_cons ?_ (rrs_cons ?_ rrs_nil)))))
        · refine rr_wp (by decide) (by rfl) fun x w' A hg hp hA K' hK' => ?_
          have e5 := hA 5
          simp [rgDsts] at e5
          refine wp_loadB A34 _ rfl b5 0 ?_ _ _ (HX.out.1.ha.grow hg) (lcell g1 la.length) rfl rfl ?_
          · simpa [Act.eval] using e5
          · exact hK' _ _ (gr _) (by simp) (by simp)
        · refine rr_call (by decide) (by rfl) fun x w' A hg hp hA => ⟨22, #[.agg (lcell g1 la.length).toArray], ?_, ?_⟩
          · have e40 := hA 45
            simp [rgDsts] at e40
            simp [RgPreds, Region.binds] at hp
            go_simp
          · refine (in_any (some ⟨g1, 0, none⟩) (la.length + 200) (la.length + 200) la.length w' (by omega) (by unfold maxLen; omega)).mono ?_
            rintro e w'' ⟨rfl, hb⟩
            exact ⟨_, rfl, hb, by simp, by simp⟩
        · refine rr_wp (by decide) (by rfl) fun x w' A hg hp hA K' hK' => ?_
          have e6 := hA 6
          simp [rgDsts] at e6
          refine wp_loadB A34 _ rfl b6 0 ?_ _ _ (HX.out.1.hb.grow hg) (lcell g2 lb.length) rfl rfl ?_
          · simpa [Act.eval] using e6
          · exact hK' _ _ (gr _) (by simp) (by simp)
        · refine rr_call (by decide) (by rfl) fun x w' A hg hp hA => ⟨22, #[.agg (lcell g2 lb.length).toArray], ?_, ?_⟩
          · have e42 := hA 47
            simp [rgDsts] at e42
            simp [RgPreds, Region.binds] at hp
            try obtain ⟨hp, _⟩ := hp
            go_simp
          · refine (in_any (some ⟨g2, 0, none⟩) (lb.length + 200) (lb.length + 200) lb.length w' (by omega) (by unfold maxLen; omega)).mono ?_
            rintro e w'' ⟨rfl, hb⟩
            exact ⟨_, rfl, hb, by simp, by simp⟩
        · refine rr_call (by decide) (by rfl) fun x w' A hg hp hA => ⟨34, #[.slice (some ⟨g1, 0, none⟩) la.length (la.length + 200), .slice (some ⟨g2, 0, none⟩) lb.length (lb.length + 200)], ?_, ?_⟩
          · have e41 := hA 46
            have e43 := hA 48
            simp [rgDsts] at e41 e43
            simp [RgPreds, Region.binds] at hp
            obtain ⟨h1, h2⟩ := hp
            try simp only [h1, h2] at e41 e43
            go_simp
          · have hC := HX.out.1.grow hg
            refine (phmac_any la lb _ _ la.length lb.length _ _ w' rfl rfl (marked_rb hC.h1) (marked_rb hC.h2) (by omega) (by omega) (by omega) (by omega) hC.gb).mono ?_
            rintro e w'' ⟨rfl, hb⟩
            exact ⟨_, rfl, hb, by simp [HD.out], by simp⟩
        · refine rr_val (by decide) (by rfl) fun x w' A hg hp hA => ⟨_, _, run_allocB A30 rfl, ga (gr _) _, ?_, ?_⟩
          · simp
            have := hg.size
            exact ⟨by omega, Blk.new w' _ _⟩
          · simp [blockOf]
      case hfin9 =>
      intro x w' hg hall hap
      simp only [RgAll, holds_eq, holds_new, and_true] at hall
      obtain ⟨f0, f1, f2, f3, f4, b9, f5, hb9, hB9⟩ := hall
      simp only [rgDsts, List.take_succ_cons, List.take_zero, List.filterMap_cons, List.filterMap_nil, putMany, List.foldl_cons, List.foldl_nil, List.setIfInBounds_toArray, List.set_cons_succ, List.set_cons_zero, List.drop_succ_cons, List.drop_zero, f0, f1, f2, f3, f4, f5]
      clear f0 f1 f2 f3 f4 f5
      go_upto_region 10 with (first
        | ((with_reducible show wpList _ _ _ (⟨none, .store 30 (.tmp 9) _, _, _, _, _⟩ :: _) _ _); go_must (refine wpList_storeB (op := ⟨none, _, _, _, _, _⟩) A30 rfl _ _ rfl b9 0 rfl d rfl hdl _ _ hB9 (Nat.le_of_eq ((Nat.zero_add _).trans hdl)) hd1 ?_); intro w11 hBw11 hgw11 hzw11; rw [splice_all _ _ hdl] at hBw11))
      have h1011 : Below w10.heap.size w10 w11 := hg.grown hgw11 hg.size (fun j hj => by simp at hj; omega)
      have X11 := And.intro (HX.out.1.grow h1011) (And.intro (HX.out.2.1.grow h1011) (And.intro (HX.out.2.2.grow h1011) hBw11))
      replace HX := Lib.hid X11
      clear X11 hB9 hBw11 hgw11 hzw11 h1011 hg hap hb9
      have q40 : w11.cell? ⟨b4, 0, none⟩ = some (.slice pA la.length ca) := HX.out.1.hp.cell 0
      go_upto_region 12 with (first
        | ((with_reducible show wpList _ _ _ (⟨some 50, _, _, _, _, _⟩ :: _) _ _); go_must (refine wpList_loadB (op := ⟨some 50, _, _, _, _, _⟩) A30 rfl _ rfl b8 0 rfl _ _ HX.out.2.2.1 d (full hdl) hdl ?_))
        | ((with_reducible show wpList _ _ _ (⟨some 51, _, _, _, _, _⟩ :: _) _ _); go_must (refine wpList_loadB (op := ⟨some 51, _, _, _, _, _⟩) A30 rfl _ rfl b7 0 rfl _ _ HX.out.2.1 d (full hdl) hdl ?_))
        | ((with_reducible show wpList _ _ _ (⟨some 54, _, _, _, _, _⟩ :: _) _ _); go_must (refine wpList_loadBg (op := ⟨some 54, _, _, _, _, _⟩) A30 rfl _ rfl b9 0 rfl _ _ HX.out.2.2.2 d (full hdl) hdl ?_))
        | ((with_reducible show wpList _ _ _ (⟨some 55, _, _, _, _, _⟩ :: _) _ _); go_must (refine wpList_loadBg (op := ⟨some 55, _, _, _, _, _⟩) A30 rfl _ rfl b7 0 rfl _ _ HX.out.2.1 d (full hdl) hdl ?_))
        | ((with_reducible show wpList _ _ _ (⟨some 59, _, _, _, _, _⟩ :: _) _ _); go_must (refine wpList_loadBg (op := ⟨some 59, _, _, _, _, _⟩) A34 rfl _ rfl b5 0 rfl _ _ HX.out.1.ha (lcell g1 la.length) rfl rfl ?_))
        | ((with_reducible show wpList _ _ _ (⟨some 66, _, _, _, _, _⟩ :: _) _ _); go_must (refine wpList_loadBg (op := ⟨some 66, _, _, _, _, _⟩) A34 rfl _ rfl b6 0 rfl _ _ (HX.out.1.grow hb12).hb (lcell g2 lb.length) rfl rfl ?_))
        | (go_at_call 23; first | (refine (whole_any g2 (lb.length + 200) lb mtail pB cb lb _ (HX.out.1.grow hb12).h2 (by rw [List.length_append, mtail_length]) (by unfold maxLen; omega) marked_tail (HX.out.1.grow hb12).ok.2.1 (by unfold maxLen; omega)).mono ?_; rintro e w13 ⟨rfl, hb13⟩) | (refine (whole_any g1 (la.length + 200) la mtail pA ca la _ HX.out.1.h1 (by rw [List.length_append, mtail_length]) (by unfold maxLen; omega) marked_tail HX.out.1.ok.1 (by unfold maxLen; omega)).mono ?_; rintro e w12 ⟨rfl, hb12⟩; have q41 : w12.cell? ⟨b4, 1, none⟩ = some (.slice pB lb.length cb) := (HX.out.1.grow hb12).hp.cell 1)))
      have hC13 := (HX.out.1.grow hb12).grow hb13
      have HC5 := Lib.hid hC13
      clear hC13 HX hb12 hb13 q40 q41
      have q50 := HC5.out.ha.cell 0
      have q51 := HC5.out.ha.cell 1
      have q60 := HC5.out.hb.cell 0
      have q61 := HC5.out.hb.cell 1
      simp only [lcell, List.getElem?_cons_zero, List.getElem?_cons_succ] at q50 q51 q60 q61
      obtain ⟨n1, n2, n3, n4, n5, n6, n7⟩ := HC5.out.ne
      have m1 : (some b5 : Option Nat) ≠ some g1 := by simp; omega
      have m2 : (some b6 : Option Nat) ≠ some g1 := by simp; omega
      have m3 : (some b5 : Option Nat) ≠ some g2 := by simp; omega
      have m4 : (some b6 : Option Nat) ≠ some g2 := by simp; omega
      have m5 : (some g2 : Option Nat) ≠ some g1 := by simp; omega
      have m6 : (some g1 : Option Nat) ≠ some g2 := by simp; omega
      go_region_held3 (fun w' => w'.cell? ⟨b5, 0, none⟩ = some (.slice (some ⟨g1, 0, none⟩) (la.length + 200) (la.length + 200)) ∧ w'.cell? ⟨b5, 1, none⟩ = some (.int .i64 la.length) ∧ w'.cell? ⟨b6, 0, none⟩ = some (.slice (some ⟨g2, 0, none⟩) (lb.length + 200) (lb.length + 200)) ∧ w'.cell? ⟨b6, 1, none⟩ = some (.int .i64 lb.length))
        (first | go_keep | exact cells4_by (by assumption) hg7 m3 m3 m4 m4 | exact ⟨hg6.cell q50 m1, hg6.cell q51 m1, hg6.cell q60 m2, hg6.cell q61 m2⟩)
        ((go_at_call 24; first
          | (refine (spoil_any g2 (lb.length + 200) lb mtail _ ((HC5.out.h2.drew).grown hg6 m5) (by omega) (by unfold maxLen; omega)).mono ?_; rintro e W7 ⟨rfl, hB7, hg7⟩)
          | (refine (spoil_any g1 (la.length + 200) la mtail _ (HC5.out.h1.drew) (by omega) (by unfold maxLen; omega)).mono ?_; rintro e W6 ⟨rfl, hB6, hg6⟩)))
      have hlo6 : Below w.heap.size w W6 := (HC5.out.low.drew).grown hg6 HC5.out.low.size (fun j hj => by simp at hj; omega)
      have hlo7 : Below w.heap.size w W7 := hlo6.grown hg7 hlo6.size (fun j hj => by simp at hj; omega)
      have K := Lib.hid (And.intro (marked_rb (hB6.grown hg7 m6)) (And.intro (marked_rb hB7) (And.intro hlo7 (HG.out.grow hlo7))))
      have heqi2 : ∀ W, (Op.equalIn 10000 30 (.agg ((hmacf (turned la la.length) (turned lb lb.length)).map bv).toArray) (.agg ((hmacf (turned la la.length) (turned lb lb.length)).map bv).toArray)).run Tryd.prog W = .ok true W := fun W => dig_eqi _ W
      obtain ⟨d2, hd2⟩ : ∃ d, d = (hmacf (turned la la.length) (turned lb lb.length)).map bv := ⟨_, rfl⟩
      rw [← hd2] at heqi2
      have HD2 := Lib.hid hd2
      clear hd2 hlo6 hlo7 hB6 hB7 hg6 hg7 q50 q51 q60 q61 m1 m2 m3 m4 m5 m6 n1 n2 n3 n4 n5 n6 n7 heqi
      go_wp2_with (first
        | (go_at_call 34; go_must (refine (phmac_any (turned la la.length) (turned lb lb.length) _ _ la.length lb.length _ _ _ (turned_length _ _).symm (turned_length _ _).symm K.out.1 K.out.2.1 (by omega) (by omega) (by omega) (by omega) K.out.2.2.2).mono ?_); rintro e w20 ⟨he, hb20⟩; rw [← HD2.out] at he; subst he)
        | (go_at_call 33; go_must (refine (rhmac_any (turned la la.length) (turned lb lb.length) _ _ la.length lb.length _ _ _ (turned_length _ _).symm (turned_length _ _).symm (K.out.1.below hb20) (K.out.2.1.below hb20) (by omega) (by omega)).mono ?_); rintro e w21 ⟨he, hb21⟩; rw [← HD2.out] at he; subst he))
      have hlow : Below w.heap.size w w21 := (K.out.2.2.1.trans (hb20.mono K.out.2.2.1.size)).trans (hb21.mono (by have := K.out.2.2.1.size; have := hb20.size; omega))
      exact ⟨⟨k + 1, by omega, by go_num, hlow⟩, by simp [intOf]; omega⟩
    -- <A
    · obtain rfl : k = ps.length := by omega
      go_wp2
      go_ret
      exact ⟨rfl, hb⟩
end Go.Proofs.YtoemceehmiaigaaDoor.LawHmacs
