/- uri: the law's own helpers apart and apartTexts. -/
import Derived.Test.YtompcngeikjfiaaDoorFar
import Derived.Test.YtompcngeikjfiaaDoorLawUTwo
namespace Go.Proofs.YtompcngeikjfiaaDoor.Uri
open Go.RowKit Go.Proofs.YtompcngeikjfiaaDoor.Mem Go.Proofs.YtompcngeikjfiaaDoor.Seal Go.Proofs.YtompcngeikjfiaaDoor.Strs Go.Proofs.YtompcngeikjfiaaDoor.Split
set_option linter.unusedVariables false

/-- the first cell of the elements lo .. hi is p -/
def Has (s : Nat) (xs : List Value) (lo hi : Nat) (p : Value) : Prop := ∀ j, lo ≤ j → j < hi → xs[j * s]? = some p
theorem Has.zero (s : Nat) (xs : List Value) (p : Value) : Has s xs 0 0 p := fun j _ h => by omega
theorem Has.none (s : Nat) (xs : List Value) (n : Nat) (p : Value) : Has s xs n n p := fun j h1 h => by omega
theorem Has.set_ {s : Nat} {xs : List Value} {k : Nat} {p : Value} (h : Has s xs 0 k p) (hs : 0 < s) (hk : k * s < xs.length) : Has s (xs.set (k * s) p) 0 (k + 1) p := fun j _ hj => by
  rw [List.getElem?_set]
  by_cases e : k = j
  · subst e; simp [hk]
  · rw [if_neg (fun e' => e (Nat.eq_of_mul_eq_mul_right hs e'))]
    exact h j (by omega) (by omega)
theorem Has.app {s : Nat} {xs : List Value} {lo hi : Nat} {p : Value} (h : Has s xs lo hi p) (ys : List Value) : Has s (xs ++ ys) lo hi p := fun j h1 h2 => by
  have := h j h1 h2
  rw [List.getElem?_append_left (List.getElem?_eq_some_iff.1 this).1]
  exact this
theorem Has.push {s : Nat} {xs : List Value} {n m : Nat} {p : Value} (h : Has s xs n m p) (ys : List Value) (hl : xs.length = m * s) (hy : ys[0]? = some p) : Has s (xs ++ ys) n (m + 1) p := fun j h1 h2 => by
  by_cases e : j < m
  · exact h.app ys j h1 e
  · obtain rfl : j = m := by omega
    rw [List.getElem?_append_right (by omega), hl, Nat.sub_self]
    exact hy
theorem own_has {w : World} {B n size g cap : Nat} {T : TypeId} {xs : List Value} (h : w.ownsRow B T size (.slice (some ⟨g, 0, none⟩) n cap) n xs) {j : Nat} (hj : j < n * size) : ∃ u, w.cell? ⟨g, j, none⟩ = some u := by
  rw [h.cellAt j hj]
  exact ⟨_, List.getElem?_eq_getElem (by rw [h.1]; exact hj)⟩

/-- the state while elements are put behind the one (v5) and the other (v6) -/
structure ApI (w : World) (B : Nat) (T : TypeId) (s k : Nat) (va vb : Value) (ya yb : List Value) (pa pb pg ph : Value) (q5 q6 : Nat) (yg yh : List Value) (v5 v6 : Value) (W : World) : Prop where
  r5 : W.ownsRow B T s v5 (k + q5) yg
  r6 : W.ownsRow B T s v6 (k + q6) yh
  ma : Has s yg 0 k pa
  mb : Has s yh 0 k pb
  mg : Has s yg k (k + q5) pg
  mh : Has s yh k (k + q6) ph
  far : Far v5 v6
  ra : W.ownsRow B T s va k ya
  rb : W.ownsRow B T s vb k yb
  gr : Grown2 w W va.ownBlock vb.ownBlock
  b5 : ∀ b, v5.ownBlock = some b → some b = va.ownBlock ∨ w.heap.size ≤ b
  b6 : ∀ b, v6.ownBlock = some b → some b = vb.ownBlock ∨ w.heap.size ≤ b
section
variable {w : World} {B : Nat} {T : TypeId} {s k : Nat} {va vb : Value} {ya yb : List Value} {pa pb pg ph : Value} {q5 q6 : Nat} {yg yh : List Value} {v5 v6 : Value} {W W' : World}
theorem ApI.swap (h : ApI w B T s k va vb ya yb pa pb pg ph q5 q6 yg yh v5 v6 W) : ApI w B T s k vb va yb ya pb pa ph pg q6 q5 yh yg v6 v5 W :=
  ⟨h.r6, h.r5, h.mb, h.ma, h.mh, h.mg, h.far.symm, h.rb, h.ra, ⟨h.gr.os, h.gr.tape, h.gr.output, h.gr.size, fun k hk h1 h2 => h.gr.block k hk h2 h1⟩, h.b6, h.b5⟩
theorem ApI.alloc (h : ApI w B T s k va vb ya yb pa pb pg ph q5 q6 yg yh v5 v6 W) (o : Obj) : ApI w B T s k va vb ya yb pa pb pg ph q5 q6 yg yh v5 v6 (W.alloc o) :=
  ⟨h.r5.alloc o, h.r6.alloc o, h.ma, h.mb, h.mg, h.mh, h.far, h.ra.alloc o, h.rb.alloc o, h.gr.below (ga (Mem.gr _) o), h.b5, h.b6⟩
theorem ApI.five (h : ApI w B T s k va vb ya yb pa pb pg ph q5 q6 yg yh v5 v6 W) {v' : Value} (news : List Value) (hy : news[0]? = some pg) (ho : W'.ownsRow B T s v' (k + q5 + 1) (yg ++ news)) (hg : W.grownBy W' v5.ownBlock) (hv : v'.ownBlock = v5.ownBlock ∨ v'.ownBlock = some W.heap.size) (hk : Keeps W W' T s v5 (k + q5)) :
    ApI w B T s k va vb ya yb pa pb pg ph (q5 + 1) q6 (yg ++ news) yh v' v6 W' :=
  ⟨ho, hk _ _ _ _ h.r6 (by
      rcases h.r6.2 with ⟨_, h0⟩ | ⟨g, cap, cur, e6, _⟩
      · exact .inr (by omega)
      · exact .inl (fun e => h.far g (by rw [← e, e6]; rfl) (by rw [e6]; rfl))), h.ma.app _, h.mb, h.mg.push _ h.r5.1 hy, h.mh, h.far.next h.r6 hv, hk _ _ _ _ h.ra (.inr (by omega)), hk _ _ _ _ h.rb (.inr (by omega)),
    h.gr.step hg (fun b e => by rcases h.b5 b e with e | e; exact .inl e; exact .inr (.inr e)), fun b e => by
      rcases hv with e1 | e1
      · exact h.b5 b (e1 ▸ e)
      · rw [e1] at e; injection e with e; exact .inr (by have := h.gr.size; omega), h.b6⟩
end


set_option maxRecDepth 4000 in
set_option maxHeartbeats 1600000 in
theorem apart_any (A Bd : Option Addr) (n ca cb B : Nat) (xa xb : List Value) (w : World) (ha : w.ownsRow B 51 2 (.slice A n ca) n xa) (hb : w.ownsRow B 51 2 (.slice Bd n cb) n xb) (hf : Far (.slice A n ca) (.slice Bd n cb)) (hB : B ≤ w.heap.size) (hn : n ≤ 1073741824) :
    Calls Tryd.prog 27 #[.slice A n ca, .slice Bd n cb] w fun e w' => e = .returned (.bool true) ∧ Grown2 w w' (Value.slice A n ca).ownBlock (Value.slice Bd n cb).ownBlock := by
  have HA := Lib.hid (And.intro ha (And.intro hb (And.intro hf hB)))
  clear ha hb hf hB
  go_enter Tryd.func27, Tryd.ntmps27
  go_wp2
  go_loopw [7] (fun v wr => ∃ (k : Nat) (ya yb : List Value), k ≤ n ∧ v = .int .i64 k ∧ wr.ownsRow B 51 2 (.slice A n ca) n ya ∧ wr.ownsRow B 51 2 (.slice Bd n cb) n yb ∧ Has 2 ya 0 k (.string ⟨#[63, 97]⟩) ∧ Has 2 yb 0 k (.string ⟨#[63, 98]⟩) ∧ Grown2 w wr (Value.slice A n ca).ownBlock (Value.slice Bd n cb).ownBlock) (fun v _ => n - (intOf v).toNat)
  case atStart => exact ⟨0, xa, xb, by omega, rfl, HA.out.1, HA.out.2.1, Has.zero _ _ _, Has.zero _ _ _, Grown2.refl w _ _⟩
  case round =>
    obtain ⟨k, ya, yb, hk, rfl, hra, hrb, hma, hmb, hG⟩ := hrel
    by_cases hlt : k < n
    · obtain ⟨ga, rfl, _, hca⟩ := own_addr hra (by omega)
      obtain ⟨gb, rfl, _, hcb⟩ := own_addr hrb (by omega)
      have hne : ga ≠ gb := fun e => HA.out.2.2.1 ga rfl (by rw [e]; rfl)
      obtain ⟨oa, hoa⟩ := own_has hra (j := k * 2) (by omega)
      obtain ⟨ob, hob⟩ := own_has hrb (j := k * 2) (by omega)
      have hfa := hra.frozenAt (k * 2)
      have hra1 := (hra.stored (k * 2) (.string ⟨#[63, 97]⟩)).1
      have hga1 := (hra.stored (k * 2) (.string ⟨#[63, 97]⟩)).2
      have hrb1 := own_far (j := k * 2) hrb (g := ga) (by simp [Value.ownBlock]; exact hne.symm) (.string ⟨#[63, 97]⟩)
      obtain ⟨ob, hob⟩ := own_has hrb1 (j := k * 2) (by omega)
      have hfb := hrb1.frozenAt (k * 2)
      have hrb2 := (hrb1.stored (k * 2) (.string ⟨#[63, 98]⟩)).1
      have hgb2 := (hrb1.stored (k * 2) (.string ⟨#[63, 98]⟩)).2
      have hra2 := own_far (j := k * 2) hra1 (g := gb) (by simp [Value.ownBlock]; exact hne) (.string ⟨#[63, 98]⟩)
      have hma' := hma.set_ (by decide) (by have := hra.1; omega)
      have hmb' := hmb.set_ (by decide) (by have := hrb.1; omega)
      have X := Lib.hid (And.intro hra2 (And.intro hrb2 (And.intro hma' (And.intro hmb' ((hG.step hga1 (fun k hk => .inl hk.symm)).step hgb2 (fun k hk => .inr (.inl hk.symm)))))))
      have hki : (k : Int) < (n : Int) := by omega
      have hk0 : (0 : Int) ≤ (k : Int) := by omega
      have HK := Lib.hid (And.intro hk hlt)
      clear hra hrb hma hmb hG hra1 hga1 hrb1 hrb2 hgb2 hra2 hma' hmb' hk hlt hne hca hcb
      go_wp2
      go_roundw
      case rel => exact ⟨k + 1, _, _, by have := HK.out; omega, by go_num, X.out.1, X.out.2.1, by simpa using X.out.2.2.1, by simpa using X.out.2.2.2.1, X.out.2.2.2.2⟩
      case measure => have := HK.out; simp [intOf]; omega
    · obtain rfl : k = n := by omega
      have hki : ¬ (k : Int) < (k : Int) := by omega
      have X := Lib.hid (And.intro hra (And.intro hrb (And.intro hma (And.intro hmb hG))))
      clear hra hrb hma hmb hG hlt hk
      go_wp2
      go_loopw [5, 6, 8] (fun v5 v6 v8 wr2 => ∃ (q : Nat) (yg yh : List Value), q ≤ 20 ∧ v8 = .int .i64 q ∧ ApI w B 51 2 k (.slice A k ca) (.slice Bd k cb) ya yb (.string ⟨#[63, 97]⟩) (.string ⟨#[63, 98]⟩) (.string ⟨#[63, 103]⟩) (.string ⟨#[63, 104]⟩) q q yg yh v5 v6 wr2) (fun _ _ v _ => 20 - (intOf v).toNat)
      case atStart => exact ⟨0, ya, yb, by omega, rfl, ⟨X.out.1, X.out.2.1, X.out.2.2.1, X.out.2.2.2.1, Has.none _ _ _ _, Has.none _ _ _ _, HA.out.2.2.1, X.out.1, X.out.2.1, X.out.2.2.2.2, fun b h => .inl h.symm, fun b h => .inl h.symm⟩⟩
      case round =>
        obtain ⟨q, yg, yh, hq, rfl, hI⟩ := hrel
        obtain ⟨A5, n5, c5, rfl, hn5⟩ := own_form hI.r5
        subst hn5
        obtain ⟨A6, n6, c6, rfl, hn6⟩ := own_form hI.r6
        subst hn6
        by_cases hlt : q < 20
        · have hqi : (q : Int) < 20 := by omega
          have hB1 : B ≤ wr.heap.size := Nat.le_trans HA.out.2.2.2 hI.gr.size
          have Y := Lib.hid (And.intro hI (And.intro hq (And.intro hlt hB1)))
          clear hI hq hlt hB1
          go_wp2_with (first
            | ((with_reducible show wpList _ _ _ (⟨some 33, _, _, _, _, _⟩ :: _) _ _)
               go_must (refine wpList_app2 E51 rfl (.tmp 30) (.tmp 32) rfl B (.slice A5 (k + q) c5) (k + q) yg (by go_simp) (Y.out.1.alloc _).r5 (some ⟨wr.heap.size, 0, none⟩) 1 1 [.string ⟨#[63, 103]⟩, .string ⟨#[]⟩] (by go_simp) (rv_new wr _ _) rfl (by simp [Value.oneCell']) (by have := Y.out.2; unfold maxLen; omega) (by have := Y.out.2; omega) (by have := Y.out.2.2.2; simp; omega) ?_)
               intro v5 w5 ho5 hg5 hv5 hk5
               obtain ⟨A7, n7, c7, rfl, hn7⟩ := own_form ho5
               subst hn7
               have Z := Lib.hid (And.intro ((Y.out.1.alloc _).five _ rfl ho5 hg5 hv5 hk5) hg5.size)
               clear ho5 hg5 hv5 hk5)
            | ((with_reducible show wpList _ _ _ (⟨some 37, _, _, _, _, _⟩ :: _) _ _)
               go_must (refine wpList_app2 E51 rfl (.tmp 34) (.tmp 36) rfl B (.slice A6 (k + q) c6) (k + q) yh (by go_simp) (Z.out.1.alloc _).r6 (some ⟨w5.heap.size, 0, none⟩) 1 1 [.string ⟨#[63, 104]⟩, .string ⟨#[]⟩] (by go_simp) (rv_new w5 _ _) rfl (by simp [Value.oneCell']) (by have := Y.out.2; unfold maxLen; omega) (by have := Y.out.2; omega) (by have := Y.out.2.2.2; have := Z.out.2; simp at this; simp; omega) ?_)
               intro v6 w6 ho6 hg6 hv6 hk6
               obtain ⟨A8, n8, c8, rfl, hn8⟩ := own_form ho6
               subst hn8
               have Z2 := Lib.hid (((Z.out.1.alloc _).swap.five _ rfl ho6 hg6 hv6 hk6).swap)
               clear ho6 hg6 hv6 hk6))
          go_roundw
          case rel => exact ⟨q + 1, _, _, by have := Y.out.2; omega, by go_num, by simpa [Nat.add_assoc] using Z2.out⟩
          case measure => have := Y.out.2; simp [intOf]; omega
        · obtain rfl : q = 20 := by omega
          have I := Lib.hid hI
          clear hI hlt hq
          go_wp2
          go_loopw [9] (fun v9 wr3 => ∃ (j d : Nat), j ≤ k + 20 ∧ v9 = .int .i64 j ∧ wr3 = wr.drewN d) (fun v _ => k + 20 - (intOf v).toNat)
          case atStart => exact ⟨0, 0, by omega, rfl, rfl⟩
          case round =>
            obtain ⟨j, d, hj, rfl, rfl⟩ := hrel
            obtain ⟨g5, rfl, _, hc5⟩ := own_addr I.out.r5 (by omega)
            obtain ⟨g6, rfl, _, hc6⟩ := own_addr I.out.r6 (by omega)
            by_cases hlt : j < k
            · obtain ⟨ga, rfl, _, hca⟩ := own_addr I.out.ra (by omega)
              obtain ⟨gb, rfl, _, hcb⟩ := own_addr I.out.rb (by omega)
              have d1 := (I.out.ra.cellAt (j * 2) (by omega)).trans (X.out.2.2.1 j (by omega) hlt)
              have d2 := (I.out.rb.cellAt (j * 2) (by omega)).trans (X.out.2.2.2.1 j (by omega) hlt)
              have d3 := (I.out.r5.cellAt (j * 2) (by omega)).trans (I.out.ma j (by omega) hlt)
              have d4 := (I.out.r6.cellAt (j * 2) (by omega)).trans (I.out.mb j (by omega) hlt)
              have e1 : (j : Int) < (k : Int) + 20 := by omega
              have e2 : (j : Int) < (k : Int) := by omega
              have e3 : ¬ (k : Int) ≤ (j : Int) := by omega
              have e4 : (0 : Int) ≤ (j : Int) := by omega
              have HJ := Lib.hid (And.intro hlt hj)
              clear hlt hj hca hcb hc5 hc6
              go_wp2
              exact ⟨⟨j + 1, d, by have := HJ.out; omega, by go_num, rfl⟩, by have := HJ.out; simp [intOf]; omega⟩
            · by_cases hlt2 : j < k + 20
              · have d3 := (I.out.r5.cellAt (j * 2) (by omega)).trans (I.out.mg j (by omega) hlt2)
                have d4 := (I.out.r6.cellAt (j * 2) (by omega)).trans (I.out.mh j (by omega) hlt2)
                have e1 : (j : Int) < (k : Int) + 20 := by omega
                have e2 : ¬ (j : Int) < (k : Int) := by omega
                have e3 : (k : Int) ≤ (j : Int) := by omega
                have e4 : (0 : Int) ≤ (j : Int) := by omega
                have HJ := Lib.hid (And.intro hlt2 hj)
                clear hlt hj hlt2 hc5 hc6
                go_wp2
                exact ⟨⟨j + 1, d, by have := HJ.out; omega, by go_num, rfl⟩, by have := HJ.out; simp [intOf]; omega⟩
              · obtain rfl : j = k + 20 := by omega
                have e1 : ¬ ((k + 20 : Nat) : Int) < (k : Int) + 20 := by omega
                clear hlt hj hlt2 hc5 hc6
                go_wp2
                go_ret
                exact ⟨rfl, I.out.gr.below (gn (Mem.gr _) d)⟩


set_option maxRecDepth 4000 in
set_option maxHeartbeats 1600000 in
theorem apartTexts_any (A Bd : Option Addr) (n ca cb B : Nat) (xa xb : List Value) (w : World) (ha : w.ownsRow B 9 1 (.slice A n ca) n xa) (hb : w.ownsRow B 9 1 (.slice Bd n cb) n xb) (hf : Far (.slice A n ca) (.slice Bd n cb)) (hB : B ≤ w.heap.size) (hn : n ≤ 1073741824) :
    Calls Tryd.prog 28 #[.slice A n ca, .slice Bd n cb] w fun e w' => e = .returned (.bool true) ∧ Grown2 w w' (Value.slice A n ca).ownBlock (Value.slice Bd n cb).ownBlock := by
  have HA := Lib.hid (And.intro ha (And.intro hb (And.intro hf hB)))
  clear ha hb hf hB
  go_enter Tryd.func28, Tryd.ntmps28
  go_wp2
  go_loopw [7] (fun v wr => ∃ (k : Nat) (ya yb : List Value), k ≤ n ∧ v = .int .i64 k ∧ wr.ownsRow B 9 1 (.slice A n ca) n ya ∧ wr.ownsRow B 9 1 (.slice Bd n cb) n yb ∧ Has 1 ya 0 k (.string ⟨#[63, 108]⟩) ∧ Has 1 yb 0 k (.string ⟨#[63, 109]⟩) ∧ Grown2 w wr (Value.slice A n ca).ownBlock (Value.slice Bd n cb).ownBlock) (fun v _ => n - (intOf v).toNat)
  case atStart => exact ⟨0, xa, xb, by omega, rfl, HA.out.1, HA.out.2.1, Has.zero _ _ _, Has.zero _ _ _, Grown2.refl w _ _⟩
  case round =>
    obtain ⟨k, ya, yb, hk, rfl, hra, hrb, hma, hmb, hG⟩ := hrel
    by_cases hlt : k < n
    · obtain ⟨ga, rfl, _, hca⟩ := own_addr hra (by omega)
      obtain ⟨gb, rfl, _, hcb⟩ := own_addr hrb (by omega)
      have hne : ga ≠ gb := fun e => HA.out.2.2.1 ga rfl (by rw [e]; rfl)
      obtain ⟨oa, hoa⟩ := own_has hra (j := k) (by omega)
      obtain ⟨ob, hob⟩ := own_has hrb (j := k) (by omega)
      have hfa := hra.frozenAt (k)
      have hra1 := (hra.stored (k) (.string ⟨#[63, 108]⟩)).1
      have hga1 := (hra.stored (k) (.string ⟨#[63, 108]⟩)).2
      have hrb1 := own_far (j := k) hrb (g := ga) (by simp [Value.ownBlock]; exact hne.symm) (.string ⟨#[63, 108]⟩)
      obtain ⟨ob, hob⟩ := own_has hrb1 (j := k) (by omega)
      have hfb := hrb1.frozenAt (k)
      have hrb2 := (hrb1.stored (k) (.string ⟨#[63, 109]⟩)).1
      have hgb2 := (hrb1.stored (k) (.string ⟨#[63, 109]⟩)).2
      have hra2 := own_far (j := k) hra1 (g := gb) (by simp [Value.ownBlock]; exact hne) (.string ⟨#[63, 109]⟩)
      have hma' := hma.set_ (by decide) (by have := hra.1; omega)
      have hmb' := hmb.set_ (by decide) (by have := hrb.1; omega)
      have X := Lib.hid (And.intro hra2 (And.intro hrb2 (And.intro hma' (And.intro hmb' ((hG.step hga1 (fun k hk => .inl hk.symm)).step hgb2 (fun k hk => .inr (.inl hk.symm)))))))
      have hki : (k : Int) < (n : Int) := by omega
      have hk0 : (0 : Int) ≤ (k : Int) := by omega
      have HK := Lib.hid (And.intro hk hlt)
      clear hra hrb hma hmb hG hra1 hga1 hrb1 hrb2 hgb2 hra2 hma' hmb' hk hlt hne hca hcb
      go_wp2
      go_roundw
      case rel => exact ⟨k + 1, _, _, by have := HK.out; omega, by go_num, X.out.1, X.out.2.1, by simpa using X.out.2.2.1, by simpa using X.out.2.2.2.1, X.out.2.2.2.2⟩
      case measure => have := HK.out; simp [intOf]; omega
    · obtain rfl : k = n := by omega
      have hki : ¬ (k : Int) < (k : Int) := by omega
      have X := Lib.hid (And.intro hra (And.intro hrb (And.intro hma (And.intro hmb hG))))
      clear hra hrb hma hmb hG hlt hk
      go_wp2
      go_loopw [5, 6, 8] (fun v5 v6 v8 wr2 => ∃ (q : Nat) (yg yh : List Value), q ≤ 20 ∧ v8 = .int .i64 q ∧ ApI w B 9 1 k (.slice A k ca) (.slice Bd k cb) ya yb (.string ⟨#[63, 108]⟩) (.string ⟨#[63, 109]⟩) (.string ⟨#[63, 105]⟩) (.string ⟨#[63, 106]⟩) q q yg yh v5 v6 wr2) (fun _ _ v _ => 20 - (intOf v).toNat)
      case atStart => exact ⟨0, ya, yb, by omega, rfl, ⟨X.out.1, X.out.2.1, X.out.2.2.1, X.out.2.2.2.1, Has.none _ _ _ _, Has.none _ _ _ _, HA.out.2.2.1, X.out.1, X.out.2.1, X.out.2.2.2.2, fun b h => .inl h.symm, fun b h => .inl h.symm⟩⟩
      case round =>
        obtain ⟨q, yg, yh, hq, rfl, hI⟩ := hrel
        obtain ⟨A5, n5, c5, rfl, hn5⟩ := own_form hI.r5
        subst hn5
        obtain ⟨A6, n6, c6, rfl, hn6⟩ := own_form hI.r6
        subst hn6
        by_cases hlt : q < 20
        · have hqi : (q : Int) < 20 := by omega
          have hB1 : B ≤ wr.heap.size := Nat.le_trans HA.out.2.2.2 hI.gr.size
          have Y := Lib.hid (And.intro hI (And.intro hq (And.intro hlt hB1)))
          clear hI hq hlt hB1
          go_wp2_with (first
            | ((with_reducible show wpList _ _ _ (⟨some 30, _, _, _, _, _⟩ :: _) _ _)
               go_must (refine wpList_app2 E30 rfl (.tmp 28) (.tmp 29) rfl B (.slice A5 (k + q) c5) (k + q) yg (by go_simp) (Y.out.1.alloc _).r5 (some ⟨wr.heap.size, 0, none⟩) 1 1 [.string ⟨#[63, 105]⟩] (by go_simp) (rv_new wr _ _) rfl (by simp [Value.oneCell']) (by have := Y.out.2; unfold maxLen; omega) (by have := Y.out.2; omega) (by have := Y.out.2.2.2; simp; omega) ?_)
               intro v5 w5 ho5 hg5 hv5 hk5
               obtain ⟨A7, n7, c7, rfl, hn7⟩ := own_form ho5
               subst hn7
               have Z := Lib.hid (And.intro ((Y.out.1.alloc _).five _ rfl ho5 hg5 hv5 hk5) hg5.size)
               clear ho5 hg5 hv5 hk5)
            | ((with_reducible show wpList _ _ _ (⟨some 33, _, _, _, _, _⟩ :: _) _ _)
               go_must (refine wpList_app2 E30 rfl (.tmp 31) (.tmp 32) rfl B (.slice A6 (k + q) c6) (k + q) yh (by go_simp) (Z.out.1.alloc _).r6 (some ⟨w5.heap.size, 0, none⟩) 1 1 [.string ⟨#[63, 106]⟩] (by go_simp) (rv_new w5 _ _) rfl (by simp [Value.oneCell']) (by have := Y.out.2; unfold maxLen; omega) (by have := Y.out.2; omega) (by have := Y.out.2.2.2; have := Z.out.2; simp at this; simp; omega) ?_)
               intro v6 w6 ho6 hg6 hv6 hk6
               obtain ⟨A8, n8, c8, rfl, hn8⟩ := own_form ho6
               subst hn8
               have Z2 := Lib.hid (((Z.out.1.alloc _).swap.five _ rfl ho6 hg6 hv6 hk6).swap)
               clear ho6 hg6 hv6 hk6))
          go_roundw
          case rel => exact ⟨q + 1, _, _, by have := Y.out.2; omega, by go_num, by simpa [Nat.add_assoc] using Z2.out⟩
          case measure => have := Y.out.2; simp [intOf]; omega
        · obtain rfl : q = 20 := by omega
          have I := Lib.hid hI
          clear hI hlt hq
          go_wp2
          go_loopw [9] (fun v9 wr3 => ∃ (j d : Nat), j ≤ k + 20 ∧ v9 = .int .i64 j ∧ wr3 = wr.drewN d) (fun v _ => k + 20 - (intOf v).toNat)
          case atStart => exact ⟨0, 0, by omega, rfl, rfl⟩
          case round =>
            obtain ⟨j, d, hj, rfl, rfl⟩ := hrel
            obtain ⟨g5, rfl, _, hc5⟩ := own_addr I.out.r5 (by omega)
            obtain ⟨g6, rfl, _, hc6⟩ := own_addr I.out.r6 (by omega)
            by_cases hlt : j < k
            · obtain ⟨ga, rfl, _, hca⟩ := own_addr I.out.ra (by omega)
              obtain ⟨gb, rfl, _, hcb⟩ := own_addr I.out.rb (by omega)
              have d1 := (I.out.ra.cellAt (j * 1) (by omega)).trans (X.out.2.2.1 j (by omega) hlt)
              have d2 := (I.out.rb.cellAt (j * 1) (by omega)).trans (X.out.2.2.2.1 j (by omega) hlt)
              have d3 := (I.out.r5.cellAt (j * 1) (by omega)).trans (I.out.ma j (by omega) hlt)
              have d4 := (I.out.r6.cellAt (j * 1) (by omega)).trans (I.out.mb j (by omega) hlt)
              simp only [Nat.mul_one] at d1 d2 d3 d4
              have e1 : (j : Int) < (k : Int) + 20 := by omega
              have e2 : (j : Int) < (k : Int) := by omega
              have e3 : ¬ (k : Int) ≤ (j : Int) := by omega
              have e4 : (0 : Int) ≤ (j : Int) := by omega
              have HJ := Lib.hid (And.intro hlt hj)
              clear hlt hj hca hcb hc5 hc6
              go_wp2
              exact ⟨⟨j + 1, d, by have := HJ.out; omega, by go_num, rfl⟩, by have := HJ.out; simp [intOf]; omega⟩
            · by_cases hlt2 : j < k + 20
              · have d3 := (I.out.r5.cellAt (j * 1) (by omega)).trans (I.out.mg j (by omega) hlt2)
                have d4 := (I.out.r6.cellAt (j * 1) (by omega)).trans (I.out.mh j (by omega) hlt2)
                simp only [Nat.mul_one] at d3 d4
                have e1 : (j : Int) < (k : Int) + 20 := by omega
                have e2 : ¬ (j : Int) < (k : Int) := by omega
                have e3 : (k : Int) ≤ (j : Int) := by omega
                have e4 : (0 : Int) ≤ (j : Int) := by omega
                have HJ := Lib.hid (And.intro hlt2 hj)
                clear hlt hj hlt2 hc5 hc6
                go_wp2
                exact ⟨⟨j + 1, d, by have := HJ.out; omega, by go_num, rfl⟩, by have := HJ.out; simp [intOf]; omega⟩
              · obtain rfl : j = k + 20 := by omega
                have e1 : ¬ ((k + 20 : Nat) : Int) < (k : Int) + 20 := by omega
                clear hlt hj hlt2 hc5 hc6
                go_wp2
                go_ret
                exact ⟨rfl, I.out.gr.below (gn (Mem.gr _) d)⟩

end Go.Proofs.YtompcngeikjfiaaDoor.Uri
