/- weirlaw07.PileMuddled: the walk. -/
import Derived.Test.YtdebokambldbbaaPItems
namespace Go.Proofs.Ytdebokambldbbaa.LawP
set_option linter.unusedSectionVars false
set_option linter.unusedSimpArgs false
open Go.RowKit Go.Shelf Go.Proofs.Ytdebokambldbbaa.Mem Go.Proofs.Ytdebokambldbbaa.Heap Go.Proofs.Ytdebokambldbbaa.Pile Go.Proofs.Ytdebokambldbbaa.PileI
set_option linter.unusedVariables false
set_option maxRecDepth 4000
set_option maxHeartbeats 12800000

theorem less_mud (W : World) : Less Try.prog W.heap.size W (vl thI) (fun _ => True) (.func (.func 24) #[] #[]) mud := by
  rcases fv_mud W (fun _ => True) with ⟨h, _⟩ | ⟨_, h⟩
  · cases h
  · exact h
/-- the pile while it is emptied into a list -/
structure MS (Wp : World) (p : Nat) (fv : Value) (lt : Itm → Itm → Bool) (X : List Itm) (nx : Nat) (d : List Itm) (d' : List Itm) (vm : Value) (W : World) : Prop where
  pl : ∃ v es, PlK thI W p p v fv es nx ∧ d ++ (popAll (Heap.ahead lt) es.length es).map (·.1) = X
  row : W.ownsRow p 35 2 vm d'.length (d'.flatMap Itm.cells)
  low : Below p Wp W
theorem MS.pop {Wp W : World} {p : Nat} {fv : Value} {lt : Itm → Itm → Bool} {X d : List Itm} {nx : Nat} {vm : Value} (s : MS Wp p fv lt X nx d d vm W) (hL : Less Try.prog p Wp (vl thI) (fun _ => True) fv lt) (hp0 : p ≤ Wp.heap.size) (hd : d.length < X.length) (hX : X.length ≤ 1073741824) :
    Calls Try.prog 17 #[.pointer (some ⟨p, 0, none⟩)] W fun e W' => ∃ x1 x2, e = .returned (.tuple #[.agg #[.int .i64 x1, .int .i64 x2], .bool true]) ∧ MS Wp p fv lt X nx (d ++ [(x1, x2)]) d vm W' := by
  obtain ⟨v, es, hp, hall⟩ := s.pl
  have hlen : d.length + es.length = X.length := by
    rw [← hall, List.length_append, List.length_map, popAll_len]
  have n1 : vm.ownBlock = none ∨ vm.ownBlock ≠ some p := .inr (own_ne_blk s.row hp.blk (by decide))
  have n2 : vm.ownBlock = none ∨ vm.ownBlock ≠ v.ownBlock := own_ne_own s.row hp.own (by decide)
  have hrow : ∀ k, v.ownBlock = some k → p ≤ k := fun k hk => (hp.own.lt k hk).1
  refine (pop_any W hp hL s.low (Nat.le_trans hp0 s.low.size) (Nat.le_refl _) (fun _ _ => trivial) (by omega) (by omega)).mono ?_
  rintro e W' ⟨rfl, v', hp', hg, hv⟩
  refine ⟨(nth es 0).1.1, (nth es 0).1.2, rfl, ⟨v', _, hp', ?_⟩, hg.own s.row n1 n2, hg.low s.low (Nat.le_trans hp0 s.low.size) (fun k hk => by cases hk; exact Nat.le_refl _) hrow⟩
  rw [← hall, List.append_assoc]
  congr 1
  obtain ⟨m, hm⟩ : ∃ m, es.length = m + 1 := ⟨es.length - 1, by omega⟩
  rw [pop_len, hm, Nat.add_sub_cancel, popAll, List.map_cons]
  rfl
theorem MS.grow {Wp W W' : World} {p : Nat} {fv : Value} {lt : Itm → Itm → Bool} {X d d' : List Itm} {nx : Nat} {vm : Value} (s : MS Wp p fv lt X nx d d' vm W) (hp0 : p ≤ Wp.heap.size) (hb : Below W.heap.size W W') : MS Wp p fv lt X nx d d' vm W' := by
  obtain ⟨v, es, hp, hall⟩ := s.pl
  exact ⟨⟨v, es, hp.grow hb, hall⟩, own_below' s.row hb, s.low.trans (hb.mono (Nat.le_trans hp0 s.low.size))⟩
theorem MS.app {Wp W W' : World} {p : Nat} {fv : Value} {lt : Itm → Itm → Bool} {X d d' d2 : List Itm} {nx : Nat} {vm vm' : Value} (s : MS Wp p fv lt X nx d d' vm W) (hp0 : p ≤ Wp.heap.size) (hg : W.grownBy W' vm.ownBlock) (hr : W'.ownsRow p 35 2 vm' d2.length (d2.flatMap Itm.cells)) : MS Wp p fv lt X nx d d2 vm' W' := by
  obtain ⟨v, es, hp, hall⟩ := s.pl
  have n1 : vm.ownBlock ≠ some p := own_ne_blk s.row hp.blk (by decide)
  have n2 := own_ne_own s.row hp.own (by decide)
  refine ⟨⟨v, es, hp.kept fun k hk h => hg.block k hk fun e => ?_, hall⟩, hr, s.low.grown hg (Nat.le_trans hp0 s.low.size) (fun k hk => (s.row.lt k hk).1)⟩
  rcases h with rfl | h
  · exact n1 e.symm
  · rcases n2 with h0 | h0
    · rw [h0] at e; cases e
    · exact h0 (e.symm.trans h.symm)
theorem MS.done {Wp W : World} {p : Nat} {fv : Value} {lt : Itm → Itm → Bool} {X d : List Itm} {nx : Nat} {vm : Value} (s : MS Wp p fv lt X nx d d vm W) (hd : d.length = X.length) : d = X ∧ ∃ v, PlK thI W p p v fv [] nx := by
  obtain ⟨v, es, hp, hall⟩ := s.pl
  have hlen : d.length + es.length = X.length := by
    rw [← hall, List.length_append, List.length_map, popAll_len]
  obtain rfl : es = [] := List.eq_nil_of_length_eq_zero (by omega)
  refine ⟨?_, v, hp⟩
  rw [← hall]
  simp [popAll]
theorem pop_last (W : World) {v fv : Value} {p nx : Nat} (hp : PlK thI W p p v fv [] nx) : Calls Try.prog 17 #[.pointer (some ⟨p, 0, none⟩)] W fun e W' => e = .returned (.tuple #[.agg #[.int .i64 0, .int .i64 0], .bool false]) ∧ Below W.heap.size W W' :=
  pop_none W _ fun W1 hb => len_any W1 (hp.grow hb)
theorem fl_len : ∀ l : List Itm, (l.flatMap Itm.cells).length = l.length * 2
  | [] => rfl
  | a :: r => by rw [List.flatMap_cons, List.length_append, fl_len r, List.length_cons, Nat.add_mul, Nat.add_comm]; rfl
theorem fl_one {l : List Itm} : ∀ u ∈ l.flatMap Itm.cells, u.oneCell' = true := fun u hu => by
  obtain ⟨x, _, hx⟩ := List.mem_flatMap.1 hu
  exact thI.one x u hx
theorem muddled_walk (A0 : Option Addr) (n0 c0 : Nat) (l : List Itm) (W : World) (hr : RV W A0 (l.flatMap Itm.cells)) (hn0 : n0 = l.length) (hl : l.length ≤ 1048576) :
    Calls Try.prog 6 #[.slice A0 n0 c0] W fun e W' => e = .returned (.bool true) ∧ Below W.heap.size W W' := by
  obtain ⟨all, hall⟩ : ∃ all : List Itm, all = (1, 1) :: l := ⟨_, rfl⟩
  obtain ⟨N, hN⟩ : ∃ N, N = all.length := ⟨_, rfl⟩
  obtain ⟨H, hH⟩ : ∃ H, H = W.heap.size := ⟨_, rfl⟩
  have hN1 : N = 1 + n0 := by rw [hN, hall, hn0]; simp; omega
  have H0 := Lib.hid (And.intro hr (And.intro hn0 (And.intro hl (And.intro hall (And.intro hN (And.intro hH hN1))))))
  clear hr hn0 hl hall hN hH hN1
  go_enter Try.func6, Try.ntmps6
  go_wp2_with (first
    | (go_at_call 15; go_must (refine (it_any 1 1 _).mono ?_); rintro e w1 ⟨rfl, hb1⟩; unfold Itm.val)
    | ((with_reducible show wpList _ _ _ (⟨some 17, _, _, _, _, _⟩ :: _) _ _)
       go_must (refine wpList_build1 ET (o := ⟨some 17, _, _, _, _, _⟩) rfl (.tmp 16) rfl (by decide) (Itm.cells (1, 1)) rfl rfl w1.heap.size (by go_simp) ?_)
       intro w2 hB2 hb2 hz2)
    | ((with_reducible show wpList _ _ _ (⟨some 19, _, _, _, _, _⟩ :: _) _ _)
       go_must (refine wpList_app ET (o := ⟨some 19, _, _, _, _, _⟩) rfl (.tmp 17) (.tmp 18) rfl w1.heap.size (.slice (some ⟨w1.heap.size, 0, none⟩) 1 1) 1 (Itm.cells (1, 1)) rfl (own_made hB2 (Nat.le_refl _) rfl (by decide)) A0 n0 c0 (l.flatMap Itm.cells) rfl ((H0.out.1.below hb1).below hb2) (by rw [fl_len, H0.out.2.1]; rfl) fl_one (by have h1 := H0.out.2.1; have h2 := H0.out.2.2.1; unfold maxLen; omega) (by have h1 := H0.out.2.1; have h2 := H0.out.2.2.1; omega) hb2.size ?_)
       intro va w3 hova hga hva))
  have e0 : Itm.cells (1, 1) ++ l.flatMap Itm.cells = all.flatMap Itm.cells := by rw [H0.out.2.2.2.1]; rfl
  rw [e0] at hova
  obtain ⟨Aa, ca, rfl, hca⟩ := own_slice hova
  have eN := H0.out.2.2.2.2.2.2
  rw [← eN] at hova ⊢
  have hb3 : Below W.heap.size W w3 := (gt hb1 hb2).grown hga (gt hb1 hb2).size (fun k hk => by cases hk; exact hb1.size)
  have F3 := Lib.hid (And.intro (own_rv hova) (And.intro (own_hA hova) hb3))
  have hN20 : all.length ≤ 1073741824 := by rw [H0.out.2.2.2.1, List.length_cons]; have := H0.out.2.2.1; omega
  clear eN hova hb3 hb1 hb2 hB2 hz2 hga hva e0 hca
  go_wp2_with (first
    | (go_at_call 23; go_must (refine (sorted_any w3 Aa N ca all _ F3.out.1 F3.out.2.1 H0.out.2.2.2.2.1 (fv_mud w3 fun _ => True) (fun _ _ => trivial) hN20).mono ?_); rintro e w4 ⟨vs, rfl, hos, hb4⟩)
    | (go_at_call 25; go_must (refine (new_any (th := thI) w4 _ 24 #[] rfl).mono ?_); rintro e w5 ⟨rfl, hP5, hb5⟩))
  obtain ⟨p, hp⟩ : ∃ p, p = w4.heap.size := ⟨_, rfl⟩
  obtain ⟨As, cs, rfl, hcs⟩ := own_slice hos
  rw [← H0.out.2.2.2.2.1]
  have F4 := Lib.hid (And.intro (own_rv hos) (And.intro hb4 (And.intro hp (And.intro (less_mud w4) (And.intro hN20 (own_hA hos))))))
  rw [← hp] at hP5 hb5
  simp only [← hp]
  have F5 := Lib.hid (And.intro hP5 hb5)
  have hLp : Less Try.prog p w4 (vl thI) (fun _ => True) (.func (.func 24) #[] #[]) mud := by rw [hp]; exact less_mud w4
  have HL := Lib.hid (And.intro hLp (Nat.le_of_eq hp))
  clear hp hos hb4 hP5 hb5 hN20 hcs hLp
  go_loopw [25] (fun v25 wr => ∃ (k : Nat) (v : Value), k ≤ N ∧ v25 = .int .i64 k ∧ PlK thI wr p p v (.func (.func 24) #[] #[]) (Heap.pushAll mud [] 0 (all.take k)) k ∧ Below p w4 wr) (fun v _ => N - (intOf v).toNat)
  case atStart => exact ⟨0, _, Nat.zero_le _, rfl, F5.out.1, F5.out.2⟩
  case round =>
    obtain ⟨k, v, hk, rfl, hP, hb⟩ := hrel
    by_cases hlt : k < N
    · have hkl : k < all.length := by rw [← H0.out.2.2.2.2.1]; exact hlt
      have hb' : Below w4.heap.size w4 wr := by rw [← F4.out.2.2.1]; exact hb
      obtain ⟨g, off, rfl, c1, c2⟩ := item_at ((F3.out.1.below F4.out.2.1).below hb') F3.out.2.1 hkl
      have cP := Lib.hid (fun w2 (hb2 : Below wr.heap.size wr w2) => push_next hP HL.out.1 hb HL.out.2 hkl F4.out.2.2.2.2.1 w2 hb2)
      obtain ⟨y, hy⟩ : ∃ y, y = all[k] := ⟨_, rfl⟩
      rw [← hy] at c1 c2 cP
      have hki : (k : Int) < (N : Int) := by omega
      have hk0 : (0 : Int) ≤ (k : Int) := by omega
      have q7 : wrap64 ((k : Int) + 1) = (k : Int) + 1 := wrap_in (by omega) (by have := F4.out.2.2.2.2.1; omega)
      have hlt' := Lib.hid hlt
      clear hk hlt hkl hb hb' hP hy
      obtain ⟨y1, y2⟩ := y
      simp only at c1 c2
      go_wp2_with (go_at_call 14; go_must (refine (cP.out _ (ga (gr wr) _)).mono ?_); rintro e w6 ⟨⟨u, rfl⟩, v', hP', hb'⟩)
      go_roundw
      case rel => exact ⟨k + 1, v', hlt'.out, by go_num, hP', hb'⟩
      case measure =>
        rw [q7]
        exact meas_in hlt'.out
    · obtain rfl : N = k := by omega
      obtain ⟨X, hX⟩ : ∃ X, X = (popAll (Heap.ahead mud) (Heap.pushAll mud [] 0 all).length (Heap.pushAll mud [] 0 all)).map (·.1) := ⟨_, rfl⟩
      have hXl : X.length = N := by rw [hX, List.length_map, popAll_len, pushAll_len, H0.out.2.2.2.2.1]; simp
      have hXp : X.Perm all := by
        rw [hX]
        refine ((popAll_perm _ _ rfl).map _).trans ?_
        refine ((pushAll_perm mud all [] 0).map _).trans ?_
        rw [List.nil_append, tag_map]
      have hs : MS w4 p (.func (.func 24) #[] #[]) mud X N [] [] (.slice none 0 0) wr := by
        refine ⟨⟨v, Heap.pushAll mud [] 0 all, ?_, by rw [hX]; rfl⟩, World.ownsRow_nil _ _ _ _, hb⟩
        rw [H0.out.2.2.2.2.1, List.take_length] at hP
        rw [H0.out.2.2.2.2.1]
        exact hP
      have G := Lib.hid (And.intro hs (And.intro hXl hXp))
      clear hs hXl hXp hX hlt hk hP hb F5
      rename World => W1
      go_wp2
      go_loopw [35, 8] (fun v35 v8 wr => ∃ d : List Itm, d.length ≤ N ∧ v35 = .int .i64 d.length ∧ MS w4 p (.func (.func 24) #[] #[]) mud X N d d v8 wr) (fun v _ _ => N - (intOf v).toNat)
      case atStart => exact ⟨[], Nat.zero_le _, rfl, G.out.1⟩
      case round =>
        obtain ⟨d, hd, rfl, hm⟩ := hrel
        by_cases hlt : d.length < N
        · have hp0 := HL.out.2
          have hkl : d.length < X.length := by rw [G.out.2.1]; exact hlt
          have hNb : N ≤ 1073741824 := by rw [H0.out.2.2.2.2.1]; exact F4.out.2.2.2.2.1
          have cP := Lib.hid (MS.pop hm HL.out.1 hp0 hkl (by rw [G.out.2.1]; exact hNb))
          obtain ⟨k, hk⟩ : ∃ k, k = d.length := ⟨_, rfl⟩
          rw [← hk] at hd hlt ⊢
          have hki : (k : Int) < (N : Int) := by omega
          have hk0 : (0 : Int) ≤ (k : Int) := by omega
          have q7 : wrap64 ((k : Int) + 1) = (k : Int) + 1 := wrap_in (by omega) (by omega)
          have Z := Lib.hid (And.intro hlt (And.intro hk hNb))
          clear hd hlt hkl hNb hk hm
          go_wp2_with (first
            | (go_at_call 17; go_must (refine cP.out.mono ?_); rintro e w6 ⟨x1, x2, rfl, s6⟩)
            | ((with_reducible show wpList _ _ _ (⟨some 46, _, _, _, _, _⟩ :: _) _ _)
               go_must (refine wpList_build1 ET (o := ⟨some 46, _, _, _, _, _⟩) rfl (.tmp 45) rfl (by decide) (Itm.cells (x1, x2)) rfl rfl _ rfl ?_)
               intro w7 hB7 hb7 hz7
               have s7 := (s6.grow hp0 (ga (gr w6) _)).grow hp0 hb7)
            | ((with_reducible show wpList _ _ _ (⟨some 47, _, _, _, _, _⟩ :: _) _ _)
               go_must (refine wpList_app ET (o := ⟨some 47, _, _, _, _, _⟩) rfl (.tmp 44) (.tmp 46) rfl p u8 d.length (d.flatMap Itm.cells) rfl s7.row _ 1 1 (Itm.cells (x1, x2)) rfl (own_rv (own_made (B := 0) (size := 2) (n := 1) hB7 (Nat.zero_le _) rfl (by decide))) rfl (fun u hu => thI.one (x1, x2) u hu) (by have := Z.out; unfold maxLen; omega) (by have := Z.out; omega) (Nat.le_trans hp0 s7.low.size) ?_)
               intro va w8 hov hg hv'))
          have s8 : MS w4 p (.func (.func 24) #[] #[]) mud X N (d ++ [(x1, x2)]) (d ++ [(x1, x2)]) va w8 := s7.app hp0 hg (by have := hov; simpa [List.flatMap_append] using this)
          have S8 := Lib.hid s8
          clear hov hg hv' s6 s7 s8 hB7 hb7 hz7
          go_roundw
          case rel => exact ⟨d ++ [(x1, x2)], by have := Z.out; simp; omega, by have := Z.out; simp; omega, S8.out⟩
          case measure =>
            rw [q7]
            exact meas_in Z.out.1
        · obtain ⟨rfl, v9, hP9⟩ := hm.done (by rw [G.out.2.1]; omega)
          rw [G.out.2.1]
          have hrow := hm.row
          rw [G.out.2.1] at hrow
          obtain ⟨Am, cm, rfl, hcm⟩ := own_slice hrow
          have hbp : Below w4.heap.size w4 wr := by rw [← F4.out.2.2.1]; exact hm.low
          have hbW := F3.out.2.2.trans ((F4.out.2.1.trans (hbp.mono F4.out.2.1.size)).mono F3.out.2.2.size)
          have G2 := Lib.hid (And.intro ((F3.out.1.below F4.out.2.1).below hbp) (And.intro (F4.out.1.below hbp) (And.intro (own_rv hrow) (And.intro (own_hA hrow) (And.intro hP9 hbW)))))
          clear hrow hcm hbp hP9 hm hlt hd hbW
          rename World => W2
          go_wp2_with (go_at_call 17; go_must (refine (pop_last _ G2.out.2.2.2.2.1).mono ?_); rintro e w6 ⟨rfl, hb6⟩)
          have hNb : N ≤ 1099511627776 := by rw [H0.out.2.2.2.2.1]; exact Nat.le_trans F4.out.2.2.2.2.1 (by decide)
          have cA : ∀ w, Below W2.heap.size W2 w → ∀ y : Itm, Calls Try.prog 26 #[.slice Aa N ca, y.val] w fun e W' => e = .returned (.int .i64 (all.count y)) ∧ Below w.heap.size w W' := fun w hb y =>
            count_any Aa N ca all y w (G2.out.1.below hb) F3.out.2.1 H0.out.2.2.2.2.1 (by rw [← H0.out.2.2.2.2.1]; exact hNb)
          have cS : ∀ w, Below W2.heap.size W2 w → ∀ y : Itm, Calls Try.prog 26 #[.slice As N cs, y.val] w fun e W' => e = .returned (.int .i64 (all.count y)) ∧ Below w.heap.size w W' := fun w hb y => by
            rw [← (sorted_perm mud all).count_eq y]
            exact count_any As N cs (sorted mud all) y w (G2.out.2.1.below hb) F4.out.2.2.2.2.2 (by rw [sorted_len]; exact H0.out.2.2.2.2.1) (by rw [sorted_len, ← H0.out.2.2.2.2.1]; exact hNb)
          have cM : ∀ w, Below W2.heap.size W2 w → ∀ y : Itm, Calls Try.prog 26 #[.slice Am N cm, y.val] w fun e W' => e = .returned (.int .i64 (all.count y)) ∧ Below w.heap.size w W' := fun w hb y => by
            rw [← G.out.2.2.count_eq y]
            exact count_any Am N cm d y w (G2.out.2.2.1.below hb) G2.out.2.2.2.1 G.out.2.1.symm (by rw [G.out.2.1]; exact hNb)
          have CC := Lib.hid (And.intro cA (And.intro cS cM))
          have hb7 := Lib.hid (gt hb6 (ga (gr w6) (.cells #[.int .i64 0, .int .i64 0] 35)))
          clear cA cS cM hb6
          go_loopw [64] (fun v64 wr => ∃ k : Nat, k ≤ N ∧ v64 = .int .i64 k ∧ Below W2.heap.size W2 wr) (fun v _ => N - (intOf v).toNat)
          case atStart => exact ⟨0, Nat.zero_le _, rfl, hb7.out⟩
          case round =>
            obtain ⟨k, hk, rfl, hb⟩ := hrel
            by_cases hlt : k < N
            · have hkl : k < all.length := by rw [← H0.out.2.2.2.2.1]; exact hlt
              obtain ⟨g, off, rfl, c1, c2⟩ := item_at (G2.out.1.below hb) F3.out.2.1 hkl
              obtain ⟨y, hy⟩ : ∃ y, y = all[k] := ⟨_, rfl⟩
              rw [← hy] at c1 c2
              have hki : (k : Int) < (N : Int) := by omega
              have hk0 : (0 : Int) ≤ (k : Int) := by omega
              have q7 : wrap64 ((k : Int) + 1) = (k : Int) + 1 := wrap_in (by omega) (by omega)
              have hlt' := Lib.hid (And.intro hlt hb)
              have cA := fun w hb => CC.out.1 w hb y
              have cS := fun w hb => CC.out.2.1 w hb y
              have cM := fun w hb => CC.out.2.2 w hb y
              obtain ⟨m, hm⟩ : ∃ m, m = all.count y := ⟨_, rfl⟩
              rw [← hm] at cA cS cM
              have DD := Lib.hid (And.intro cA (And.intro cS cM))
              clear hk hlt hkl hb hy hNb cA cS cM hm
              obtain ⟨y1, y2⟩ := y
              simp only at c1 c2
              have hb8 := gt hlt'.out.2 (ga (gr wr) (.cells #[.int .i64 y1, .int .i64 y2] 35))
              have B8 : Blk (wr.alloc (.cells #[.int .i64 y1, .int .i64 y2] 35)) wr.heap.size 35 [.int .i64 y1, .int .i64 y2] := Blk.new wr _ [_, _]
              go_wp2_with (first
                | (go_at_call 26; (with_reducible show Calls _ _ #[.slice (some ⟨g, off, none⟩) N ca, _] _ _); go_must (refine (DD.out.1 _ hb8).mono ?_); rintro e w8 ⟨rfl, hb9⟩; have hb10 := gt hb8 hb9; have B9 := B8.grow hb9; have d1 : w8.cell? ⟨wr.heap.size, 0, none⟩ = some (.int .i64 y1) := B9.cell 0; have d2 : w8.cell? ⟨wr.heap.size, 1, none⟩ = some (.int .i64 y2) := B9.cell 1)
                | (go_at_call 26; (with_reducible show Calls _ _ #[.slice As N cs, _] _ _); go_must (refine (DD.out.2.1 _ hb10).mono ?_); rintro e w9 ⟨rfl, hb11⟩; have hb12 := gt hb10 hb11; have B10 := B9.grow hb11; have d3 : w9.cell? ⟨wr.heap.size, 0, none⟩ = some (.int .i64 y1) := B10.cell 0; have d4 : w9.cell? ⟨wr.heap.size, 1, none⟩ = some (.int .i64 y2) := B10.cell 1)
                | (go_at_call 26; (with_reducible show Calls _ _ #[.slice Am N cm, _] _ _); go_must (refine (DD.out.2.2 _ hb12).mono ?_); rintro e w10 ⟨rfl, hb13⟩; have hb14 := gt hb12 hb13))
              go_roundw
              case rel => exact ⟨k + 1, hlt'.out.1, by go_num, hb14⟩
              case measure =>
                rw [q7]
                exact meas_in hlt'.out.1
            · obtain rfl : N = k := by omega
              have X := Lib.hid hb
              clear hk hlt hb hNb
              go_wp2
              go_ret
              exact ⟨rfl, G2.out.2.2.2.2.2.trans (X.out.mono G2.out.2.2.2.2.2.size)⟩
end Go.Proofs.Ytdebokambldbbaa.LawP
