/- weirlaw04.ShaMacs: the walk. -/
import Derived.Test.YtoemceehmiaigaaDoorMacRows
import Derived.Test.YtoemceehmiaigaaDoorLawHmacs
namespace Go.Proofs.YtoemceehmiaigaaDoor.LawMacs
open Go.RowKit Go.Proofs.YtoemceehmiaigaaDoor.Mem Go.Proofs.YtoemceehmiaigaaDoor.Loan Go.Proofs.YtoemceehmiaigaaDoor.Sha Go.Proofs.YtoemceehmiaigaaDoor.LawSums Go.Proofs.YtoemceehmiaigaaDoor.LawHashes
open Go.Proofs.YtoemceehmiaigaaDoor.LawHmacs (rvm2a rvm2b)
set_option linter.unusedVariables false

set_option maxHeartbeats 6400000 in
set_option maxRecDepth 100000 in
theorem law_any (A : Option Addr) (c : Nat) (ks : List Row) (C : Option Addr) (cc : Nat) (ss : List StepD) (w : World) (hk : RV w A (ks.flatMap Row.cells)) (hkp : ∀ r ∈ ks, r.ok w) (hkl : ks.length ≤ 1048576)
    (hr : RV w C (ss.flatMap StepD.cells)) (hp : ∀ s ∈ ss, s.ok w) (hl : ss.length ≤ 1048576) (hG : GB w) :
    Calls Tryd.prog 7 #[.slice A ks.length c, .slice C ss.length cc] w fun e w' => e = .returned (.bool true) ∧ Below w.heap.size w w' := by
  have HK := Lib.hid (And.intro hk hkp)
  have HR := Lib.hid (And.intro hr hp)
  have HG := Lib.hid hG
  clear hk hkp hr hp hG
  have kc := fun (w : World) (C : Array Value) (n c : Nat) => Lib.run_convert_bytes_const (P := Tryd.prog) w 32 5 C n c Tryd.underlying32 Tryd.underlying5
  have kc2 := fun (w : World) (C : Array Value) (n c g : Nat) (hg : g = w.heap.size) => Joins.run_convert_bytes_const_at (P := Tryd.prog) w 32 5 C n c g hg Tryd.underlying32 Tryd.underlying5
  have heqi : ∀ W, (Op.equalIn 10000 30 (.agg ((hmacf [107] [109]).map bv).toArray) (.agg ((hmacf [107] [109]).map bv).toArray)).run Tryd.prog W = .ok true W := fun W => dig_eqi _ W
  obtain ⟨d0, hd0⟩ : ∃ d, d = (hmacf [107] [109]).map bv := ⟨_, rfl⟩
  rw [← hd0] at heqi
  have hok1 : (newM [107]).ok 1 := ⟨fun e => (by simp [newM] at e), by simp [newM], by simp [newM]⟩
  obtain ⟨m1, hm1⟩ : ∃ m, m = (newM [107]).cells := ⟨_, rfl⟩
  obtain ⟨m2, hm2⟩ : ∃ m, m = ((newM [107]).wrote [109]).cells := ⟨_, rfl⟩
  have cN := Lib.hid (show ∀ W A c, RB W A [107] → 1 ≤ c → GB W → Calls Tryd.prog 30 #[.slice A 1 c] W fun e w' => e = .returned (.agg m1.toArray) ∧ Below W.heap.size W w' from fun W A c x1 x2 x3 => by
    rw [hm1]; exact macn [107] A 1 c W rfl x1 x2 (by decide) x3)
  have cW := Lib.hid (show ∀ W A c, RB W A [109] → 1 ≤ c → GB W → Calls Tryd.prog 31 #[.agg m1.toArray, .slice A 1 c] W fun e w' => e = .returned (.agg m2.toArray) ∧ Below W.heap.size W w' from fun W A c x1 x2 x3 => by
    rw [hm1, hm2]; exact macw (newM [107]) 1 hok1 [109] A 1 c W rfl x1 x2 x3 (by decide))
  have cS := Lib.hid (show ∀ W, GB W → Calls Tryd.prog 32 #[.agg m2.toArray] W fun e w' => e = .returned (.agg d0.toArray) ∧ Below W.heap.size W w' from fun W x => by
    rw [hm2, hd0]; exact macs ((newM [107]).wrote [109]) 2 (MacD.wrote_ok hok1 [109] (by simp [newM])) W x (by decide))
  obtain ⟨z0, hz0⟩ : ∃ z, z = mcell (List.replicate 64 0) [] := ⟨_, rfl⟩
  have hz0l : z0.length = (mcell (List.replicate 64 0) []).length := by rw [hz0]
  have hz0z : z0.length = zeroM.cells.length := by rw [hz0, zeroM_cells]
  have HD0 := Lib.hid (And.intro hd0 hz0)
  clear hd0 hok1 hm1 hm2 hz0
  obtain ⟨K, hK⟩ : ∃ K, K = ks.length := ⟨_, rfl⟩
  rw [← hK] at hkl ⊢
  have HKL := Lib.hid hK
  obtain ⟨L, hL⟩ : ∃ L, L = ss.length := ⟨_, rfl⟩
  rw [← hL] at hl ⊢
  have HL := Lib.hid hL
  clear hL hK
  have hkk : (K : Int) ≤ 9223372036854775807 := by omega
  have hll : (L : Int) ≤ 9223372036854775807 := by omega
  go_enter Tryd.func7, Tryd.ntmps7
  go_wp2_with (first
    | (go_at_call 30; go_must (refine (cN.out _ _ _ ((rvm_new w [bv 107] _ _).rb' [107] rfl) (by decide) (HG.out.grow (ga (gr w) _))).mono ?_); rintro e w1 ⟨rfl, hb1⟩)
    | (go_at_call 31; go_must (refine (cW.out _ _ _ ((rvm_new w1 [bv 109] _ _).rb' [109] rfl) (by decide) (HG.out.grow (ga (gt (ga (gr w) _) hb1) _))).mono ?_); rintro e w2 ⟨rfl, hb2⟩)
    | (go_at_call 32; go_must (refine (cS.out _ (HG.out.grow (gt (ga (gt (ga (gr w) _) hb1) _) hb2))).mono ?_); rintro e w3 ⟨rfl, hb3⟩)
    | (go_at_call 33; go_must (refine (rhmac_any [107] [109] _ _ 1 1 1 1 _ rfl rfl ((rvm2a w3 _ [bv 107] _ _).rb' [107] rfl) ((rvm2b w3 _ [bv 109] _ _).rb' [109] rfl) (by decide) (by decide)).mono ?_); rintro e w4 ⟨he, hb4⟩; rw [← HD0.out.1] at he; subst he)
    | ((with_reducible show wpList _ _ _ (⟨some 5, _, _, _, _, _⟩ :: _) _ _); go_must (refine wpList_allocB (op := ⟨some 5, _, _, _, _, _⟩) A57 rfl rfl w4.heap.size rfl ?_); intro w5 hB5 hb5 hz5; have q5 := hb5.size; have y5 := Nat.le_of_eq hz5.symm; clear hz5; rw [← HD0.out.2] at hB5)
    | ((with_reducible show wpList _ _ _ (⟨some 35, _, _, _, _, _⟩ :: _) _ _); go_must (refine wpList_loadB (op := ⟨some 35, _, _, _, _, _⟩) A57 rfl _ rfl w4.heap.size 0 rfl _ _ hB5 z0 (full hz0l) hz0l ?_))
    | ((with_reducible show wpList _ _ _ (⟨some 36, _, _, _, _, _⟩ :: _) _ _); go_must (refine wpList_build1 E60 rfl (.tmp 35) rfl (by rw [MacD.cells_length]; decide) z0 rfl hz0z w5.heap.size rfl ?_); intro w6 hB6 hb6 hz6; have q6 := hb6.size; have y6 := Nat.le_of_eq hz6.symm; clear hz6)
    | ((with_reducible show wpList _ _ _ (⟨some 37, _, _, _, _, _⟩ :: _) _ _); go_must (refine wpList_build1 E48 rfl _ rfl (by decide) [strV []] rfl rfl w6.heap.size rfl ?_); intro w7 hB7 hb7 hz7; have q7 := hb7.size; have y7 := Nat.le_of_eq hz7.symm; clear hz7)
    | ((with_reducible show wpList _ _ _ (⟨some 38, _, _, _, _, _⟩ :: _) _ _); go_must (refine wpList_build1 E61 rfl _ rfl (by decide) [.bool false] rfl rfl w7.heap.size rfl ?_); intro w8 hB8 hb8 hz8; have q8 := hb8.size; have y8 := Nat.le_of_eq hz8.symm; clear hz8)
    | ((with_reducible show wpList _ _ _ (⟨some 39, _, _, _, _, _⟩ :: _) _ _); go_must (refine wpList_build1 E48 rfl _ rfl (by decide) [strV []] rfl rfl w8.heap.size rfl ?_); intro w9 hB9 hb9 hz9; have q9 := hb9.size; have y9 := Nat.le_of_eq hz9.symm; clear hz9))
  have hX : MX w (.slice (some ⟨w5.heap.size, 0, none⟩) 1 1) (.slice (some ⟨w6.heap.size, 0, none⟩) 1 1) (.slice (some ⟨w7.heap.size, 0, none⟩) 1 1) (.slice (some ⟨w8.heap.size, 0, none⟩) 1 1) [zeroM] 0 w9 := by
    have h04 : Below w.heap.size w w4 := gt (ga (ga (gt (gt (ga (gt (ga (gr w) _) hb1) _) hb2) hb3) _) _) hb4
    have h49 : Below w4.heap.size w4 w9 := gt (gt (gt (gt hb5 hb6) hb7) hb8) hb9
    have q0 := h04.size
    refine ⟨Rowed.mk4 ?_ ?_ ?_ ?_ (.inr (.inr ?_)) (.inr (.inr ?_)) (.inr (.inr ?_)) (.inr (.inr ?_)) (.inr (.inr ?_)) (.inr (.inr ?_)) (gt h04 h49), ?_, by simp⟩
    · have : Blk w9 w5.heap.size 57 ([zeroM].flatMap MacD.cells) := by
        have h := (hB6.grow hb7).grow (gt hb8 hb9)
        rw [HD0.out.2, ← zeroM_cells] at h
        simpa using h
      exact own_made this (by omega) (by simp) (by decide)
    · exact own_made (cs := [strV []]) (hB7.grow (gt hb8 hb9)) (by omega) rfl (by decide)
    · exact own_made (cs := [.bool false]) (hB8.grow hb9) (by omega) rfl (by decide)
    · exact own_made (cs := [strV []]) hB9 (by omega) rfl (by decide)
    · simp [rowsM, Value.ownBlock]; omega
    · simp [rowsM, Value.ownBlock]; omega
    · simp [rowsM, Value.ownBlock]; omega
    · simp [rowsM, Value.ownBlock]; omega
    · simp [rowsM, Value.ownBlock]; omega
    · simp [rowsM, Value.ownBlock]; omega
    · intro m hm
      simp at hm
      subst hm
      exact ⟨fun _ => ⟨rfl, rfl, rfl⟩, by simp [zeroM], by simp [zeroM]⟩
  obtain ⟨v6, hv6⟩ : ∃ v, v = (.slice (some ⟨w5.heap.size, 0, none⟩) 1 1 : Value) := ⟨_, rfl⟩
  obtain ⟨v7, hv7⟩ : ∃ v, v = (.slice (some ⟨w6.heap.size, 0, none⟩) 1 1 : Value) := ⟨_, rfl⟩
  obtain ⟨v8, hv8⟩ : ∃ v, v = (.slice (some ⟨w7.heap.size, 0, none⟩) 1 1 : Value) := ⟨_, rfl⟩
  obtain ⟨v9, hv9⟩ : ∃ v, v = (.slice (some ⟨w8.heap.size, 0, none⟩) 1 1 : Value) := ⟨_, rfl⟩
  rw [← hv6, ← hv7, ← hv8, ← hv9] at hX ⊢
  have HX := Lib.hid hX
  clear hX hB5 hb5 q5 y5 hB6 hb6 q6 y6 hB7 hb7 q7 y7 hB8 hb8 q8 y8 hB9 hb9 q9 y9 hv6 hv7 hv8 hv9 hb1 hb2 hb3 hb4 kc kc2 heqi hz0l hz0z
  go_loopw [6, 7, 8, 9, 42] (fun v6 v7 v8 v9 v wr => ∃ (k : Nat) (ms : List MacD), k ≤ K ∧ v = .int .i64 k ∧ ms.length = k + 1 ∧ MX w v6 v7 v8 v9 ms 0 wr) (fun _ _ _ _ v _ => K - (intOf v).toNat)
  case atStart => exact ⟨0, [zeroM], by omega, rfl, by simp, HX.out⟩
  case round =>
    clear HX
    obtain ⟨k, ms, hk, rfl, hml, X⟩ := hrel
    by_cases hlt : k < K
    -- A>
    · have hks : k < ks.length := by have := HKL.out; omega
      have hlen : k < (ks.flatMap Row.cells).length := by rw [rows_map, List.length_map]; exact hks
      obtain ⟨ad, hA, hc⟩ := HK.out.1 k hlen
      obtain ⟨r, hrr⟩ : ∃ r, r = ks[k] := ⟨_, rfl⟩
      have hcell : wr.cell? (ad.add k) = some (.slice r.A r.l.length r.c) := (HK.out.1.below X.rows.low).cells hA k _ (by rw [rows_map, List.getElem?_map, List.getElem?_eq_getElem hks, hrr]; rfl)
      subst hA
      have hok0 := HK.out.2 r (by rw [hrr]; exact List.getElem_mem _)
      have hlt' : (k : Int) < (K : Int) := by omega
      have h0k : (0 : Int) ≤ (k : Int) := by omega
      obtain ⟨l, hll'⟩ : ∃ l, l = r.l := ⟨_, rfl⟩
      rw [← hll'] at hcell
      obtain ⟨pa, ca, l'⟩ := r
      simp only at hll' hcell
      subst hll'
      have hlb : l.length ≤ 1048576 := hok0.2.2
      have hcap : l.length ≤ ca := hok0.2.1
      have HOK0 := Lib.hid hok0.1
      obtain ⟨g6, c6, g7, c7, g8, c8, g9, c9, rfl, rfl, rfl, rfl, hcs, hgl, hgs, hgd⟩ := X.heads
      obtain ⟨n, hn⟩ : ∃ n, n = ms.length := ⟨_, rfl⟩
      rw [← hn] at hcs X ⊢
      have HML := Lib.hid hml
      have HX := Lib.hid X
      have HGS := Lib.hid (And.intro hn (And.intro hcs (And.intro hgl (And.intro hgs hgd))))
      have hnk : n ≤ 1048577 := by omega
      have hmk : ms.length ≤ 1048577 := by omega
      clear hc hlen hks hrr hok0 X hcs hgl hgs hgd hn hml
      obtain ⟨nm, hnm⟩ : ∃ x, x = (newM l).cells := ⟨_, rfl⟩
      have hnml : nm.length = zeroM.cells.length := by rw [hnm, MacD.cells_length, MacD.cells_length]
      have hnm1 : ∀ v ∈ nm, v.oneCell' = true := by rw [hnm]; exact MacD.one _
      have HNM := Lib.hid hnm
      clear hnm
      go_upto_region 12 with (first
        | (go_at_call 20; go_must (refine (lend_any pa ca l _ (HOK0.out.below HX.out.rows.low) (by omega)).mono ?_); rintro e w2 ⟨g, rfl, hgg, hBg, hb2⟩)
        | ((with_reducible show wpList _ _ _ (⟨some 12, _, _, _, _, _⟩ :: _) _ _); go_must (refine wpList_allocB (op := ⟨some 12, _, _, _, _, _⟩) A34 rfl rfl w2.heap.size rfl ?_); intro w3 hBw3 hbw3 hzw3)
        | ((with_reducible show wpList _ _ _ (⟨none, .store 34 (.tmp 12) _, _, _, _, _⟩ :: _) _ _); go_must (refine wpList_storeB (op := ⟨none, _, _, _, _, _⟩) A34 rfl _ _ rfl w2.heap.size 0 rfl (lcell g l.length) rfl rfl _ _ hBw3 (Nat.le_refl 2) (lcell_one _ _) ?_); intro w4 hBw4 hgw4 hzw4))
      obtain ⟨b12, hb12⟩ : ∃ b, b = w2.heap.size := ⟨_, rfl⟩
      rw [← hb12] at hBw4 ⊢
      have hr4 : Below wr.heap.size wr w4 := gst hb2 hbw3 hgw4 hb2.size
      have X : CY w b12 g l w4 := by
        have hb24 : Below w2.heap.size w2 w4 := (gt hbw3 (gr _)).grown hgw4 (by have := hbw3.size; omega) (fun j hj => by simp at hj; omega)
        exact ⟨by rw [splice_all [.slice none 0 0, .int .i64 0] (lcell g l.length) rfl] at hBw4; exact hBw4, hBg.grow hb24, gt HX.out.rows.low hr4, Nat.le_trans HX.out.rows.low.size hgg, by rw [hb12]; exact hBg.lt⟩
      have a1 := HX.out.rows.avoid (g := b12) (by rw [hb12]; exact hb2.size) hBw4.lt
      have a2 := HX.out.rows.avoid (g := g) hgg X.bytes.lt
      have HC := Lib.hid (And.intro (HX.out.rows.grow hr4) (And.intro X (And.intro a1 a2)))
      replace HX := Lib.hid HX.out.ok
      clear hgg hBg hb2 hBw3 hbw3 hzw3 hBw4 hgw4 hzw4 hb12 hr4 X a1 a2
      go_upto_region 13 with (first
        | ((with_reducible show wpList _ _ _ (⟨some 49, _, _, _, _, _⟩ :: _) _ _); go_must (refine wpList_loadB (op := ⟨some 49, _, _, _, _, _⟩) A34 rfl _ rfl b12 0 rfl _ _ HC.out.2.1.loan (lcell g l.length) rfl rfl ?_))
        | (go_at_call 22; go_must (refine (in_any (some ⟨g, 0, none⟩) (l.length + 200) (l.length + 200) l.length _ (by omega) (by unfold maxLen; omega)).mono ?_); rintro e w5 ⟨rfl, hb5⟩)
        | (go_at_call 30; go_must (refine (macn l (some ⟨g, 0, none⟩) l.length (l.length + 200) _ rfl (marked_rb (HC.out.2.1.grow hb5).bytes) (by omega) (by omega) (HG.out.grow (HC.out.2.1.grow hb5).low)).mono ?_); rintro e w6 ⟨he, hb6⟩; rw [← HNM.out] at he; subst he)
        | ((with_reducible show wpList _ _ _ (⟨some 52, _, _, _, _, _⟩ :: _) _ _); go_must (refine wpList_build1 E60 rfl (.tmp 51) rfl (by rw [MacD.cells_length]; decide) nm rfl hnml w6.heap.size rfl ?_); intro w7 hBw7 hbw7 hzw7; clear hzw7)
        | ((with_reducible show wpList _ _ _ (⟨some 53, _, _, _, _, _⟩ :: _) _ _); go_must (refine wpList_push E60 rfl (.tmp 48) (.tmp 52) rfl (HC.out.1.grow (gt (gt hb5 hb6) hbw7)) 0 rfl rfl w6.heap.size rfl hBw7 hnml hnm1 (by unfold maxLen; omega) (by omega) ?_); intro u6 w8 hRw8 hpw8))
      have h47 := gt (gt hb5 hb6) hbw7
      have C8 := (HC.out.2.1.grow h47).pushed (HC.out.1.grow h47) hpw8 (HC.out.2.2.1.grow h47.size) (HC.out.2.2.2.grow h47.size)
      have a1 := hpw8.avoid (HC.out.2.2.2.grow h47.size) (T := 57) (size := zeroM.cells.length) (n := ms.length + 1) (xs := ms.flatMap MacD.cells ++ nm)
      replace HC := Lib.hid (And.intro hRw8 (And.intro C8 a1))
      clear hb5 hb6 hBw7 hbw7 h47 C8 a1 hRw8 hpw8
      go_upto_region 16 with (first
        | ((with_reducible show wpList _ _ _ (⟨some 54, _, _, _, _, _⟩ :: _) _ _); go_must (refine wpList_loadB (op := ⟨some 54, _, _, _, _, _⟩) A34 rfl _ rfl b12 0 rfl _ _ HC.out.2.1.loan (lcell g l.length) rfl rfl ?_))
        | (go_at_call 23; go_must (refine (whole_any g (l.length + 200) l mtail pa ca l _ HC.out.2.1.bytes (by rw [List.length_append, mtail_length]) (by unfold maxLen; omega) marked_tail (HOK0.out.below HC.out.2.1.low) (by unfold maxLen; omega)).mono ?_); rintro e w9 ⟨rfl, hb9⟩)
        | ((with_reducible show wpList _ _ _ (⟨some 58, _, _, _, _, _⟩ :: _) _ _); go_must (refine wpList_loadB (op := ⟨some 58, _, _, _, _, _⟩) A34 rfl _ rfl b12 0 rfl _ _ (HC.out.2.1.grow hb9).loan (lcell g l.length) rfl rfl ?_))
        | (go_at_call 24; go_must (refine (spoil_any g (l.length + 200) l mtail _ (HC.out.2.1.grow hb9).bytes (by omega) (by unfold maxLen; omega)).mono ?_); rintro e w10 ⟨rfl, hB10, hg10⟩))
      have R10 := (HC.out.1.grow hb9).by_av (HC.out.2.2.grow hb9.size) hg10 HC.out.2.1.hg
      have k62 := conv_rb (P := Tryd.prog) (w := w10) (src := 32) (dst := 9) (e := 5) Tryd.underlying32 Tryd.underlying5 Tryd.underlying9 (HOK0.out.below R10.low) ca
      replace HC := Lib.hid R10
      clear R10 hb9 hB10 hg10
      go_upto_region 17 with (first
        | ((with_reducible show wpList _ _ _ (⟨some 63, _, _, _, _, _⟩ :: _) _ _); go_must (refine wpList_build1 E48 rfl (.tmp 62) rfl (by decide) [strV l] rfl rfl w10.heap.size rfl ?_); intro w11 hBw11 hbw11 hzw11; clear hzw11)
        | ((with_reducible show wpList _ _ _ (⟨some 64, _, _, _, _, _⟩ :: _) _ _); go_must (refine wpList_push E48 rfl (.tmp 60) (.tmp 63) rfl (HC.out.grow hbw11) 1 rfl rfl w10.heap.size rfl hBw11 rfl (by simp [strV, Value.oneCell']) (by unfold maxLen; omega) (by omega) ?_); intro u7 w12 hRw12 hpw12))
      clear k62
      go_upto_region 19 with (first
        | ((with_reducible show wpList _ _ _ (⟨some 66, _, _, _, _, _⟩ :: _) _ _); go_must (refine wpList_build1 E48 rfl _ rfl (by decide) [strV []] rfl rfl w12.heap.size rfl ?_); intro w13 hBw13 hbw13 hzw13; clear hzw13)
        | ((with_reducible show wpList _ _ _ (⟨some 67, _, _, _, _, _⟩ :: _) _ _); go_must (refine wpList_push E48 rfl (.tmp 65) (.tmp 66) rfl (hRw12.grow hbw13) 3 rfl rfl w12.heap.size rfl hBw13 rfl (by simp [strV, Value.oneCell']) (by unfold maxLen; omega) (by omega) ?_); intro u9 w14 hRw14 hpw14)
        | ((with_reducible show wpList _ _ _ (⟨some 69, _, _, _, _, _⟩ :: _) _ _); go_must (refine wpList_build1 E61 rfl _ rfl (by decide) [.bool true] rfl rfl w14.heap.size rfl ?_); intro w15 hBw15 hbw15 hzw15; clear hzw15)
        | ((with_reducible show wpList _ _ _ (⟨some 70, _, _, _, _, _⟩ :: _) _ _); go_must (refine wpList_push E61 rfl (.tmp 68) (.tmp 69) rfl (hRw14.grow hbw15) 2 rfl rfl w14.heap.size rfl hBw15 rfl (by simp [strV, Value.oneCell']) (by unfold maxLen; omega) (by omega) ?_); intro u8 w16 hRw16 hpw16))
      have XX : MX w u6 u7 u8 u9 (ms ++ [newM l]) 0 w16 := by
        refine ⟨?_, ?_, by simp⟩
        · rw [HNM.out] at hRw16
          rw [← rows_snoc _ _ _ _ u6 u7 u8 u9 ms (newM l)]
          exact hRw16
        · intro m hm
          rcases List.mem_append.1 hm with hm | hm
          · exact HX.out m hm
          · simp at hm
            subst hm
            exact ⟨fun e => (by simp [newM] at e), hlb, by simp [newM]⟩
      clear hRw12 hpw12 hBw11 hbw11 hBw13 hbw13 hRw14 hpw14 hBw15 hbw15 hRw16 hpw16
      have XX := Lib.hid XX
      go_wp2
      exact ⟨⟨k + 1, ms ++ [newM l], by omega, by go_num, by have := HML.out; simp; omega, XX.out⟩, by simp [intOf]; omega⟩
    -- <A
    · obtain rfl : k = K := by omega
      clear hlt hk
      have HX := Lib.hid X
      clear X
      have hml' : ms.length ≤ 1048577 := by omega
      clear hml
      go_wp2_with fail
      go_loopw [6, 7, 8, 9, 74] (fun v6 v7 v8 v9 v wr => ∃ (k2 : Nat) (ms : List MacD), k2 ≤ L ∧ v = .int .i64 k2 ∧ ms.length ≤ k2 + 1048577 ∧ MX w v6 v7 v8 v9 ms (k2 * 1048576) wr) (fun _ _ _ _ v _ => L - (intOf v).toNat)
      case atStart => exact ⟨0, ms, by omega, rfl, by omega, by rw [Nat.zero_mul]; exact HX.out⟩
      case round =>
        clear HX hml' ms
        obtain ⟨k, ms, hk, rfl, hml, X⟩ := hrel
        by_cases hlt : k < L
        -- B>
        · have hs4 : ∀ s ∈ ss, (StepD.cells s).length = 4 := fun _ _ => rfl
          have hks : k < ss.length := by have := HL.out; omega
          obtain ⟨s, hsk⟩ : ∃ s, s = ss[k] := ⟨_, rfl⟩
          have hrv := HR.out.1.below X.rows.low
          have f0 := flat_at StepD.cells 4 ss k 0 hks hs4 (by decide)
          have f1 := flat_at StepD.cells 4 ss k (0 + 1) hks hs4 (by decide)
          have f2 := flat_at StepD.cells 4 ss k (1 + 1) hks hs4 (by decide)
          have f3 := flat_at StepD.cells 4 ss k (2 + 1) hks hs4 (by decide)
          rw [← hsk] at f0 f1 f2 f3
          obtain ⟨ad, hA⟩ : ∃ ad, C = some ad := by obtain ⟨ad, e, _⟩ := hrv (k * 4 + 0) (List.getElem?_eq_some_iff.1 f0).1; exact ⟨ad, e⟩
          have hok0 := HR.out.2 s (by rw [hsk]; exact List.getElem_mem _)
          have c0 := hrv.cells hA _ _ f0
          have c1 := cell_next (hrv.cells hA _ _ f1)
          have c2 := cell_next (hrv.cells hA _ _ f2)
          have c3 := cell_next (hrv.cells hA _ _ f3)
          subst hA
          obtain ⟨kind, fr, tt, sA, sc, p⟩ := s
          simp only [Nat.add_zero, Nat.zero_add, Nat.reduceAdd] at c0 c1 c2 c3
          have h0k : (0 : Int) ≤ (k : Int) := by omega
          have hkl : (k : Int) < (L : Int) := by omega
          have hms : ms.length ≤ 2097153 := by omega
          have hpos := X.pos
          obtain ⟨g6, c6, g7, c7, g8, c8, g9, c9, rfl, rfl, rfl, rfl, hcs, hgl, hgs, hgd⟩ := X.heads
          obtain ⟨n, hn⟩ : ∃ n, n = ms.length := ⟨_, rfl⟩
          obtain ⟨i, hi⟩ : ∃ i, i = placeN fr n := ⟨_, rfl⟩
          obtain ⟨j, hj⟩ : ∃ j, j = placeN tt n := ⟨_, rfl⟩
          have him : i < n := by rw [hi]; exact placeN_lt _ _ (by omega)
          have hjm : j < n := by rw [hj]; exact placeN_lt _ _ (by omega)
          rw [← hn] at hcs X ⊢
          have hc6 : n ≤ c6 ∧ c6 ≤ maxLen := ⟨hcs.1, hcs.2.1⟩
          have hin : (i : Int) < (n : Int) := by omega
          have hjn : (j : Int) < (n : Int) := by omega
          have hi0 : (0 : Int) ≤ (i : Int) := by omega
          have hj0 : (0 : Int) ≤ (j : Int) := by omega
          have hnm : n ≤ 2097153 := by omega
          have hpl : p.length ≤ 1048576 := hok0.2.2.1
          have hpc : p.length ≤ sc := hok0.2.1
          obtain ⟨mi, hmi⟩ : ∃ x, ms[i]? = some x := ⟨_, List.getElem?_eq_getElem (by omega)⟩
          have hmok := X.ok mi (List.mem_of_getElem? hmi)
          obtain ⟨ci, hci⟩ : ∃ x, x = mi.cells := ⟨_, rfl⟩
          have hcil : ci.length = (mcell (List.replicate 64 0) []).length := by rw [hci, MacD.cells_length, mcell_length _ _ (by simp)]
          have hci1 : ∀ v ∈ ci, v.oneCell' = true := by rw [hci]; exact MacD.one _
          have hkl' : mi.k.length ≤ 1048576 := hmok.2.1
          have hbl' : mi.b.length ≤ k * 1048576 := hmok.2.2
          have HX := Lib.hid X
          have HN := Lib.hid (And.intro hn (And.intro hi hj))
          have HMI := Lib.hid (And.intro hmi (And.intro hmok hci))
          have HOK := Lib.hid hok0
          have HGS := Lib.hid (And.intro hgl (And.intro hgs hgd))
          clear hrv f0 f1 f2 f3 hs4 hks hsk hok0 hn hi hj X hcs hgl hgs hgd hpos hlt hmi hmok hci hc6
          go_upto_region 23 with fail
          obtain ⟨w4, hw4⟩ : ∃ x, x = wr.alloc (.cells #[.int .i64 kind, .int .i64 fr, .int .i64 tt, .slice sA p.length sc] 50) := ⟨_, rfl⟩
          rw [← hw4]
          have hb4 : Below wr.heap.size wr w4 := by rw [hw4]; exact ga (gr wr) _
          obtain ⟨b14, hb14⟩ : ∃ b, b = wr.heap.size := ⟨_, rfl⟩
          have hB14 : Blk w4 b14 50 [.int .i64 kind, .int .i64 fr, .int .i64 tt, .slice sA p.length sc] := by rw [hw4, hb14]; exact Blk.new wr _ _
          have a14 := HX.out.rows.avoid (g := b14) (by omega) hB14.lt
          rw [← hb14]
          have HS := Lib.hid (And.intro hB14 a14)
          replace HX := Lib.hid (HX.out.grow hb4)
          clear hw4 hb4 hb14 hB14 a14 c0 c1 c2 c3
          try simp only [Act.put, List.setIfInBounds_toArray, List.set_cons_succ, List.set_cons_zero]
          refine wp_region_qb (by kernel_rfl) (by kernel_rfl) ?_
          refine wq_val (o := ⟨some 78, _, _, _, _, _⟩) (v := .pointer (some ⟨b14, 1, none⟩)) rfl (fun w' hC => by go_simp) ?_
          simp only [Act.put, List.setIfInBounds_toArray, List.set_cons_succ, List.set_cons_zero]
          refine wq_val (o := ⟨some 79, _, _, _, _, _⟩) (v := .int .i64 fr) rfl (fun w' hC => by have c := (From.blk hC HS.out.1).cell 1; simp only [List.getElem?_cons_succ, List.getElem?_cons_zero] at c; go_simp) ?_
          simp only [Act.put, List.setIfInBounds_toArray, List.set_cons_succ, List.set_cons_zero]
          go_big_quiet_step (fail)
          refine wq_val (o := ⟨some 81, _, _, _, _, _⟩) (v := .int .i64 (n : Int)) rfl (fun w' hC => by go_simp) ?_
          simp only [Act.put, List.setIfInBounds_toArray, List.set_cons_succ, List.set_cons_zero]
          refine wq_call (f := 28) (args := #[.int .i64 fr, .int .i64 (n : Int)]) (v := .int .i64 (i : Int)) rfl (fun w' _ => by go_simp) (fun w' hC => ?_) ?_
          · rw [HN.out.2.1]
            exact (place_any fr n HOK.out.2.2.2.1 (by omega) (by omega) w').mono fun e w'' h => ⟨h.1, by rw [h.2]; exact gr _⟩
          simp only [Act.put, List.setIfInBounds_toArray, List.set_cons_succ, List.set_cons_zero]
          refine wq_val (o := ⟨some 83, _, _, _, _, _⟩) (v := .pointer (some ⟨b14, 2, none⟩)) rfl (fun w' hC => by go_simp) ?_
          simp only [Act.put, List.setIfInBounds_toArray, List.set_cons_succ, List.set_cons_zero]
          refine wq_val (o := ⟨some 84, _, _, _, _, _⟩) (v := .int .i64 tt) rfl (fun w' hC => by have c := (From.blk hC HS.out.1).cell 2; simp only [List.getElem?_cons_succ, List.getElem?_cons_zero] at c; go_simp) ?_
          simp only [Act.put, List.setIfInBounds_toArray, List.set_cons_succ, List.set_cons_zero]
          go_big_quiet_step (fail)
          refine wq_val (o := ⟨some 86, _, _, _, _, _⟩) (v := .int .i64 (n : Int)) rfl (fun w' hC => by go_simp) ?_
          simp only [Act.put, List.setIfInBounds_toArray, List.set_cons_succ, List.set_cons_zero]
          refine wq_call (f := 28) (args := #[.int .i64 tt, .int .i64 (n : Int)]) (v := .int .i64 (j : Int)) rfl (fun w' _ => by go_simp) (fun w' hC => ?_) ?_
          · rw [HN.out.2.2]
            exact (place_any tt n HOK.out.2.2.2.2 (by omega) (by omega) w').mono fun e w'' h => ⟨h.1, by rw [h.2]; exact gr _⟩
          simp only [Act.put, List.setIfInBounds_toArray, List.set_cons_succ, List.set_cons_zero]
          go_big_quiet_step (fail)
          go_big_quiet_step (fail)
          refine wpQuiet_nil ?_
          intro w5 h5
          replace HX := Lib.hid (HX.out.grow h5)
          replace HS := Lib.hid (And.intro (HS.out.1.grow h5) (HS.out.2.grow h5.size))
          clear h5
          obtain ⟨cur6, hB6, hp6⟩ := HX.out.mac'
          have hq6 : (cur6.drop (i * 137)).take (mcell (List.replicate 64 0) []).length = ci := by rw [hp6 i mi HMI.out.1, HMI.out.2.2]
          have HB6 := Lib.hid (And.intro hB6 hq6)
          clear hB6 hp6 hq6
          go_upto_region 25 with (first
            | ((with_reducible show wpList _ _ _ (⟨some 91, _, _, _, _, _⟩ :: _) _ _); go_must (refine wpList_loadB (op := ⟨some 91, _, _, _, _, _⟩) A57 rfl _ rfl g6 (i * 137) rfl _ _ HB6.out.1 ci HB6.out.2 hcil ?_))
            | ((with_reducible show wpList _ _ _ (⟨some 17, _, _, _, _, _⟩ :: _) _ _); go_must (refine wpList_allocB (op := ⟨some 17, _, _, _, _, _⟩) A57 rfl rfl w5.heap.size rfl ?_); intro w6 hBw6 hbw6 hzw6)
            | ((with_reducible show wpList _ _ _ (⟨none, .store 57 (.tmp 17) _, _, _, _, _⟩ :: _) _ _); go_must (refine wpList_storeB (op := ⟨none, _, _, _, _, _⟩) A57 rfl _ _ rfl w5.heap.size 0 rfl ci rfl hcil _ _ hBw6 (Nat.le_of_eq ((Nat.zero_add _).trans hcil)) hci1 ?_); intro w7 hBw7 hgw7 hzw7; rw [splice_all _ _ hcil] at hBw7))
          have h57 : Below w5.heap.size w5 w7 := gst (gr w5) hbw6 hgw7 (Nat.le_refl _)
          obtain ⟨b17, hb17⟩ : ∃ b, b = w5.heap.size := ⟨_, rfl⟩
          rw [← hb17] at hBw7 ⊢
          replace HX := Lib.hid (HX.out.grow h57)
          replace HS := Lib.hid (And.intro (HS.out.1.grow h57) (And.intro (HS.out.2.grow h57.size) hBw7))
          have c0 := HS.out.1.cell 0
          simp only [List.getElem?_cons_zero] at c0
          clear hBw6 hbw6 hzw6 hBw7 hgw7 hzw7 h57 hb17 HB6
          go_upto_region 26 with fail
          clear c0
          by_cases k0 : kind = 0
          -- C>
          · subst k0
            have c3 := HS.out.1.cell 3
            simp only [List.getElem?_cons_succ, List.getElem?_cons_zero] at c3
            go_upto_region 28 with (first
              | (go_at_call 20; go_must (refine (lend_any sA sc p _ (HOK.out.1.below HX.out.rows.low) (by omega)).mono ?_); rintro e w8 ⟨g, rfl, hgg, hBg, hb8⟩)
              | ((with_reducible show wpList _ _ _ (⟨some 18, _, _, _, _, _⟩ :: _) _ _); go_must (refine wpList_allocB (op := ⟨some 18, _, _, _, _, _⟩) A34 rfl rfl w8.heap.size rfl ?_); intro w9 hBw9 hbw9 hzw9)
              | ((with_reducible show wpList _ _ _ (⟨none, .store 34 (.tmp 18) _, _, _, _, _⟩ :: _) _ _); go_must (refine wpList_storeB (op := ⟨none, _, _, _, _, _⟩) A34 rfl _ _ rfl w8.heap.size 0 rfl (lcell g p.length) rfl rfl _ _ hBw9 (Nat.le_refl 2) (lcell_one _ _) ?_); intro w10 hBw10 hgw10 hzw10))
            obtain ⟨b18, hb18⟩ : ∃ b, b = w8.heap.size := ⟨_, rfl⟩
            rw [← hb18] at hBw10 ⊢
            have h710 : Below w7.heap.size w7 w10 := gst hb8 hbw9 hgw10 hb8.size
            have X : CY w b18 g p w10 := by
              have hb24 : Below w8.heap.size w8 w10 := (gt hbw9 (gr _)).grown hgw10 (by have := hbw9.size; omega) (fun j hj => by simp at hj; omega)
              exact ⟨by rw [splice_all [.slice none 0 0, .int .i64 0] (lcell g p.length) rfl] at hBw10; exact hBw10, hBg.grow hb24, gt HX.out.rows.low h710, Nat.le_trans HX.out.rows.low.size hgg, by rw [hb18]; exact hBg.lt⟩
            have hbg : b14 < g := by have := HS.out.1.lt; omega
            have a18 := HX.out.rows.avoid (g := b18) (by rw [hb18]; exact hb8.size) hBw10.lt
            have ag := HX.out.rows.avoid (g := g) hgg X.bytes.lt
            replace HX := Lib.hid (HX.out.grow h710)
            replace HS := Lib.hid (And.intro (HS.out.1.grow h710) (And.intro (HS.out.2.1.grow h710.size) (HS.out.2.2.grow h710)))
            have HC := Lib.hid (And.intro X (And.intro a18 ag))
            obtain ⟨nc, hnc⟩ : ∃ x, x = (mi.wrote p).cells := ⟨_, rfl⟩
            have hncl : nc.length = (mcell (List.replicate 64 0) []).length := by rw [hnc, MacD.cells_length, mcell_length _ _ (by simp)]
            have hncz : nc.length = zeroM.cells.length := by rw [hnc, MacD.cells_length, MacD.cells_length]
            have hnc1 : ∀ v ∈ nc, v.oneCell' = true := by rw [hnc]; exact MacD.one _
            have HNC := Lib.hid hnc
            clear hgg hBg hb8 hBw9 hbw9 hzw9 hBw10 hgw10 hzw10 hb18 h710 X hnc c3 a18 ag
            try simp only [Act.put, List.setIfInBounds_toArray, List.set_cons_succ, List.set_cons_zero]
            refine wp_region_rrT (fun a b => Below a.heap.size a b) (fun _ _ _ h g => gt h g) (fun _ _ h => h.size) (fun a => (gr a).drew) 5
              [.eq 99 (.agg ci.toArray), .eq 100 (.agg (lcell g p.length).toArray), .eq 101 (.slice (some ⟨g, 0, none⟩) p.length (p.length + 200)), .eq 102 (.agg nc.toArray), .new 19 (NewPtr w10.heap.size 57 (mcell (List.replicate 64 0) []))]
              (by kernel_rfl) (by kernel_rfl) (by kernel_rfl) (by kernel_rfl) ?hstc ?hobc ?hfinc
            case hstc =>
              intro s hs
              simp only [List.mem_cons, List.not_mem_nil, or_false] at hs
              rcases hs with rfl | rfl | rfl | rfl | rfl
              · exact fun _ _ _ h _ => h
              · exact fun _ _ _ h _ => h
              · exact fun _ _ _ h _ => h
              · exact fun _ _ _ h _ => h
              · rintro vs w1 w2 ⟨v, rfl, h⟩ hb
                exact ⟨_, rfl, NewPtr.stable h hb⟩
            case hobc =>
              simp only [List.take_succ_cons, List.take_zero]
              refine rrs_cons ?_ (rrs_cons ?_ (rrs_cons ?_ (rrs_cons ?_ (rrs_cons ?_ rrs_nil))))
              · refine rr_wp (by decide) (by rfl) fun x w' A hg hp hA K' hK' => ?_
                have e17 := hA 17
                simp [rgDsts] at e17
                refine wp_loadB A57 _ rfl b17 0 ?_ _ _ (HS.out.2.2.grow hg) ci (full hcil) hcil ?_
                · simpa [Act.eval] using e17
                · exact hK' _ _ (gr _) (by simp) (by simp)
              · refine rr_wp (by decide) (by rfl) fun x w' A hg hp hA K' hK' => ?_
                have e18 := hA 18
                simp [rgDsts] at e18
                refine wp_loadB A34 _ rfl b18 0 ?_ _ _ (HC.out.1.loan.grow hg) (lcell g p.length) rfl rfl ?_
                · simpa [Act.eval] using e18
                · exact hK' _ _ (gr _) (by simp) (by simp)
              · refine rr_call (by decide) (by rfl) fun x w' A hg hp hA => ?_
                have h100 := rg_pred_eq (d := 100) hp 0 rfl rfl rfl
                have e100 := (hA.at_ 100 rfl).trans h100
                refine ⟨22, #[.agg (lcell g p.length).toArray], ?_, ?_⟩
                · go_simp
                · refine (show Calls Tryd.prog 22 #[.agg (lcell g p.length).toArray] w' fun e w'' => e = .returned (.slice (some ⟨g, 0, none⟩) p.length (p.length + 200)) ∧ Below w'.heap.size w' w'' from in_any (some ⟨g, 0, none⟩) (p.length + 200) (p.length + 200) p.length w' (by omega) (by unfold maxLen; omega)).mono ?_
                  rintro e w'' ⟨rfl, hb⟩
                  exact ⟨_, rfl, hb, by simp, by simp⟩
              · refine rr_call (by decide) (by rfl) fun x w' A hg hp hA => ?_
                have h99 := rg_pred_eq (d := 99) hp 0 rfl rfl rfl
                have h101 := rg_pred_eq (d := 101) hp 1 rfl rfl rfl
                have e99 := (hA.at_ 99 rfl).trans h99
                have e101 := (hA.at_ 101 rfl).trans h101
                refine ⟨31, #[.agg ci.toArray, .slice (some ⟨g, 0, none⟩) p.length (p.length + 200)], ?_, ?_⟩
                · go_simp
                · refine (show Calls Tryd.prog 31 #[.agg ci.toArray, .slice (some ⟨g, 0, none⟩) p.length (p.length + 200)] w' fun e w'' => e = .returned (.agg nc.toArray) ∧ Below w'.heap.size w' w'' from by rw [HMI.out.2.2, HNC.out]; exact macw mi (k * 1048576) HMI.out.2.1 p (some ⟨g, 0, none⟩) p.length (p.length + 200) w' rfl (marked_rb (HC.out.1.grow hg).bytes) (by omega) (HG.out.grow (HC.out.1.grow hg).low) (by omega)).mono ?_
                  rintro e w'' ⟨rfl, hb⟩
                  exact ⟨_, rfl, hb, by simp, by simp⟩
              · exact rr_alloc A57 (by decide) rfl rfl rfl
            case hfinc =>
            intro x w11 hg hall hap
            simp only [RgAll, holds_eq, holds_new, holds_one, and_true] at hall
            obtain ⟨h99, h100, h101, h102, h19⟩ := hall
            obtain ⟨b19, h19, hb19, hB19⟩ := h19
            simp only [rgDsts, List.take_succ_cons, List.take_zero, List.filterMap_cons, List.filterMap_nil, putMany, List.foldl_cons, List.foldl_nil, List.setIfInBounds_toArray, List.set_cons_succ, List.set_cons_zero, List.drop_succ_cons, List.drop_zero, h99, h100, h101, h102, h19]
            clear h99 h100 h101 h102 h19
            go_upto_region 29 with (first
              | ((with_reducible show wpList _ _ _ (⟨none, .store 57 (.tmp 19) _, _, _, _, _⟩ :: _) _ _); go_must (refine wpList_storeB (op := ⟨none, _, _, _, _, _⟩) A57 rfl _ _ rfl b19 0 rfl nc rfl hncl _ _ hB19 (Nat.le_of_eq ((Nat.zero_add _).trans hncl)) hnc1 ?_); intro w12 hBw12 hgw12 hzw12; rw [splice_all _ _ hncl] at hBw12))
            have h1012 : Below w10.heap.size w10 w12 := hg.grown hgw12 hg.size (fun j hj => by simp at hj; omega)
            have a19 := HX.out.rows.avoid (g := b19) hb19 hBw12.lt
            replace HX := Lib.hid (HX.out.grow h1012)
            replace HS := Lib.hid (And.intro (HS.out.1.grow h1012) (And.intro (HS.out.2.1.grow h1012.size) (And.intro hBw12 a19)))
            have hb19g : b19 ≠ g ∧ b14 ≠ g := by have := HC.out.1.bytes.lt; omega
            replace HC := Lib.hid (And.intro (HC.out.1.grow h1012) (And.intro (HC.out.2.1.grow h1012.size) (HC.out.2.2.grow h1012.size)))
            have c3 := HS.out.1.cell 3
            simp only [List.getElem?_cons_succ, List.getElem?_cons_zero] at c3
            clear hg hap hb19 hB19 hBw12 hgw12 hzw12 h1012 a19
            go_upto_region 32 with (first
              | ((with_reducible show wpList _ _ _ (⟨some 103, _, _, _, _, _⟩ :: _) _ _); go_must (refine wpList_loadB (op := ⟨some 103, _, _, _, _, _⟩) A34 rfl _ rfl b18 0 rfl _ _ HC.out.1.loan (lcell g p.length) rfl rfl ?_))
              | (go_at_call 23; go_must (refine (whole_any g (p.length + 200) p mtail sA sc p _ HC.out.1.bytes (by rw [List.length_append, mtail_length]) (by unfold maxLen; omega) marked_tail (HOK.out.1.below HC.out.1.low) (by unfold maxLen; omega)).mono ?_); rintro e w13 ⟨rfl, hb13⟩)
              | ((with_reducible show wpList _ _ _ (⟨some 108, _, _, _, _, _⟩ :: _) _ _); go_must (refine wpList_loadB (op := ⟨some 108, _, _, _, _, _⟩) A34 rfl _ rfl b18 0 rfl _ _ (HC.out.1.grow hb13).loan (lcell g p.length) rfl rfl ?_))
              | (go_at_call 24; go_must (refine (spoil_any g (p.length + 200) p mtail _ (HC.out.1.grow hb13).bytes (by omega) (by unfold maxLen; omega)).mono ?_); rintro e w14 ⟨rfl, hB14', hg14⟩))
            have R14 := (HX.out.grow hb13).rows.by_av (HC.out.2.2.grow hb13.size) hg14 HC.out.1.hg
            have hB14 := (HS.out.1.grow hb13).grown hg14 (by simp; exact hb19g.2)
            have hB19 := (HS.out.2.2.1.grow hb13).grown hg14 (by simp; exact hb19g.1)
            have a14 := (HS.out.2.1.grow hb13.size).grow hg14.size
            have a19 := (HS.out.2.2.2.grow hb13.size).grow hg14.size
            have HXO := Lib.hid (And.intro HX.out.ok HX.out.pos)
            replace HX := Lib.hid R14
            replace HS := Lib.hid (And.intro hB14 (And.intro a14 (And.intro hB19 a19)))
            clear R14 hB14 hB19 a14 a19 hb13 hB14' hg14 c3 hb19g HC hbg
            go_upto_region 33 with (first
              | ((with_reducible show wpList _ _ _ (⟨some 111, _, _, _, _, _⟩ :: _) _ _); go_must (refine wpList_loadB (op := ⟨some 111, _, _, _, _, _⟩) A57 rfl _ rfl b19 0 rfl _ _ HS.out.2.2.1 nc (full hncl) hncl ?_))
              | ((with_reducible show wpList _ _ _ (⟨some 112, _, _, _, _, _⟩ :: _) _ _); go_must (refine wpList_build1 E60 rfl (.tmp 111) rfl (by rw [MacD.cells_length]; decide) nc rfl hncz w14.heap.size rfl ?_); intro w15 hBw15 hbw15 hzw15; clear hzw15)
              | ((with_reducible show wpList _ _ _ (⟨some 113, _, _, _, _, _⟩ :: _) _ _); go_must (refine wpList_push E60 rfl (.tmp 110) (.tmp 112) rfl (HX.out.grow hbw15) 0 rfl rfl w14.heap.size rfl hBw15 hncz hnc1 (by unfold maxLen; omega) (by omega) ?_); intro u6 w16 hRw16 hpw16))
            have hB14 := hpw16.blk (HS.out.2.1.grow hbw15.size) (HS.out.1.grow hbw15)
            have a14 := hpw16.avoid (HS.out.2.1.grow hbw15.size) (T := 57) (size := zeroM.cells.length) (n := ms.length + 1) (xs := ms.flatMap MacD.cells ++ nc)
            have q7 := own_cell' (show w16.ownsRow w.heap.size 9 1 (.slice (some ⟨g7, 0, none⟩) n c7) ms.length (ms.map fun m => strV m.k) from hRw16.own 1 _ rfl) HMI.out.1
            simp only [strV] at q7
            replace HX := Lib.hid hRw16
            replace HS := Lib.hid (And.intro hB14 a14)
            clear hBw15 hbw15 hRw16 hpw16 hB14 a14
            go_upto_region 34 with (first
              | ((with_reducible show wpList _ _ _ (⟨some 119, _, _, _, _, _⟩ :: _) _ _); go_must (refine wpList_build1 E48 rfl (.tmp 118) rfl (by decide) [strV mi.k] rfl rfl w16.heap.size rfl ?_); intro w17 hBw17 hbw17 hzw17; clear hzw17)
              | ((with_reducible show wpList _ _ _ (⟨some 120, _, _, _, _, _⟩ :: _) _ _); go_must (refine wpList_push E48 rfl (.tmp 114) (.tmp 119) rfl (HX.out.grow hbw17) 1 rfl rfl w16.heap.size rfl hBw17 rfl (by simp [strV, Value.oneCell']) (by unfold maxLen; omega) (by omega) ?_); intro u7 w18 hRw18 hpw18))
            have hB14 := hpw18.blk (HS.out.2.grow hbw17.size) (HS.out.1.grow hbw17)
            replace HX := Lib.hid hRw18
            replace HS := Lib.hid hB14
            clear hBw17 hbw17 hRw18 hpw18 hB14 q7
            try simp only [Act.put, List.setIfInBounds_toArray, List.set_cons_succ, List.set_cons_zero]
            refine wp_region_rrT (fun a b => Below a.heap.size a b) (fun _ _ _ h g => gt h g) (fun _ _ h => h.size) (fun a => (gr a).drew) 10
              [.eq 121 (.slice (some ⟨g9, 0, none⟩) n c9), .eq 122 (.slice (some ⟨g9, 0, none⟩) n c9), .eq 123 (.int .i64 (i : Int)), .eq 124 (.pointer (some ⟨g9, i, none⟩)), .eq 125 (.string ⟨mi.b.toArray⟩), .eq 126 (.pointer (some ⟨b14, 3, none⟩)), .eq 127 (.slice sA p.length sc), .eq 128 (.string ⟨p.toArray⟩), .eq 129 (.string ⟨(mi.b ++ p).toArray⟩), .new 130 (NewRow w18.heap.size 9 [strV (mi.b ++ p)] 1)]
              (by kernel_rfl) (by kernel_rfl) (by kernel_rfl) (by kernel_rfl) ?hstd ?hobd ?hfind
            case hstd =>
              intro s hs
              simp only [List.mem_cons, List.not_mem_nil, or_false] at hs
              rcases hs with rfl | rfl | rfl | rfl | rfl | rfl | rfl | rfl | rfl | rfl
              · exact fun _ _ _ h _ => h
              · exact fun _ _ _ h _ => h
              · exact fun _ _ _ h _ => h
              · exact fun _ _ _ h _ => h
              · exact fun _ _ _ h _ => h
              · exact fun _ _ _ h _ => h
              · exact fun _ _ _ h _ => h
              · exact fun _ _ _ h _ => h
              · exact fun _ _ _ h _ => h
              · rintro vs w1 w2 ⟨v, rfl, h⟩ hb
                exact ⟨_, rfl, NewRow.stable h hb⟩
            case hobd =>
              simp only [List.take_succ_cons, List.take_zero]
              refine rrs_cons ?_ (rrs_cons ?_ (rrs_cons ?_ (rrs_cons ?_ (rrs_cons ?_ (rrs_cons ?_ (rrs_cons ?_ (rrs_cons ?_ (rrs_cons ?_ (rrs_cons ?_ rrs_nil)))))))))
              · refine rr_eq gr (by decide) (by rfl) (by rfl) fun x w' A hg hp hA => ?_
                have e9 := hA 9
                simp [rgDsts] at e9
                go_simp
              · refine rr_eq gr (by decide) (by rfl) (by rfl) fun x w' A hg hp hA => ?_
                have e9 := hA 9
                simp [rgDsts] at e9
                go_simp
              · refine rr_eq gr (by decide) (by rfl) (by rfl) fun x w' A hg hp hA => ?_
                have e15 := hA 15
                simp [rgDsts] at e15
                go_simp
              · refine rr_eq gr (by decide) (by rfl) (by rfl) fun x w' A hg hp hA => ?_
                have h122 := rg_pred_eq (d := 122) hp 0 rfl rfl rfl
                have h123 := rg_pred_eq (d := 123) hp 1 rfl rfl rfl
                have e122 := (hA.at_ 122 rfl).trans h122
                have e123 := (hA.at_ 123 rfl).trans h123
                go_simp
              · refine rr_eq gr (by decide) (by rfl) (by rfl) fun x w' A hg hp hA => ?_
                have h124 := rg_pred_eq (d := 124) hp 0 rfl rfl rfl
                have e124 := (hA.at_ 124 rfl).trans h124
                have cc := own_cell' (show w'.ownsRow w.heap.size 9 1 (.slice (some ⟨g9, 0, none⟩) n c9) ms.length (ms.map fun m => strV m.b) from (HX.out.grow hg).own 3 _ rfl) HMI.out.1
                simp only [strV] at cc
                go_simp
              · refine rr_eq gr (by decide) (by rfl) (by rfl) fun x w' A hg hp hA => ?_
                have e14 := hA 14
                simp [rgDsts] at e14
                go_simp
              · refine rr_eq gr (by decide) (by rfl) (by rfl) fun x w' A hg hp hA => ?_
                have h126 := rg_pred_eq (d := 126) hp 0 rfl rfl rfl
                have e126 := (hA.at_ 126 rfl).trans h126
                have cc := (HS.out.grow hg).cell 3
                simp only [List.getElem?_cons_succ, List.getElem?_cons_zero] at cc
                go_simp
              · refine rr_eq gr (by decide) (by rfl) (by rfl) fun x w' A hg hp hA => ?_
                have h127 := rg_pred_eq (d := 127) hp 0 rfl rfl rfl
                have e127 := (hA.at_ 127 rfl).trans h127
                have cc := conv_rb (P := Tryd.prog) (src := 32) (dst := 9) (e := 5) Tryd.underlying32 Tryd.underlying5 Tryd.underlying9 (HOK.out.1.below (gt HX.out.low hg)) sc
                go_simp
              · refine rr_eq gr (by decide) (by rfl) (by rfl) fun x w' A hg hp hA => ?_
                have h125 := rg_pred_eq (d := 125) hp 0 rfl rfl rfl
                have h128 := rg_pred_eq (d := 128) hp 1 rfl rfl rfl
                have e125 := (hA.at_ 125 rfl).trans h125
                have e128 := (hA.at_ 128 rfl).trans h128
                have hn : ¬ (9223372036854775807 < mi.b.length + p.length) := by omega
                have ha : ((⟨mi.b.toArray⟩ : ByteArray) ++ ⟨p.toArray⟩) = ⟨(mi.b ++ p).toArray⟩ := by rw [ByteArray.mk_append_mk]
                go_simp
              · refine rr_build1 E48 (by decide) rfl rfl (.tmp 129) rfl (by decide) ([strV (mi.b ++ p)]) (by rfl) fun x w' A hg hp hA => ?_
                have h129 := rg_pred_eq (d := 129) hp 0 rfl rfl rfl
                have e129 := (hA.at_ 129 rfl).trans h129
                simp [Act.eval, e129, Value.cells, strV]
            case hfind =>
            intro x w19 hg hall hap
            simp only [RgAll, holds_eq, holds_new, holds_one, and_true] at hall
            obtain ⟨h121, h122, h123, h124, h125, h126, h127, h128, h129, h130⟩ := hall
            obtain ⟨b130, h130, hb130, hB130⟩ := h130
            simp only [rgDsts, List.take_succ_cons, List.take_zero, List.filterMap_cons, List.filterMap_nil, putMany, List.foldl_cons, List.foldl_nil, List.setIfInBounds_toArray, List.set_cons_succ, List.set_cons_zero, List.drop_succ_cons, List.drop_zero, h121, h122, h123, h124, h125, h126, h127, h128, h129, h130]
            clear h121 h122 h123 h124 h125 h126 h127 h128 h129 h130
            go_upto_region 35 with (first
              | ((with_reducible show wpList _ _ _ (⟨some 131, _, _, _, _, _⟩ :: _) _ _); go_must (refine wpList_push E48 rfl (.tmp 121) (.tmp 130) rfl (HX.out.grow hg) 3 rfl rfl b130 rfl hB130 rfl (by simp [strV, Value.oneCell']) (by unfold maxLen; omega) (by omega) ?_); intro u9 w20 hRw20 hpw20))
            have q8 := own_cell' (show w20.ownsRow w.heap.size 4 1 (.slice (some ⟨g8, 0, none⟩) n c8) ms.length (ms.map fun m => .bool m.fr) from hRw20.own 2 _ rfl) HMI.out.1
            replace HX := Lib.hid hRw20
            clear hg hap hb130 hB130 hRw20 hpw20 HS
            go_wp2_with (first
              | ((with_reducible show wpList _ _ _ (⟨some 137, _, _, _, _, _⟩ :: _) _ _); go_must (refine wpList_build1 E61 rfl (.tmp 136) rfl (by decide) [.bool mi.fr] rfl rfl w20.heap.size rfl ?_); intro w21 hBw21 hbw21 hzw21; clear hzw21)
              | ((with_reducible show wpList _ _ _ (⟨some 138, _, _, _, _, _⟩ :: _) _ _); go_must (refine wpList_push E61 rfl (.tmp 132) (.tmp 137) rfl (HX.out.grow hbw21) 2 rfl rfl w20.heap.size rfl hBw21 rfl (by simp [Value.oneCell']) (by unfold maxLen; omega) (by omega) ?_); intro u8 w22 hRw22 hpw22))
            have XX : MX w u6 u7 u8 u9 (ms ++ [mi.wrote p]) ((k + 1) * 1048576) w22 := by
              refine ⟨?_, ?_, by simp⟩
              · rw [HNC.out] at hRw22
                rw [← rows_snoc _ _ _ _ u6 u7 u8 u9 ms (mi.wrote p)]
                exact hRw22
              · intro m hm
                rcases List.mem_append.1 hm with hm | hm
                · exact (HXO.out.1 m hm).more (Nat.mul_le_mul_right 1048576 (Nat.le_succ k))
                · simp at hm
                  subst hm
                  exact MacD.wrote_ok HMI.out.2.1 p (by omega)
            exact ⟨⟨k + 1, ms ++ [mi.wrote p], by omega, by go_num, by simp; omega, XX⟩, by simp [intOf]; omega⟩
          -- <C
          · have HXX := Lib.hid (HX.out.more (Nat.mul_le_mul_right 1048576 (Nat.le_succ k)))
            by_cases k1 : kind = 1
            · subst k1
              have hneq : ∀ W, (binOp .neq 30 (.agg ((hmacf mi.k mi.b).map bv).toArray) (.agg ((hmacf mi.k mi.b).map bv).toArray)).run Tryd.prog W = .ok (.bool false) W := fun W => dig_eql _ W
              have heqi : ∀ W, (Op.equalIn 10000 30 (.agg ((hmacf mi.k mi.b).map bv).toArray) (.agg ((hmacf mi.k mi.b).map bv).toArray)).run Tryd.prog W = .ok true W := fun W => dig_eqi _ W
              obtain ⟨d, hd⟩ : ∃ d, d = (hmacf mi.k mi.b).map bv := ⟨_, rfl⟩
              rw [← hd] at hneq heqi
              have HD := Lib.hid hd
              clear hd
              go_upto_region 37 with fail
              try simp only [Act.put, List.setIfInBounds_toArray, List.set_cons_succ, List.set_cons_zero]
              refine wp_region_rrT (fun a b => Below a.heap.size a b) (fun _ _ _ h g => gt h g) (fun _ _ h => h.size) (fun a => (gr a).drew) 13
                [.eq 141 (.agg ci.toArray), .eq 142 (.agg d.toArray), .eq 143 (.slice (some ⟨g7, 0, none⟩) n c7), .eq 144 (.int .i64 (i : Int)), .eq 145 (.pointer (some ⟨g7, i, none⟩)), .eq 146 (.string ⟨mi.k.toArray⟩), .new 147 (NewRB w7.heap.size mi.k), .eq 148 (.slice (some ⟨g9, 0, none⟩) n c9), .eq 149 (.int .i64 (i : Int)), .eq 150 (.pointer (some ⟨g9, i, none⟩)), .eq 151 (.string ⟨mi.b.toArray⟩), .new 152 (NewRB w7.heap.size mi.b), .eq 153 (.agg d.toArray)]
                (by kernel_rfl) (by kernel_rfl) (by kernel_rfl) (by kernel_rfl) ?hste ?hobe ?hfine
              case hste =>
                intro s hs
                simp only [List.mem_cons, List.not_mem_nil, or_false] at hs
                rcases hs with rfl | rfl | rfl | rfl | rfl | rfl | rfl | rfl | rfl | rfl | rfl | rfl | rfl
                · exact fun _ _ _ h _ => h
                · exact fun _ _ _ h _ => h
                · exact fun _ _ _ h _ => h
                · exact fun _ _ _ h _ => h
                · exact fun _ _ _ h _ => h
                · exact fun _ _ _ h _ => h
                · rintro vs w1 w2 ⟨v, rfl, h⟩ hb
                  exact ⟨_, rfl, NewRB.stable h hb⟩
                · exact fun _ _ _ h _ => h
                · exact fun _ _ _ h _ => h
                · exact fun _ _ _ h _ => h
                · exact fun _ _ _ h _ => h
                · rintro vs w1 w2 ⟨v, rfl, h⟩ hb
                  exact ⟨_, rfl, NewRB.stable h hb⟩
                · exact fun _ _ _ h _ => h
              case hobe =>
                simp only [List.take_succ_cons, List.take_zero]
                refine rrs_cons ?_ (rrs_cons ?_ (rrs_cons ?_ (rrs_cons ?_ (rrs_cons ?_ (rrs_cons ?_ (rrs_cons ?_ (rrs_cons ?_ (rrs_cons ?_ (rrs_cons ?_ (rrs_cons ?_ (rrs_cons ?_ (rrs_cons ?_ rrs_nil))))))))))))
                · refine rr_wp (by decide) (by rfl) fun x w' A hg hp hA K' hK' => ?_
                  have e17 := hA 17
                  simp [rgDsts] at e17
                  refine wp_loadB A57 _ rfl b17 0 ?_ _ _ (HS.out.2.2.grow hg) ci (full hcil) hcil ?_
                  · simpa [Act.eval] using e17
                  · exact hK' _ _ (gr _) (by simp) (by simp)
                · refine rr_call (by decide) (by rfl) fun x w' A hg hp hA => ?_
                  have h141 := rg_pred_eq (d := 141) hp 0 rfl rfl rfl
                  have e141 := (hA.at_ 141 rfl).trans h141
                  refine ⟨32, #[.agg ci.toArray], ?_, ?_⟩
                  · go_simp
                  · refine (show Calls Tryd.prog 32 #[.agg ci.toArray] w' fun e w'' => e = .returned (.agg d.toArray) ∧ Below w'.heap.size w' w'' from by rw [HMI.out.2.2, HD.out]; exact macs mi (k * 1048576) HMI.out.2.1 w' (HG.out.grow (gt HX.out.rows.low hg)) (by omega)).mono ?_
                    rintro e w'' ⟨rfl, hb⟩
                    exact ⟨_, rfl, hb, by simp, by simp⟩
                · refine rr_eq gr (by decide) (by rfl) (by rfl) fun x w' A hg hp hA => ?_
                  have e7 := hA 7
                  simp [rgDsts] at e7
                  go_simp
                · refine rr_eq gr (by decide) (by rfl) (by rfl) fun x w' A hg hp hA => ?_
                  have e15 := hA 15
                  simp [rgDsts] at e15
                  go_simp
                · refine rr_eq gr (by decide) (by rfl) (by rfl) fun x w' A hg hp hA => ?_
                  have h143 := rg_pred_eq (d := 143) hp 0 rfl rfl rfl
                  have h144 := rg_pred_eq (d := 144) hp 1 rfl rfl rfl
                  have e143 := (hA.at_ 143 rfl).trans h143
                  have e144 := (hA.at_ 144 rfl).trans h144
                  go_simp
                · refine rr_eq gr (by decide) (by rfl) (by rfl) fun x w' A hg hp hA => ?_
                  have h145 := rg_pred_eq (d := 145) hp 0 rfl rfl rfl
                  have e145 := (hA.at_ 145 rfl).trans h145
                  have cc := (HX.out.grow hg).k HMI.out.1
                  simp only [strV] at cc
                  go_simp
                · refine rr_conv Tryd.underlying9 Tryd.underlying32 Tryd.underlying5 (by decide) rfl rfl (.tmp 146) rfl mi.k fun x w' A hg hp hA => ?_
                  have h146 := rg_pred_eq (d := 146) hp 0 rfl rfl rfl
                  have e146 := (hA.at_ 146 rfl).trans h146
                  simp [Act.eval, e146, strV]
                · refine rr_eq gr (by decide) (by rfl) (by rfl) fun x w' A hg hp hA => ?_
                  have e9 := hA 9
                  simp [rgDsts] at e9
                  go_simp
                · refine rr_eq gr (by decide) (by rfl) (by rfl) fun x w' A hg hp hA => ?_
                  have e15 := hA 15
                  simp [rgDsts] at e15
                  go_simp
                · refine rr_eq gr (by decide) (by rfl) (by rfl) fun x w' A hg hp hA => ?_
                  have h148 := rg_pred_eq (d := 148) hp 0 rfl rfl rfl
                  have h149 := rg_pred_eq (d := 149) hp 1 rfl rfl rfl
                  have e148 := (hA.at_ 148 rfl).trans h148
                  have e149 := (hA.at_ 149 rfl).trans h149
                  go_simp
                · refine rr_eq gr (by decide) (by rfl) (by rfl) fun x w' A hg hp hA => ?_
                  have h150 := rg_pred_eq (d := 150) hp 0 rfl rfl rfl
                  have e150 := (hA.at_ 150 rfl).trans h150
                  have cc := (HX.out.grow hg).b HMI.out.1
                  simp only [strV] at cc
                  go_simp
                · refine rr_conv Tryd.underlying9 Tryd.underlying32 Tryd.underlying5 (by decide) rfl rfl (.tmp 151) rfl mi.b fun x w' A hg hp hA => ?_
                  have h151 := rg_pred_eq (d := 151) hp 0 rfl rfl rfl
                  have e151 := (hA.at_ 151 rfl).trans h151
                  simp [Act.eval, e151, strV]
                · refine rr_call (by decide) (by rfl) fun x w' A hg hp hA => ?_
                  have h147 := rg_pred_new (d := 147) hp 0 rfl rfl rfl
                  have h152 := rg_pred_new (d := 152) hp 1 rfl rfl rfl
                  have h142 := rg_pred_eq (d := 142) hp 2 rfl rfl rfl
                  have e147 := hA.at_ 147 rfl
                  have e152 := hA.at_ 152 rfl
                  obtain ⟨x1, y1, f1, _, r1⟩ := h147
                  obtain ⟨x2, y2, f2, _, r2⟩ := h152
                  rw [f1] at e147
                  rw [f2] at e152
                  refine ⟨33, #[.slice (some ⟨x1, 0, none⟩) mi.k.length y1, .slice (some ⟨x2, 0, none⟩) mi.b.length y2], ?_, ?_⟩
                  · go_simp
                  · refine (rhmac_any mi.k mi.b _ _ mi.k.length mi.b.length y1 y2 w' rfl rfl r1 r2 (by omega) (by omega)).mono ?_
                    rintro e w'' ⟨rfl, hb⟩
                    exact ⟨_, rfl, hb, by simp [HD.out], by simp⟩
              case hfine =>
              intro x w8 hg hall hap
              simp only [RgAll, holds_eq, holds_new, holds_one, and_true] at hall
              obtain ⟨h141, h142, h143, h144, h145, h146, h147, h148, h149, h150, h151, h152, h153⟩ := hall
              obtain ⟨b147, c147, h147, hb147, hB147⟩ := h147
              obtain ⟨b152, c152, h152, hb152, hB152⟩ := h152
              simp only [rgDsts, List.take_succ_cons, List.take_zero, List.filterMap_cons, List.filterMap_nil, putMany, List.foldl_cons, List.foldl_nil, List.setIfInBounds_toArray, List.set_cons_succ, List.set_cons_zero, List.drop_succ_cons, List.drop_zero, h141, h142, h143, h144, h145, h146, h148, h149, h150, h151, h153, h147, h152]
              clear h141 h142 h143 h144 h145 h146 h148 h149 h150 h151 h153 h147 h152
              replace HXX := Lib.hid (HXX.out.grow hg)
              clear hg hap hb147 hB147 hb152 hB152
              go_wp2
              exact ⟨⟨k + 1, ms, by omega, by go_num, by omega, HXX.out⟩, by simp [intOf]; omega⟩
            · by_cases k3 : kind = 3
              · subst k3
                obtain ⟨mj, hmj⟩ : ∃ x, ms[j]? = some x := ⟨_, List.getElem?_eq_getElem (by have := HN.out.1; omega)⟩
                have hmjok := HX.out.ok mj (List.mem_of_getElem? hmj)
                have HMJ := Lib.hid (And.intro hmj hmjok)
                clear hmj hmjok
                go_upto_region 40 with fail
                cases hfi : mi.fr with
                | false =>
                  try simp only [Act.put, List.setIfInBounds_toArray, List.set_cons_succ, List.set_cons_zero]
                  refine wp_region_qb (by kernel_rfl) (by kernel_rfl) ?_
                  go_big_quiet_step (fail)
                  go_big_quiet_step (fail)
                  refine wq_val (o := ⟨some 159, _, _, _, _, _⟩) (v := .pointer (some ⟨g8, i, none⟩)) rfl (fun w' hC => by go_simp) ?_
                  simp only [Act.put, List.setIfInBounds_toArray, List.set_cons_succ, List.set_cons_zero]
                  refine wq_val (o := ⟨some 160, _, _, _, _, _⟩) (v := .bool false) rfl (fun w' hC => by have cc := (HX.out.grow hC).fr HMI.out.1; rw [hfi] at cc; go_simp) ?_
                  simp only [Act.put, List.setIfInBounds_toArray, List.set_cons_succ, List.set_cons_zero]
                  go_big_quiet_step (fail)
                  go_big_quiet_step (fail)
                  go_big_quiet_step (fail)
                  go_big_quiet_step (fail)
                  go_big_quiet_step (fail)
                  refine wq_val (o := ⟨some 166, _, _, _, _, _⟩) (v := .bool false) rfl (fun w' hC => by go_simp) ?_
                  simp only [Act.put, List.setIfInBounds_toArray, List.set_cons_succ, List.set_cons_zero]
                  go_big_quiet_step (fail)
                  go_big_quiet_step (fail)
                  go_big_quiet_step (fail)
                  go_big_quiet_step (fail)
                  go_big_quiet_step (fail)
                  go_big_quiet_step (fail)
                  go_big_quiet_step (fail)
                  go_big_quiet_step (fail)
                  go_big_quiet_step (fail)
                  go_big_quiet_step (fail)
                  refine wq_val (o := ⟨some 177, _, _, _, _, _⟩) (v := .bool false) rfl (fun w' hC => by go_simp) ?_
                  simp only [Act.put, List.setIfInBounds_toArray, List.set_cons_succ, List.set_cons_zero]
                  go_big_quiet_step (fail)
                  go_big_quiet_step (fail)
                  go_big_quiet_step (fail)
                  go_big_quiet_step (fail)
                  go_big_quiet_step (fail)
                  go_big_quiet_step (fail)
                  go_big_quiet_step (fail)
                  go_big_quiet_step (fail)
                  go_big_quiet_step (fail)
                  go_big_quiet_step (fail)
                  refine wq_val (o := ⟨some 188, _, _, _, _, _⟩) (v := .bool false) rfl (fun w' hC => by go_simp) ?_
                  simp only [Act.put, List.setIfInBounds_toArray, List.set_cons_succ, List.set_cons_zero]
                  go_big_quiet_step (fail)
                  go_big_quiet_step (fail)
                  go_big_quiet_step (fail)
                  go_big_quiet_step (fail)
                  go_big_quiet_step (fail)
                  go_big_quiet_step (fail)
                  go_big_quiet_step (fail)
                  refine wq_val (o := ⟨some 196, _, _, _, _, _⟩) (v := .bool false) rfl (fun w' hC => by go_simp) ?_
                  simp only [Act.put, List.setIfInBounds_toArray, List.set_cons_succ, List.set_cons_zero]
                  refine wpQuiet_nil ?_
                  intro w8 h8
                  replace HXX := Lib.hid (HXX.out.grow h8)
                  clear h8
                  go_wp2
                  exact ⟨⟨k + 1, ms, by omega, by go_num, by omega, HXX.out⟩, by simp [intOf]; omega⟩
                | true =>
                  cases hfj : mj.fr with
                  | false =>
                    try simp only [Act.put, List.setIfInBounds_toArray, List.set_cons_succ, List.set_cons_zero]
                    refine wp_region_qb (by kernel_rfl) (by kernel_rfl) ?_
                    go_big_quiet_step (fail)
                    go_big_quiet_step (fail)
                    refine wq_val (o := ⟨some 159, _, _, _, _, _⟩) (v := .pointer (some ⟨g8, i, none⟩)) rfl (fun w' hC => by go_simp) ?_
                    simp only [Act.put, List.setIfInBounds_toArray, List.set_cons_succ, List.set_cons_zero]
                    refine wq_val (o := ⟨some 160, _, _, _, _, _⟩) (v := .bool true) rfl (fun w' hC => by have cc := (HX.out.grow hC).fr HMI.out.1; rw [hfi] at cc; go_simp) ?_
                    simp only [Act.put, List.setIfInBounds_toArray, List.set_cons_succ, List.set_cons_zero]
                    go_big_quiet_step (fail)
                    go_big_quiet_step (fail)
                    go_big_quiet_step (fail)
                    refine wq_val (o := ⟨some 164, _, _, _, _, _⟩) (v := .pointer (some ⟨g8, j, none⟩)) rfl (fun w' hC => by go_simp) ?_
                    simp only [Act.put, List.setIfInBounds_toArray, List.set_cons_succ, List.set_cons_zero]
                    refine wq_val (o := ⟨some 165, _, _, _, _, _⟩) (v := .bool false) rfl (fun w' hC => by have cc := (HX.out.grow hC).fr HMJ.out.1; rw [hfj] at cc; go_simp) ?_
                    simp only [Act.put, List.setIfInBounds_toArray, List.set_cons_succ, List.set_cons_zero]
                    refine wq_val (o := ⟨some 166, _, _, _, _, _⟩) (v := .bool false) rfl (fun w' hC => by go_simp) ?_
                    simp only [Act.put, List.setIfInBounds_toArray, List.set_cons_succ, List.set_cons_zero]
                    go_big_quiet_step (fail)
                    go_big_quiet_step (fail)
                    go_big_quiet_step (fail)
                    go_big_quiet_step (fail)
                    go_big_quiet_step (fail)
                    go_big_quiet_step (fail)
                    go_big_quiet_step (fail)
                    go_big_quiet_step (fail)
                    go_big_quiet_step (fail)
                    go_big_quiet_step (fail)
                    refine wq_val (o := ⟨some 177, _, _, _, _, _⟩) (v := .bool false) rfl (fun w' hC => by go_simp) ?_
                    simp only [Act.put, List.setIfInBounds_toArray, List.set_cons_succ, List.set_cons_zero]
                    go_big_quiet_step (fail)
                    go_big_quiet_step (fail)
                    go_big_quiet_step (fail)
                    go_big_quiet_step (fail)
                    go_big_quiet_step (fail)
                    go_big_quiet_step (fail)
                    go_big_quiet_step (fail)
                    go_big_quiet_step (fail)
                    go_big_quiet_step (fail)
                    go_big_quiet_step (fail)
                    refine wq_val (o := ⟨some 188, _, _, _, _, _⟩) (v := .bool false) rfl (fun w' hC => by go_simp) ?_
                    simp only [Act.put, List.setIfInBounds_toArray, List.set_cons_succ, List.set_cons_zero]
                    go_big_quiet_step (fail)
                    go_big_quiet_step (fail)
                    go_big_quiet_step (fail)
                    go_big_quiet_step (fail)
                    go_big_quiet_step (fail)
                    go_big_quiet_step (fail)
                    go_big_quiet_step (fail)
                    refine wq_val (o := ⟨some 196, _, _, _, _, _⟩) (v := .bool false) rfl (fun w' hC => by go_simp) ?_
                    simp only [Act.put, List.setIfInBounds_toArray, List.set_cons_succ, List.set_cons_zero]
                    refine wpQuiet_nil ?_
                    intro w8 h8
                    replace HXX := Lib.hid (HXX.out.grow h8)
                    clear h8
                    go_wp2
                    exact ⟨⟨k + 1, ms, by omega, by go_num, by omega, HXX.out⟩, by simp [intOf]; omega⟩
                  | true =>
                    by_cases hkk : mi.k = mj.k
                    · have HKK := Lib.hid hkk
                      clear hkk
                      by_cases hbb : mi.b = mj.b
                      · have HBB := Lib.hid hbb
                        have hcc : mj.cells = ci := by
                          have e1 : mi.z = false := by
                            cases hz : mi.z with
                            | false => rfl
                            | true => have := (HMI.out.2.1.1 hz).2.2; rw [hfi] at this; cases this
                          have e2 : mj.z = false := by
                            cases hz : mj.z with
                            | false => rfl
                            | true => have := (HMJ.out.2.1 hz).2.2; rw [hfj] at this; cases this
                          rw [HMI.out.2.2]
                          unfold MacD.cells MacD.cur
                          rw [e1, e2, HKK.out, hbb]
                        obtain ⟨cur6, hB6, hp6⟩ := HX.out.mac'
                        have hq6 : (cur6.drop (j * 137)).take (mcell (List.replicate 64 0) []).length = ci := by rw [hp6 j mj HMJ.out.1, hcc]
                        have HB6 := Lib.hid (And.intro hB6 hq6)
                        have hneq : ∀ W, (binOp .neq 57 (.agg ci.toArray) (.agg ci.toArray)).run Tryd.prog W = .ok (.bool false) W := fun W => by rw [HMI.out.2.2]; exact macD_neq mi W
                        have heqi : ∀ W, (Op.equalIn 10000 57 (.agg ci.toArray) (.agg ci.toArray)).run Tryd.prog W = .ok true W := fun W => by rw [HMI.out.2.2]; exact macD_eqi mi W
                        clear hcc hB6 hp6 hq6 hbb
                        try simp only [Act.put, List.setIfInBounds_toArray, List.set_cons_succ, List.set_cons_zero]
                        refine wp_region_qb (by kernel_rfl) (by kernel_rfl) ?_
                        go_big_quiet_step (fail)
                        go_big_quiet_step (fail)
                        refine wq_val (o := ⟨some 159, _, _, _, _, _⟩) (v := .pointer (some ⟨g8, i, none⟩)) rfl (fun w' hC => by go_simp) ?_
                        simp only [Act.put, List.setIfInBounds_toArray, List.set_cons_succ, List.set_cons_zero]
                        refine wq_val (o := ⟨some 160, _, _, _, _, _⟩) (v := .bool true) rfl (fun w' hC => by have cc := (HX.out.grow hC).fr HMI.out.1; rw [hfi] at cc; go_simp) ?_
                        simp only [Act.put, List.setIfInBounds_toArray, List.set_cons_succ, List.set_cons_zero]
                        go_big_quiet_step (fail)
                        go_big_quiet_step (fail)
                        go_big_quiet_step (fail)
                        refine wq_val (o := ⟨some 164, _, _, _, _, _⟩) (v := .pointer (some ⟨g8, j, none⟩)) rfl (fun w' hC => by go_simp) ?_
                        simp only [Act.put, List.setIfInBounds_toArray, List.set_cons_succ, List.set_cons_zero]
                        refine wq_val (o := ⟨some 165, _, _, _, _, _⟩) (v := .bool true) rfl (fun w' hC => by have cc := (HX.out.grow hC).fr HMJ.out.1; rw [hfj] at cc; go_simp) ?_
                        simp only [Act.put, List.setIfInBounds_toArray, List.set_cons_succ, List.set_cons_zero]
                        refine wq_val (o := ⟨some 166, _, _, _, _, _⟩) (v := .bool true) rfl (fun w' hC => by go_simp) ?_
                        simp only [Act.put, List.setIfInBounds_toArray, List.set_cons_succ, List.set_cons_zero]
                        go_big_quiet_step (fail)
                        go_big_quiet_step (fail)
                        go_big_quiet_step (fail)
                        refine wq_val (o := ⟨some 170, _, _, _, _, _⟩) (v := .pointer (some ⟨g7, i, none⟩)) rfl (fun w' hC => by go_simp) ?_
                        simp only [Act.put, List.setIfInBounds_toArray, List.set_cons_succ, List.set_cons_zero]
                        refine wq_val (o := ⟨some 171, _, _, _, _, _⟩) (v := .string ⟨mi.k.toArray⟩) rfl (fun w' hC => by have cc := (HX.out.grow hC).k HMI.out.1; simp only [strV] at cc; go_simp) ?_
                        simp only [Act.put, List.setIfInBounds_toArray, List.set_cons_succ, List.set_cons_zero]
                        go_big_quiet_step (fail)
                        go_big_quiet_step (fail)
                        refine wq_val (o := ⟨some 174, _, _, _, _, _⟩) (v := .pointer (some ⟨g7, j, none⟩)) rfl (fun w' hC => by go_simp) ?_
                        simp only [Act.put, List.setIfInBounds_toArray, List.set_cons_succ, List.set_cons_zero]
                        refine wq_val (o := ⟨some 175, _, _, _, _, _⟩) (v := .string ⟨mi.k.toArray⟩) rfl (fun w' hC => by have cc := (HX.out.grow hC).k HMJ.out.1; rw [← HKK.out] at cc; simp only [strV] at cc; go_simp) ?_
                        simp only [Act.put, List.setIfInBounds_toArray, List.set_cons_succ, List.set_cons_zero]
                        refine wq_val (o := ⟨some 176, _, _, _, _, _⟩) (v := .bool true) rfl (fun w' hC => by go_simp) ?_
                        simp only [Act.put, List.setIfInBounds_toArray, List.set_cons_succ, List.set_cons_zero]
                        refine wq_val (o := ⟨some 177, _, _, _, _, _⟩) (v := .bool true) rfl (fun w' hC => by go_simp) ?_
                        simp only [Act.put, List.setIfInBounds_toArray, List.set_cons_succ, List.set_cons_zero]
                        go_big_quiet_step (fail)
                        go_big_quiet_step (fail)
                        go_big_quiet_step (fail)
                        refine wq_val (o := ⟨some 181, _, _, _, _, _⟩) (v := .pointer (some ⟨g9, i, none⟩)) rfl (fun w' hC => by go_simp) ?_
                        simp only [Act.put, List.setIfInBounds_toArray, List.set_cons_succ, List.set_cons_zero]
                        refine wq_val (o := ⟨some 182, _, _, _, _, _⟩) (v := .string ⟨mi.b.toArray⟩) rfl (fun w' hC => by have cc := (HX.out.grow hC).b HMI.out.1; simp only [strV] at cc; go_simp) ?_
                        simp only [Act.put, List.setIfInBounds_toArray, List.set_cons_succ, List.set_cons_zero]
                        go_big_quiet_step (fail)
                        go_big_quiet_step (fail)
                        refine wq_val (o := ⟨some 185, _, _, _, _, _⟩) (v := .pointer (some ⟨g9, j, none⟩)) rfl (fun w' hC => by go_simp) ?_
                        simp only [Act.put, List.setIfInBounds_toArray, List.set_cons_succ, List.set_cons_zero]
                        refine wq_val (o := ⟨some 186, _, _, _, _, _⟩) (v := .string ⟨mi.b.toArray⟩) rfl (fun w' hC => by have cc := (HX.out.grow hC).b HMJ.out.1; rw [← HBB.out] at cc; simp only [strV] at cc; go_simp) ?_
                        simp only [Act.put, List.setIfInBounds_toArray, List.set_cons_succ, List.set_cons_zero]
                        refine wq_val (o := ⟨some 187, _, _, _, _, _⟩) (v := .bool true) rfl (fun w' hC => by go_simp) ?_
                        simp only [Act.put, List.setIfInBounds_toArray, List.set_cons_succ, List.set_cons_zero]
                        refine wq_val (o := ⟨some 188, _, _, _, _, _⟩) (v := .bool true) rfl (fun w' hC => by go_simp) ?_
                        simp only [Act.put, List.setIfInBounds_toArray, List.set_cons_succ, List.set_cons_zero]
                        go_big_quiet_step (fail)
                        refine wq_loadB (o := ⟨some 190, _, _, _, _, _⟩) A57 rfl _ rfl b17 0 rfl _ _ (fun w' hC => From.blk hC HS.out.2.2) ci (full hcil) hcil ?_
                        simp only [Act.put, List.setIfInBounds_toArray, List.set_cons_succ, List.set_cons_zero]
                        go_big_quiet_step (fail)
                        go_big_quiet_step (fail)
                        refine wq_val (o := ⟨some 193, _, _, _, _, _⟩) (v := .pointer (some ⟨g6, j * 137, none⟩)) rfl (fun w' hC => by go_simp) ?_
                        simp only [Act.put, List.setIfInBounds_toArray, List.set_cons_succ, List.set_cons_zero]
                        refine wq_loadB (o := ⟨some 194, _, _, _, _, _⟩) A57 rfl _ rfl g6 (j * 137) rfl _ _ (fun w' hC => From.blk hC HB6.out.1) ci HB6.out.2 hcil ?_
                        simp only [Act.put, List.setIfInBounds_toArray, List.set_cons_succ, List.set_cons_zero]
                        refine wq_val (o := ⟨some 195, _, _, _, _, _⟩) (v := .bool false) rfl (fun w' hC => by go_simp) ?_
                        simp only [Act.put, List.setIfInBounds_toArray, List.set_cons_succ, List.set_cons_zero]
                        refine wq_val (o := ⟨some 196, _, _, _, _, _⟩) (v := .bool false) rfl (fun w' hC => by go_simp) ?_
                        simp only [Act.put, List.setIfInBounds_toArray, List.set_cons_succ, List.set_cons_zero]
                        refine wpQuiet_nil ?_
                        intro w8 h8
                        replace HXX := Lib.hid (HXX.out.grow h8)
                        clear h8 hneq heqi
                        go_wp2
                        exact ⟨⟨k + 1, ms, by omega, by go_num, by omega, HXX.out⟩, by simp [intOf]; omega⟩
                      · have hne : ¬ ((⟨mi.b.toArray⟩ : ByteArray) = ⟨mj.b.toArray⟩) := fun h => hbb (bytes_eq.1 h)
                        try simp only [Act.put, List.setIfInBounds_toArray, List.set_cons_succ, List.set_cons_zero]
                        refine wp_region_qb (by kernel_rfl) (by kernel_rfl) ?_
                        go_big_quiet_step (fail)
                        go_big_quiet_step (fail)
                        refine wq_val (o := ⟨some 159, _, _, _, _, _⟩) (v := .pointer (some ⟨g8, i, none⟩)) rfl (fun w' hC => by go_simp) ?_
                        simp only [Act.put, List.setIfInBounds_toArray, List.set_cons_succ, List.set_cons_zero]
                        refine wq_val (o := ⟨some 160, _, _, _, _, _⟩) (v := .bool true) rfl (fun w' hC => by have cc := (HX.out.grow hC).fr HMI.out.1; rw [hfi] at cc; go_simp) ?_
                        simp only [Act.put, List.setIfInBounds_toArray, List.set_cons_succ, List.set_cons_zero]
                        go_big_quiet_step (fail)
                        go_big_quiet_step (fail)
                        go_big_quiet_step (fail)
                        refine wq_val (o := ⟨some 164, _, _, _, _, _⟩) (v := .pointer (some ⟨g8, j, none⟩)) rfl (fun w' hC => by go_simp) ?_
                        simp only [Act.put, List.setIfInBounds_toArray, List.set_cons_succ, List.set_cons_zero]
                        refine wq_val (o := ⟨some 165, _, _, _, _, _⟩) (v := .bool true) rfl (fun w' hC => by have cc := (HX.out.grow hC).fr HMJ.out.1; rw [hfj] at cc; go_simp) ?_
                        simp only [Act.put, List.setIfInBounds_toArray, List.set_cons_succ, List.set_cons_zero]
                        refine wq_val (o := ⟨some 166, _, _, _, _, _⟩) (v := .bool true) rfl (fun w' hC => by go_simp) ?_
                        simp only [Act.put, List.setIfInBounds_toArray, List.set_cons_succ, List.set_cons_zero]
                        go_big_quiet_step (fail)
                        go_big_quiet_step (fail)
                        go_big_quiet_step (fail)
                        refine wq_val (o := ⟨some 170, _, _, _, _, _⟩) (v := .pointer (some ⟨g7, i, none⟩)) rfl (fun w' hC => by go_simp) ?_
                        simp only [Act.put, List.setIfInBounds_toArray, List.set_cons_succ, List.set_cons_zero]
                        refine wq_val (o := ⟨some 171, _, _, _, _, _⟩) (v := .string ⟨mi.k.toArray⟩) rfl (fun w' hC => by have cc := (HX.out.grow hC).k HMI.out.1; simp only [strV] at cc; go_simp) ?_
                        simp only [Act.put, List.setIfInBounds_toArray, List.set_cons_succ, List.set_cons_zero]
                        go_big_quiet_step (fail)
                        go_big_quiet_step (fail)
                        refine wq_val (o := ⟨some 174, _, _, _, _, _⟩) (v := .pointer (some ⟨g7, j, none⟩)) rfl (fun w' hC => by go_simp) ?_
                        simp only [Act.put, List.setIfInBounds_toArray, List.set_cons_succ, List.set_cons_zero]
                        refine wq_val (o := ⟨some 175, _, _, _, _, _⟩) (v := .string ⟨mi.k.toArray⟩) rfl (fun w' hC => by have cc := (HX.out.grow hC).k HMJ.out.1; rw [← HKK.out] at cc; simp only [strV] at cc; go_simp) ?_
                        simp only [Act.put, List.setIfInBounds_toArray, List.set_cons_succ, List.set_cons_zero]
                        refine wq_val (o := ⟨some 176, _, _, _, _, _⟩) (v := .bool true) rfl (fun w' hC => by go_simp) ?_
                        simp only [Act.put, List.setIfInBounds_toArray, List.set_cons_succ, List.set_cons_zero]
                        refine wq_val (o := ⟨some 177, _, _, _, _, _⟩) (v := .bool true) rfl (fun w' hC => by go_simp) ?_
                        simp only [Act.put, List.setIfInBounds_toArray, List.set_cons_succ, List.set_cons_zero]
                        go_big_quiet_step (fail)
                        go_big_quiet_step (fail)
                        go_big_quiet_step (fail)
                        refine wq_val (o := ⟨some 181, _, _, _, _, _⟩) (v := .pointer (some ⟨g9, i, none⟩)) rfl (fun w' hC => by go_simp) ?_
                        simp only [Act.put, List.setIfInBounds_toArray, List.set_cons_succ, List.set_cons_zero]
                        refine wq_val (o := ⟨some 182, _, _, _, _, _⟩) (v := .string ⟨mi.b.toArray⟩) rfl (fun w' hC => by have cc := (HX.out.grow hC).b HMI.out.1; simp only [strV] at cc; go_simp) ?_
                        simp only [Act.put, List.setIfInBounds_toArray, List.set_cons_succ, List.set_cons_zero]
                        go_big_quiet_step (fail)
                        go_big_quiet_step (fail)
                        refine wq_val (o := ⟨some 185, _, _, _, _, _⟩) (v := .pointer (some ⟨g9, j, none⟩)) rfl (fun w' hC => by go_simp) ?_
                        simp only [Act.put, List.setIfInBounds_toArray, List.set_cons_succ, List.set_cons_zero]
                        refine wq_val (o := ⟨some 186, _, _, _, _, _⟩) (v := .string ⟨mj.b.toArray⟩) rfl (fun w' hC => by have cc := (HX.out.grow hC).b HMJ.out.1; simp only [strV] at cc; go_simp) ?_
                        simp only [Act.put, List.setIfInBounds_toArray, List.set_cons_succ, List.set_cons_zero]
                        refine wq_val (o := ⟨some 187, _, _, _, _, _⟩) (v := .bool false) rfl (fun w' hC => by go_simp) ?_
                        simp only [Act.put, List.setIfInBounds_toArray, List.set_cons_succ, List.set_cons_zero]
                        refine wq_val (o := ⟨some 188, _, _, _, _, _⟩) (v := .bool false) rfl (fun w' hC => by go_simp) ?_
                        simp only [Act.put, List.setIfInBounds_toArray, List.set_cons_succ, List.set_cons_zero]
                        go_big_quiet_step (fail)
                        go_big_quiet_step (fail)
                        go_big_quiet_step (fail)
                        go_big_quiet_step (fail)
                        go_big_quiet_step (fail)
                        go_big_quiet_step (fail)
                        go_big_quiet_step (fail)
                        refine wq_val (o := ⟨some 196, _, _, _, _, _⟩) (v := .bool false) rfl (fun w' hC => by go_simp) ?_
                        simp only [Act.put, List.setIfInBounds_toArray, List.set_cons_succ, List.set_cons_zero]
                        refine wpQuiet_nil ?_
                        intro w8 h8
                        replace HXX := Lib.hid (HXX.out.grow h8)
                        clear h8
                        go_wp2
                        exact ⟨⟨k + 1, ms, by omega, by go_num, by omega, HXX.out⟩, by simp [intOf]; omega⟩
                    · have hne : ¬ ((⟨mi.k.toArray⟩ : ByteArray) = ⟨mj.k.toArray⟩) := fun h => hkk (bytes_eq.1 h)
                      try simp only [Act.put, List.setIfInBounds_toArray, List.set_cons_succ, List.set_cons_zero]
                      refine wp_region_qb (by kernel_rfl) (by kernel_rfl) ?_
                      go_big_quiet_step (fail)
                      go_big_quiet_step (fail)
                      refine wq_val (o := ⟨some 159, _, _, _, _, _⟩) (v := .pointer (some ⟨g8, i, none⟩)) rfl (fun w' hC => by go_simp) ?_
                      simp only [Act.put, List.setIfInBounds_toArray, List.set_cons_succ, List.set_cons_zero]
                      refine wq_val (o := ⟨some 160, _, _, _, _, _⟩) (v := .bool true) rfl (fun w' hC => by have cc := (HX.out.grow hC).fr HMI.out.1; rw [hfi] at cc; go_simp) ?_
                      simp only [Act.put, List.setIfInBounds_toArray, List.set_cons_succ, List.set_cons_zero]
                      go_big_quiet_step (fail)
                      go_big_quiet_step (fail)
                      go_big_quiet_step (fail)
                      refine wq_val (o := ⟨some 164, _, _, _, _, _⟩) (v := .pointer (some ⟨g8, j, none⟩)) rfl (fun w' hC => by go_simp) ?_
                      simp only [Act.put, List.setIfInBounds_toArray, List.set_cons_succ, List.set_cons_zero]
                      refine wq_val (o := ⟨some 165, _, _, _, _, _⟩) (v := .bool true) rfl (fun w' hC => by have cc := (HX.out.grow hC).fr HMJ.out.1; rw [hfj] at cc; go_simp) ?_
                      simp only [Act.put, List.setIfInBounds_toArray, List.set_cons_succ, List.set_cons_zero]
                      refine wq_val (o := ⟨some 166, _, _, _, _, _⟩) (v := .bool true) rfl (fun w' hC => by go_simp) ?_
                      simp only [Act.put, List.setIfInBounds_toArray, List.set_cons_succ, List.set_cons_zero]
                      go_big_quiet_step (fail)
                      go_big_quiet_step (fail)
                      go_big_quiet_step (fail)
                      refine wq_val (o := ⟨some 170, _, _, _, _, _⟩) (v := .pointer (some ⟨g7, i, none⟩)) rfl (fun w' hC => by go_simp) ?_
                      simp only [Act.put, List.setIfInBounds_toArray, List.set_cons_succ, List.set_cons_zero]
                      refine wq_val (o := ⟨some 171, _, _, _, _, _⟩) (v := .string ⟨mi.k.toArray⟩) rfl (fun w' hC => by have cc := (HX.out.grow hC).k HMI.out.1; simp only [strV] at cc; go_simp) ?_
                      simp only [Act.put, List.setIfInBounds_toArray, List.set_cons_succ, List.set_cons_zero]
                      go_big_quiet_step (fail)
                      go_big_quiet_step (fail)
                      refine wq_val (o := ⟨some 174, _, _, _, _, _⟩) (v := .pointer (some ⟨g7, j, none⟩)) rfl (fun w' hC => by go_simp) ?_
                      simp only [Act.put, List.setIfInBounds_toArray, List.set_cons_succ, List.set_cons_zero]
                      refine wq_val (o := ⟨some 175, _, _, _, _, _⟩) (v := .string ⟨mj.k.toArray⟩) rfl (fun w' hC => by have cc := (HX.out.grow hC).k HMJ.out.1; simp only [strV] at cc; go_simp) ?_
                      simp only [Act.put, List.setIfInBounds_toArray, List.set_cons_succ, List.set_cons_zero]
                      refine wq_val (o := ⟨some 176, _, _, _, _, _⟩) (v := .bool false) rfl (fun w' hC => by go_simp) ?_
                      simp only [Act.put, List.setIfInBounds_toArray, List.set_cons_succ, List.set_cons_zero]
                      refine wq_val (o := ⟨some 177, _, _, _, _, _⟩) (v := .bool false) rfl (fun w' hC => by go_simp) ?_
                      simp only [Act.put, List.setIfInBounds_toArray, List.set_cons_succ, List.set_cons_zero]
                      go_big_quiet_step (fail)
                      go_big_quiet_step (fail)
                      go_big_quiet_step (fail)
                      go_big_quiet_step (fail)
                      go_big_quiet_step (fail)
                      go_big_quiet_step (fail)
                      go_big_quiet_step (fail)
                      go_big_quiet_step (fail)
                      go_big_quiet_step (fail)
                      go_big_quiet_step (fail)
                      refine wq_val (o := ⟨some 188, _, _, _, _, _⟩) (v := .bool false) rfl (fun w' hC => by go_simp) ?_
                      simp only [Act.put, List.setIfInBounds_toArray, List.set_cons_succ, List.set_cons_zero]
                      go_big_quiet_step (fail)
                      go_big_quiet_step (fail)
                      go_big_quiet_step (fail)
                      go_big_quiet_step (fail)
                      go_big_quiet_step (fail)
                      go_big_quiet_step (fail)
                      go_big_quiet_step (fail)
                      refine wq_val (o := ⟨some 196, _, _, _, _, _⟩) (v := .bool false) rfl (fun w' hC => by go_simp) ?_
                      simp only [Act.put, List.setIfInBounds_toArray, List.set_cons_succ, List.set_cons_zero]
                      refine wpQuiet_nil ?_
                      intro w8 h8
                      replace HXX := Lib.hid (HXX.out.grow h8)
                      clear h8
                      go_wp2
                      exact ⟨⟨k + 1, ms, by omega, by go_num, by omega, HXX.out⟩, by simp [intOf]; omega⟩
              · go_wp2
                exact ⟨⟨k + 1, ms, by omega, by go_num, by omega, HXX.out⟩, by simp [intOf]; omega⟩
        -- <B
        · obtain rfl : k = L := by omega
          clear hlt hk
          obtain ⟨g6, c6, g7, c7, g8, c8, g9, c9, rfl, rfl, rfl, rfl, hcs, hgl, hgs, hgd⟩ := X.heads
          obtain ⟨n, hn⟩ : ∃ n, n = ms.length := ⟨_, rfl⟩
          rw [← hn] at hcs X ⊢
          have hc6 : n ≤ c6 ∧ c6 ≤ maxLen := ⟨hcs.1, hcs.2.1⟩
          have hnm : n ≤ 2097153 := by omega
          have HX := Lib.hid X
          have HN := Lib.hid hn
          clear X hcs hgl hgs hgd hml hc6 hn
          go_wp2_with fail
          go_loopw [200] (fun v wr => ∃ i : Nat, i ≤ n ∧ v = .int .i64 i ∧ MX w (.slice (some ⟨g6, 0, none⟩) n c6) (.slice (some ⟨g7, 0, none⟩) n c7) (.slice (some ⟨g8, 0, none⟩) n c8) (.slice (some ⟨g9, 0, none⟩) n c9) ms (k * 1048576) wr) (fun v _ => n - (intOf v).toNat)
          case atStart => exact ⟨0, by omega, rfl, HX.out⟩
          case round =>
            clear HX
            obtain ⟨i, hi, rfl, X⟩ := hrel
            by_cases him : i < n
            · have hin : (i : Int) < (n : Int) := by omega
              have hi0 : (0 : Int) ≤ (i : Int) := by omega
              obtain ⟨mi, hmi⟩ : ∃ x, ms[i]? = some x := ⟨_, List.getElem?_eq_getElem (by have := HN.out; omega)⟩
              have hmok := X.ok mi (List.mem_of_getElem? hmi)
              obtain ⟨ci, hci⟩ : ∃ x, x = mi.cells := ⟨_, rfl⟩
              have hcil : ci.length = (mcell (List.replicate 64 0) []).length := by rw [hci, MacD.cells_length, mcell_length _ _ (by simp)]
              have hci1 : ∀ v ∈ ci, v.oneCell' = true := by rw [hci]; exact MacD.one _
              have hkl' : mi.k.length ≤ 1048576 := hmok.2.1
              have hbl' : mi.b.length ≤ k * 1048576 := hmok.2.2
              obtain ⟨cur6, hB6, hp6⟩ := X.mac'
              have hq6 : (cur6.drop (i * 137)).take (mcell (List.replicate 64 0) []).length = ci := by rw [hp6 i mi hmi, hci]
              have HB6 := Lib.hid (And.intro hB6 hq6)
              have HX := Lib.hid X
              have HMI := Lib.hid (And.intro hmi (And.intro hmok hci))
              clear hmi hmok hci hB6 hp6 hq6 X
              go_upto_region 46 with (first
                | ((with_reducible show wpList _ _ _ (⟨some 204, _, _, _, _, _⟩ :: _) _ _); go_must (refine wpList_loadB (op := ⟨some 204, _, _, _, _, _⟩) A57 rfl _ rfl g6 (i * 137) rfl _ _ HB6.out.1 ci HB6.out.2 hcil ?_))
                | ((with_reducible show wpList _ _ _ (⟨some 21, _, _, _, _, _⟩ :: _) _ _); go_must (refine wpList_allocB (op := ⟨some 21, _, _, _, _, _⟩) A57 rfl rfl wr.heap.size rfl ?_); intro w6 hBw6 hbw6 hzw6)
                | ((with_reducible show wpList _ _ _ (⟨none, .store 57 (.tmp 21) _, _, _, _, _⟩ :: _) _ _); go_must (refine wpList_storeB (op := ⟨none, _, _, _, _, _⟩) A57 rfl _ _ rfl wr.heap.size 0 rfl ci rfl hcil _ _ hBw6 (Nat.le_of_eq ((Nat.zero_add _).trans hcil)) hci1 ?_); intro w7 hBw7 hgw7 hzw7; rw [splice_all _ _ hcil] at hBw7))
              have h57 : Below wr.heap.size wr w7 := gst (gr wr) hbw6 hgw7 (Nat.le_refl _)
              obtain ⟨b17, hb17⟩ : ∃ b, b = wr.heap.size := ⟨_, rfl⟩
              rw [← hb17] at hBw7 ⊢
              replace HX := Lib.hid (HX.out.grow h57)
              have HS := Lib.hid hBw7
              clear hBw6 hbw6 hzw6 hBw7 hgw7 hzw7 h57 hb17 HB6
              have hneq : ∀ W, (binOp .neq 30 (.agg ((hmacf mi.k mi.b).map bv).toArray) (.agg ((hmacf mi.k mi.b).map bv).toArray)).run Tryd.prog W = .ok (.bool false) W := fun W => dig_eql _ W
              have heqi : ∀ W, (Op.equalIn 10000 30 (.agg ((hmacf mi.k mi.b).map bv).toArray) (.agg ((hmacf mi.k mi.b).map bv).toArray)).run Tryd.prog W = .ok true W := fun W => dig_eqi _ W
              obtain ⟨d, hd⟩ : ∃ d, d = (hmacf mi.k mi.b).map bv := ⟨_, rfl⟩
              rw [← hd] at hneq heqi
              have HD := Lib.hid hd
              clear hd
              try simp only [Act.put, List.setIfInBounds_toArray, List.set_cons_succ, List.set_cons_zero]
              refine wp_region_rrT (fun a b => Below a.heap.size a b) (fun _ _ _ h g => gt h g) (fun _ _ h => h.size) (fun a => (gr a).drew) 13
                [.eq 205 (.agg ci.toArray), .eq 206 (.agg d.toArray), .eq 207 (.slice (some ⟨g7, 0, none⟩) n c7), .eq 208 (.int .i64 (i : Int)), .eq 209 (.pointer (some ⟨g7, i, none⟩)), .eq 210 (.string ⟨mi.k.toArray⟩), .new 211 (NewRB w7.heap.size mi.k), .eq 212 (.slice (some ⟨g9, 0, none⟩) n c9), .eq 213 (.int .i64 (i : Int)), .eq 214 (.pointer (some ⟨g9, i, none⟩)), .eq 215 (.string ⟨mi.b.toArray⟩), .new 216 (NewRB w7.heap.size mi.b), .eq 217 (.agg d.toArray)]
                (by kernel_rfl) (by kernel_rfl) (by kernel_rfl) (by kernel_rfl) ?hstf ?hobf ?hfinf
              case hstf =>
                intro s hs
                simp only [List.mem_cons, List.not_mem_nil, or_false] at hs
                rcases hs with rfl | rfl | rfl | rfl | rfl | rfl | rfl | rfl | rfl | rfl | rfl | rfl | rfl
                · exact fun _ _ _ h _ => h
                · exact fun _ _ _ h _ => h
                · exact fun _ _ _ h _ => h
                · exact fun _ _ _ h _ => h
                · exact fun _ _ _ h _ => h
                · exact fun _ _ _ h _ => h
                · rintro vs w1 w2 ⟨v, rfl, h⟩ hb
                  exact ⟨_, rfl, NewRB.stable h hb⟩
                · exact fun _ _ _ h _ => h
                · exact fun _ _ _ h _ => h
                · exact fun _ _ _ h _ => h
                · exact fun _ _ _ h _ => h
                · rintro vs w1 w2 ⟨v, rfl, h⟩ hb
                  exact ⟨_, rfl, NewRB.stable h hb⟩
                · exact fun _ _ _ h _ => h
              case hobf =>
                simp only [List.take_succ_cons, List.take_zero]
                refine rrs_cons ?_ (rrs_cons ?_ (rrs_cons ?_ (rrs_cons ?_ (rrs_cons ?_ (rrs_cons ?_ (rrs_cons ?_ (rrs_cons ?_ (rrs_cons ?_ (rrs_cons ?_ (rrs_cons ?_ (rrs_cons ?_ (rrs_cons ?_ rrs_nil))))))))))))
                · refine rr_wp (by decide) (by rfl) fun x w' A hg hp hA K' hK' => ?_
                  have e21 := hA 21
                  simp [rgDsts] at e21
                  refine wp_loadB A57 _ rfl b17 0 ?_ _ _ (HS.out.grow hg) ci (full hcil) hcil ?_
                  · simpa [Act.eval] using e21
                  · exact hK' _ _ (gr _) (by simp) (by simp)
                · refine rr_call (by decide) (by rfl) fun x w' A hg hp hA => ?_
                  have h205 := rg_pred_eq (d := 205) hp 0 rfl rfl rfl
                  have e205 := (hA.at_ 205 rfl).trans h205
                  refine ⟨32, #[.agg ci.toArray], ?_, ?_⟩
                  · go_simp
                  · refine (show Calls Tryd.prog 32 #[.agg ci.toArray] w' fun e w'' => e = .returned (.agg d.toArray) ∧ Below w'.heap.size w' w'' from by rw [HMI.out.2.2, HD.out]; exact macs mi (k * 1048576) HMI.out.2.1 w' (HG.out.grow (gt HX.out.rows.low hg)) (by omega)).mono ?_
                    rintro e w'' ⟨rfl, hb⟩
                    exact ⟨_, rfl, hb, by simp, by simp⟩
                · refine rr_eq gr (by decide) (by rfl) (by rfl) fun x w' A hg hp hA => ?_
                  have e7 := hA 7
                  simp [rgDsts] at e7
                  go_simp
                · refine rr_eq gr (by decide) (by rfl) (by rfl) fun x w' A hg hp hA => ?_
                  have e20 := hA 20
                  simp [rgDsts] at e20
                  go_simp
                · refine rr_eq gr (by decide) (by rfl) (by rfl) fun x w' A hg hp hA => ?_
                  have h207 := rg_pred_eq (d := 207) hp 0 rfl rfl rfl
                  have h208 := rg_pred_eq (d := 208) hp 1 rfl rfl rfl
                  have e207 := (hA.at_ 207 rfl).trans h207
                  have e208 := (hA.at_ 208 rfl).trans h208
                  go_simp
                · refine rr_eq gr (by decide) (by rfl) (by rfl) fun x w' A hg hp hA => ?_
                  have h209 := rg_pred_eq (d := 209) hp 0 rfl rfl rfl
                  have e209 := (hA.at_ 209 rfl).trans h209
                  have cc := (HX.out.grow hg).k HMI.out.1
                  simp only [strV] at cc
                  go_simp
                · refine rr_conv Tryd.underlying9 Tryd.underlying32 Tryd.underlying5 (by decide) rfl rfl (.tmp 210) rfl mi.k fun x w' A hg hp hA => ?_
                  have h210 := rg_pred_eq (d := 210) hp 0 rfl rfl rfl
                  have e210 := (hA.at_ 210 rfl).trans h210
                  simp [Act.eval, e210, strV]
                · refine rr_eq gr (by decide) (by rfl) (by rfl) fun x w' A hg hp hA => ?_
                  have e9 := hA 9
                  simp [rgDsts] at e9
                  go_simp
                · refine rr_eq gr (by decide) (by rfl) (by rfl) fun x w' A hg hp hA => ?_
                  have e20 := hA 20
                  simp [rgDsts] at e20
                  go_simp
                · refine rr_eq gr (by decide) (by rfl) (by rfl) fun x w' A hg hp hA => ?_
                  have h212 := rg_pred_eq (d := 212) hp 0 rfl rfl rfl
                  have h213 := rg_pred_eq (d := 213) hp 1 rfl rfl rfl
                  have e212 := (hA.at_ 212 rfl).trans h212
                  have e213 := (hA.at_ 213 rfl).trans h213
                  go_simp
                · refine rr_eq gr (by decide) (by rfl) (by rfl) fun x w' A hg hp hA => ?_
                  have h214 := rg_pred_eq (d := 214) hp 0 rfl rfl rfl
                  have e214 := (hA.at_ 214 rfl).trans h214
                  have cc := (HX.out.grow hg).b HMI.out.1
                  simp only [strV] at cc
                  go_simp
                · refine rr_conv Tryd.underlying9 Tryd.underlying32 Tryd.underlying5 (by decide) rfl rfl (.tmp 215) rfl mi.b fun x w' A hg hp hA => ?_
                  have h215 := rg_pred_eq (d := 215) hp 0 rfl rfl rfl
                  have e215 := (hA.at_ 215 rfl).trans h215
                  simp [Act.eval, e215, strV]
                · refine rr_call (by decide) (by rfl) fun x w' A hg hp hA => ?_
                  have h211 := rg_pred_new (d := 211) hp 0 rfl rfl rfl
                  have h216 := rg_pred_new (d := 216) hp 1 rfl rfl rfl
                  have h206 := rg_pred_eq (d := 206) hp 2 rfl rfl rfl
                  have e211 := hA.at_ 211 rfl
                  have e216 := hA.at_ 216 rfl
                  obtain ⟨x1, y1, f1, _, r1⟩ := h211
                  obtain ⟨x2, y2, f2, _, r2⟩ := h216
                  rw [f1] at e211
                  rw [f2] at e216
                  refine ⟨33, #[.slice (some ⟨x1, 0, none⟩) mi.k.length y1, .slice (some ⟨x2, 0, none⟩) mi.b.length y2], ?_, ?_⟩
                  · go_simp
                  · refine (rhmac_any mi.k mi.b _ _ mi.k.length mi.b.length y1 y2 w' rfl rfl r1 r2 (by omega) (by omega)).mono ?_
                    rintro e w'' ⟨rfl, hb⟩
                    exact ⟨_, rfl, hb, by simp [HD.out], by simp⟩
              case hfinf =>
              intro x w8 hg hall hap
              simp only [RgAll, holds_eq, holds_new, holds_one, and_true] at hall
              obtain ⟨h205, h206, h207, h208, h209, h210, h211, h212, h213, h214, h215, h216, h217⟩ := hall
              obtain ⟨b211, c211, h211, hb211, hB211⟩ := h211
              obtain ⟨b216, c216, h216, hb216, hB216⟩ := h216
              simp only [rgDsts, List.take_succ_cons, List.take_zero, List.filterMap_cons, List.filterMap_nil, putMany, List.foldl_cons, List.foldl_nil, List.setIfInBounds_toArray, List.set_cons_succ, List.set_cons_zero, List.drop_succ_cons, List.drop_zero, h205, h206, h207, h208, h209, h210, h212, h213, h214, h215, h217, h211, h216]
              clear h205 h206 h207 h208 h209 h210 h212 h213 h214 h215 h217 h211 h216
              replace HX := Lib.hid (HX.out.grow hg)
              clear hg hap hb211 hB211 hb216 hB216
              go_wp2
              exact ⟨⟨i + 1, by omega, by go_num, HX.out⟩, by simp [intOf]; omega⟩
            · go_wp2
              go_ret
              exact ⟨rfl, X.rows.low⟩
end Go.Proofs.YtoemceehmiaigaaDoor.LawMacs
