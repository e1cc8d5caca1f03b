/- SHA-256's digest: the reference's walk. -/
import Derived.Test.YtoemceehmiaigaaDoorShaPad
import Derived.Test.YtoemceehmiaigaaDoorShaWords
import Derived.Test.YtoemceehmiaigaaDoorShaWorked
namespace Go.Proofs.YtoemceehmiaigaaDoor.Sha
open Go.RowKit Go.Proofs.YtoemceehmiaigaaDoor.Mem Go.Proofs.YtoemceehmiaigaaDoor.Loan

theorem A30 : Arr Tryd.prog 30 (List.replicate 32 (bv 0)) := Arr.mk' (d := .array 32 5) (by kernel_rfl) rfl (by kernel_rfl)

/-- a list of n bytes, filled up to i -/
def fillB (d : List UInt8) (i n : Nat) : List UInt8 := d.take i ++ List.replicate (n - i) 0
theorem fillB_length (d : List UInt8) (i n : Nat) (hd : d.length = n) (hi : i ≤ n) : (fillB d i n).length = n := by simp [fillB]; omega
theorem fillB_set (d : List UInt8) (i n : Nat) (c : UInt8) (hd : d.length = n) (hi : i < n) (hc : d[i]? = some c) : ((fillB d i n).map bv).set i (bv c) = (fillB d (i + 1) n).map bv := by
  rw [← List.map_set]
  congr 1
  have h : i < d.length := by omega
  have hc' : d[i] = c := by rw [List.getElem?_eq_getElem h] at hc; exact Option.some.inj hc
  unfold fillB
  rw [List.set_append_right _ _ (by simp; omega), take_succ_ h, hc', List.append_assoc, show n - i = (n - (i + 1)) + 1 by omega, List.replicate_succ]
  congr 1
  rw [show i - (List.take i d).length = 0 by simp; omega]
  rfl
theorem fillB_get (d : List UInt8) (i n : Nat) (hd : d.length = n) (hi : i < n) : ∃ u, ((fillB d i n).map bv)[i]? = some u := by
  have := fillB_length d i n hd (by omega)
  exact ⟨_, List.getElem?_eq_getElem (by rw [List.length_map]; omega)⟩
theorem fillB_full (d : List UInt8) (n : Nat) (hd : d.length = n) : fillB d n n = d := by simp [fillB, ← hd]
theorem fillB_none (d : List UInt8) (n : Nat) : (fillB d 0 n).map bv = List.replicate n (bv 0) := by simp [fillB]

theorem dig_get (s : S8) (i : Nat) (hi : i < 32) : (dig s)[i]? = some (UInt8.ofNat ((s.at_ (i / 4)).toNat / 2 ^ (24 - 8 * (i % 4)))) := by
  simp [dig, hi]
theorem dig_val (x : UInt32) (r : Nat) (e : Int) (he : e = 24 - 8 * (r : Int)) (hr : r < 4) : ((x.toNat : Int) / 2 ^ e.toNat % 256) = (((UInt8.ofNat (x.toNat / 2 ^ (24 - 8 * r))).toNat : Nat) : Int) := by
  have e' : e.toNat = 24 - 8 * r := by omega
  rw [e', UInt8.toNat_ofNat']
  simp

def SR (H g4 g7 : Nat) (w0 : World) (sc dc : List Value) (w : World) : Prop :=
  H < g4 ∧ g4 < g7 ∧ Blk w H 30 (List.replicate 32 (bv 0)) ∧ Blk w g4 40 sc ∧ Blk w g7 30 dc ∧ Below H w0 w
theorem SR.set {H g4 g7 : Nat} {w0 w : World} {sc dc : List Value} (h : SR H g4 g7 w0 sc dc w) (i : Nat) (v : Value) : SR H g4 g7 w0 sc (dc.set i v) (w.setCell ⟨g7, i, none⟩ v) := by
  obtain ⟨h1, h2, h3, h4, h5, h6⟩ := h
  exact ⟨h1, h2, h3.far (by simp; omega) v, h4.far (by simp; omega) v, h5.set_ i v, h6.setCell (by simp; omega) v⟩

set_option maxHeartbeats 3200000 in
set_option maxRecDepth 8000 in
theorem rsum_any (l : List UInt8) (A : Option Addr) (c : Nat) (w : World) (ha : RB w A l) (hl : l.length ≤ 35184372088832) :
    Calls Tryd.prog 21 #[.slice A l.length c] w fun e w' => e = .returned (.agg ((sumf l).map bv).toArray) ∧ Below w.heap.size w w' := by
  generalize hH : w.heap.size = H
  have HA := Lib.hid ha
  clear ha
  have hm1 : 64 ≤ (padded l).length := by rw [padded_length]; unfold noughts; omega
  have hm2 : (padded l).length ≤ l.length + 73 := by rw [padded_length]; unfold noughts; omega
  have hm3 : (padded l).length % 64 = 0 := by rw [padded_length]; unfold noughts; omega
  have hsum : sumf l = dig (runB (padded l) ((padded l).length / 64)) := rfl
  obtain ⟨m, hm⟩ : ∃ m, m = padded l := ⟨_, rfl⟩
  rw [← hm] at hm1 hm2 hm3 hsum
  have HM := Lib.hid hm
  have HS := Lib.hid hsum
  clear hm hsum
  go_enter Tryd.func21, Tryd.ntmps21
  go_wp2_with (first
    | (go_at_call 51; go_must (refine (padded_any l A c _ (HA.out.below (hH ▸ hb1)) hl).mono ?_); rintro e w2 ⟨v, rfl, hown2, hb2⟩)
    | (go_at_call 52; go_must (refine (rstarts_any _).mono ?_); rintro e w3 ⟨rfl, hb3⟩)
    | ((with_reducible show wpList _ _ _ (⟨some 2, _, _, _, _, _⟩ :: _) _ _); go_must (refine wpList_allocB (op := ⟨some 2, _, _, _, _, _⟩) A30 rfl rfl H hH ?_); intro w1 hB1 hb1 hz1)
    | ((with_reducible show wpList _ _ _ (⟨some 4, _, _, _, _, _⟩ :: _) _ _); go_must (refine wpList_allocB (op := ⟨some 4, _, _, _, _, _⟩) A40 rfl rfl w3.heap.size rfl ?_); intro w4 hB4 hb4 hz4)
    | ((with_reducible show wpList _ _ _ (⟨none, .store 40 _ _, _, _, _, _⟩ :: _) _ _); go_must (refine wpList_storeB (op := ⟨none, _, _, _, _, _⟩) A40 rfl _ _ rfl w3.heap.size 0 rfl start.cells rfl rfl _ _ hB4 (Nat.le_refl 8) (cells_one _) ?_); intro w5 hB5 hg5 hz5))
  rw [splice_all zero8.cells start.cells rfl] at hB5
  rw [← HM.out] at hown2
  obtain ⟨A', n', c', rfl, hn'⟩ := own_form hown2
  subst hn'
  have hrb := own_rb' hown2
  obtain ⟨ad, rfl, hx⟩ := hrb 0 (by omega)
  clear hx
  obtain ⟨H2, hH2⟩ : ∃ H2, H2 = w2.heap.size := ⟨_, rfl⟩
  have hHH : H < H2 := by have := hb2.size; omega
  have hBz : Blk w2 H 30 (List.replicate 32 (bv 0)) := hB1.below hb2 (by omega)
  have hbw : Below H w w2 := hb1.trans (hb2.mono (by omega))
  have hb5 : Below H2 w2 w5 := ((hH2 ▸ hb3).trans (hb4.mono (by have := hb3.size; omega))).grown hg5 (by have := hb3.size; have := hb4.size; omega) (fun j hj => by simp at hj; have := hb3.size; omega)
  obtain ⟨g4, hg4⟩ : ∃ g4, g4 = w3.heap.size := ⟨_, rfl⟩
  have hg42 : H2 ≤ g4 := by have := hb3.size; omega
  rw [← hg4] at hB5 ⊢
  have HF := Lib.hid (And.intro hrb (And.intro hBz hbw))
  have HX := Lib.hid (And.intro hB5 hb5)
  have HH2 := Lib.hid hH2
  clear hown2 hrb hBz hbw hB5 hb5 hg4 hb3 hb4 hg5 hB4 hz4 hz5 hB1 hb1 hz1 hb2 hH2
  go_loopw [5] (fun i wr => ∃ k : Nat, 64 * k ≤ m.length ∧ i = .int .i64 ((64 * k : Nat) : Int) ∧ Blk wr g4 40 (runB m k).cells ∧ Below H2 w2 wr)
    (fun i _ => m.length - (intOf i).toNat)
  case atStart => exact ⟨0, by omega, rfl, HX.out.1, HX.out.2⟩
  case round =>
    clear HX
    obtain ⟨k, hk, rfl, hB, hb⟩ := hrel
    obtain ⟨p, hp⟩ : ∃ p, p = 64 * k := ⟨_, rfl⟩
    rw [← hp] at hk ⊢
    by_cases hlt : p < m.length
    -- A>
    · have hp64 : p + 64 ≤ m.length := by omega
      have hk1 : runB m (k + 1) = ((runs K (W (wordAt m p)) (runB m k) 64).add (runB m k)) := by
        rw [runB_succ, ← hp]; exact S8.add_comm _ _
      obtain ⟨s, hs⟩ : ∃ s, s = runB m k := ⟨_, rfl⟩
      rw [← hs] at hB hk1
      have HX := Lib.hid (And.intro hB (And.intro hb hp))
      obtain ⟨r, hr⟩ : ∃ r, r = (runs K (W (wordAt m p)) s 64).add s := ⟨_, rfl⟩
      rw [← hr] at hk1
      have HK1 := Lib.hid hk1
      have HR := Lib.hid hr
      clear hB hb hs hk1 hp hr
      go_wp2_with (first
        | (go_at_call 53; go_must (refine (words_any m ad c' p _ (HF.out.1.below (HH2.out ▸ HX.out.2.1)) hp64 (by omega)).mono ?_); rintro e w6 ⟨rfl, hb6⟩)
        | (go_at_call 54; go_must (refine (worked_any s _ _).mono ?_); rintro e w9 ⟨he, hb9⟩; rw [← HR.out] at he; subst he)
        | ((with_reducible show wpList _ _ _ (⟨some 6, _, _, _, _, _⟩ :: _) _ _); go_must (refine wpList_allocB (op := ⟨some 6, _, _, _, _, _⟩) A92 rfl rfl w6.heap.size rfl ?_); intro w7 hB7 hb7 hz7)
        | ((with_reducible show wpList _ _ _ (⟨none, .store 92 _ _, _, _, _, _⟩ :: _) _ _); go_must (refine wpList_storeB (op := ⟨none, _, _, _, _, _⟩) A92 rfl _ _ rfl w6.heap.size 0 rfl (col (W (wordAt m p)) 64) rfl (by rw [col_length, col_length]) _ _ hB7 (by rw [col_length, col_length]; exact Nat.le_refl _) (col_one _ _) ?_); intro w8 hB8 hg8 hz8)
        | ((with_reducible show wpList _ _ _ (⟨some 21, _, _, _, _, _⟩ :: _) _ _); go_must (refine wpList_loadB (op := ⟨some 21, _, _, _, _, _⟩) A40 rfl _ rfl g4 0 rfl _ _ (((HX.out.1.grow hb6).below hb7 (by have := HX.out.1.lt; have := hb6.size; omega)).grown hg8 (by have := HX.out.1.lt; have := hb6.size; simp; omega)) s.cells rfl rfl ?_))
        | ((with_reducible show wpList _ _ _ (⟨some 22, _, _, _, _, _⟩ :: _) _ _); go_must (refine wpList_loadB (op := ⟨some 22, _, _, _, _, _⟩) A92 rfl _ rfl w6.heap.size 0 rfl _ _ hB8 (col (W (wordAt m p)) 64) (by rw [splice_all _ _ (by rw [col_length, col_length]), List.drop_zero, List.take_of_length_le (by rw [col_length, col_length]; exact Nat.le_refl _)]) (by rw [col_length, col_length]) ?_))
        | ((with_reducible show wpList _ _ _ (⟨none, .store 40 _ _, _, _, _, _⟩ :: _) _ _); go_must (refine wpList_storeB (op := ⟨none, _, _, _, _, _⟩) A40 rfl _ _ rfl g4 0 rfl r.cells rfl rfl _ _ ((((HX.out.1.grow hb6).below hb7 (by have := HX.out.1.lt; have := hb6.size; omega)).grown hg8 (by have := HX.out.1.lt; have := hb6.size; simp; omega)).grow hb9) (Nat.le_refl 8) (cells_one _) ?_); intro w10 hB10 hg10 _))
      have z1 := HX.out.1.lt
      have z2 := hb6.size
      have z3 := hb9.size
      have z4 := HX.out.2.1.size
      have hB11 : Blk w10 g4 40 (runB m (k + 1)).cells := by
        rw [HK1.out]
        rw [splice_all s.cells r.cells rfl] at hB10
        exact hB10
      have hb11 : Below H2 w2 w10 := by
        have e1 : Below H2 w2 w7 := (HX.out.2.1.trans (hb6.mono (by omega))).trans (hb7.mono (by omega))
        have e2 : Below H2 w2 w8 := e1.grown hg8 (by omega) (fun j hj => by simp at hj; omega)
        exact (e2.trans (hb9.mono (by omega))).grown hg10 (by omega) (fun j hj => by simp at hj; omega)
      have hp := HX.out.2.2
      exact ⟨⟨k + 1, by omega, by go_num, hB11, hb11⟩, by simp [intOf]; omega⟩
    -- <A
    · have hpm : p = m.length := by omega
      have hk1 : k = m.length / 64 := by omega
      rw [hk1] at hB
      obtain ⟨s, hs⟩ : ∃ s, s = runB m (m.length / 64) := ⟨_, rfl⟩
      rw [← hs] at hB
      have hS := HS.out
      rw [← hs] at hS
      replace HS := Lib.hid hS
      clear hs hS hk1
      have X := And.intro hB hb
      have HX := Lib.hid X
      clear X
      go_wp2_with (first
        | ((with_reducible show wpList _ _ _ (⟨some 7, _, _, _, _, _⟩ :: _) _ _); go_must (refine wpList_allocB (op := ⟨some 7, _, _, _, _, _⟩) A30 rfl rfl wr.heap.size rfl ?_); intro w6 hB6 hb6 hz6))
      have X : SR H g4 wr.heap.size w s.cells ((fillB (dig s) 0 32).map bv) w6 := by
        have z1 := hB.lt
        rw [fillB_none]
        exact ⟨by omega, by omega, (HF.out.2.1.below hb (by omega)).grow hb6, hB.grow hb6, hB6, (HF.out.2.2.trans (hb.mono (by omega))).trans (hb6.mono (by omega))⟩
      obtain ⟨g7, hg7⟩ : ∃ g, g = wr.heap.size := ⟨_, rfl⟩
      rw [← hg7] at X ⊢
      replace HX := Lib.hid X
      clear X hB hb hB6 hb6 hz6 hg7 HF HH2 hpm hlt hk
      go_loopw [8] (fun i wr => ∃ k : Nat, k ≤ 32 ∧ i = .int .i64 k ∧ SR H g4 g7 w s.cells ((fillB (dig s) k 32).map bv) wr)
        (fun i _ => 32 - (intOf i).toNat)
      case atStart => exact ⟨0, by omega, rfl, HX.out⟩
      case round =>
        clear HX
        obtain ⟨i, hi, rfl, X⟩ := hrel
        by_cases hlt : i < 32
        -- B>
        · obtain ⟨q, hq⟩ : ∃ q, q = i / 4 := ⟨_, rfl⟩
          obtain ⟨r, hr⟩ : ∃ r, r = i % 4 := ⟨_, rfl⟩
          have hr4 : r < 4 := by omega
          have hq8 : q < 8 := by omega
          have q0 := X.2.2.2.1.cell q
          rw [← col8, col_get _ _ _ hq8] at q0
          obtain ⟨x, hx⟩ : ∃ x, x = s.at_ q := ⟨_, rfl⟩
          rw [← hx] at q0
          obtain ⟨bt, hbt⟩ : ∃ bt, bt = UInt8.ofNat (x.toNat / 2 ^ (24 - 8 * r)) := ⟨_, rfl⟩
          have hget : (dig s)[i]? = some bt := by rw [dig_get s i hlt, hbt, hx, hq, hr]
          have hval : (x.toNat : Int) / 2 ^ (24 - 8 * r) % 256 = (((UInt8.ofNat (x.toNat / 2 ^ (24 - 8 * r))).toNat : Nat) : Int) := by
            rw [UInt8.toNat_ofNat']; simp
          rw [← hbt] at hval
          obtain ⟨old, q1⟩ := fillB_get (dig s) i 32 (dig_length s) hlt
          rw [← X.2.2.2.2.1.cell] at q1
          have q2 := X.2.2.2.2.1.frozen i
          have HX := Lib.hid (And.intro X hget)
          have a1 : (i : Int) / 4 = (q : Int) := by omega
          have a2 : (i : Int) % 4 = (r : Int) := by omega
          have a3 : (i : Int).tmod 4 = (r : Int) := by rw [Int.tmod_eq_emod_of_nonneg (by omega)]; omega
          have a4 : (i : Int).tdiv 4 = (q : Int) := by rw [Int.tdiv_eq_ediv_of_nonneg (by omega)]; omega
          have y0 : (0 : Int) ≤ (i : Int) := by omega
          have y1 : (0 : Int) ≤ (q : Int) := by omega
          have y2 : (0 : Int) ≤ (r : Int) := by omega
          have x0 : (i : Int) < 32 := by omega
          have x1 : (q : Int) < 8 := by omega
          have x2 : (r : Int) < 4 := by omega
          clear X hq hr hx hbt hget
          go_wp2
          have hend := HX.out.1.set i (bv bt)
          rw [fillB_set (dig s) i 32 bt (dig_length s) hlt HX.out.2] at hend
          exact ⟨⟨i + 1, by omega, by go_num, by first | exact hend | (rw [hval]; exact hend)⟩, by simp [intOf]; omega⟩
        -- <B
        · have hi32 : i = 32 := by omega
          rw [hi32, fillB_full _ _ (dig_length s)] at X
          clear hi32
          obtain ⟨d, hd⟩ : ∃ d, d = (dig s).map bv := ⟨_, rfl⟩
          have hdl : d.length = (List.replicate 32 (bv 0)).length := by rw [hd]; simp [dig_length]
          have hd1 : ∀ v ∈ d, v.oneCell' = true := by rw [hd]; exact bytes_oneCell _
          rw [← hd] at X
          have HD := Lib.hid hd
          clear hd
          obtain ⟨h1, h2, h3, h4, h5, h6⟩ := X
          go_wp2_with (first
            | ((with_reducible show wpList _ _ _ (⟨some 40, _, _, _, _, _⟩ :: _) _ _); go_must (refine wpList_loadB (op := ⟨some 40, _, _, _, _, _⟩) A30 rfl _ rfl g7 0 rfl _ _ h5 d ((congrArg (List.take _) List.drop_zero).trans (List.take_of_length_le (Nat.le_of_eq hdl))) hdl ?_))
            | ((with_reducible show wpList _ _ _ (⟨none, .store 30 _ _, _, _, _, _⟩ :: _) _ _); go_must (refine wpList_storeB (op := ⟨none, _, _, _, _, _⟩) A30 rfl _ _ rfl H 0 rfl d rfl hdl _ _ h3 (Nat.le_of_eq ((Nat.zero_add _).trans hdl)) hd1 ?_); intro w10 hB10 hgr10 _))
          rw [splice_all _ _ hdl] at hB10
          refine ret_cell A30 Tryd.results21 H rfl _ d hB10 hdl rfl ⟨by rw [HD.out, HS.out], ?_⟩
          exact h6.grown hgr10 (by have := h3.lt; omega) (fun j hj => by simp at hj; omega)
end Go.Proofs.YtoemceehmiaigaaDoor.Sha
