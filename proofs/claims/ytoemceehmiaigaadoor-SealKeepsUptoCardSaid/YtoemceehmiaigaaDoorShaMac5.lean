/- HMAC-SHA256: the program's Hmac; the reference's walk. -/
import Derived.Test.YtoemceehmiaigaaDoorShaAid
import Derived.Test.YtoemceehmiaigaaDoorRgR

/- HMAC-SHA256: the keyed digest in plain words; a Mac's cells; the program's pad and begun. -/
namespace Go.Proofs.YtoemceehmiaigaaDoor.Sha
open Go.RowKit Go.Proofs.YtoemceehmiaigaaDoor.Mem Go.Proofs.YtoemceehmiaigaaDoor.Loan
set_option linter.unusedVariables false

def padK (key : List UInt8) (by_ : UInt8) : List UInt8 := key.map (· ^^^ by_)
theorem padK_length (key : List UInt8) (by_ : UInt8) : (padK key by_).length = key.length := by simp [padK]
def shortK (k : List UInt8) : List UInt8 := if 64 < k.length then sumf k else k
theorem shortK_length (k : List UInt8) : (shortK k).length ≤ 64 := by
  unfold shortK
  split
  · rw [sumf_length]; omega
  · omega
def keyOf (k : List UInt8) : List UInt8 := shortK k ++ List.replicate (64 - (shortK k).length) 0
theorem keyOf_length (k : List UInt8) : (keyOf k).length = 64 := by
  have := shortK_length k
  simp [keyOf]; omega
def hmacf (k m : List UInt8) : List UInt8 := sumf (padK (keyOf k) 0x5C ++ sumf (padK (keyOf k) 0x36 ++ m))
def begunB (key b : List UInt8) : List UInt8 := if b = [] then padK key 0x36 else b

/-- the cells of a Mac -/
def mcell (key b : List UInt8) : List Value := key.map bv ++ hashCells b
theorem mcell_length (key b : List UInt8) (hk : key.length = 64) : (mcell key b).length = 137 := by simp [mcell, hashCells_length, hk]
theorem mcell_one (key b : List UInt8) : ∀ v ∈ mcell key b, v.oneCell' = true := by
  intro v hv
  rcases List.mem_append.1 hv with h | h
  · exact bytes_oneCell _ v h
  · exact hash_one _ v h
theorem mcell_key (key b : List UInt8) (hk : key.length = 64) : (mcell key b).take 64 = key.map bv := by unfold mcell; rw [List.take_left' (by simp [hk])]
theorem mcell_hash (key b : List UInt8) (hk : key.length = 64) : ((mcell key b).drop 64).take 73 = hashCells b := by
  unfold mcell; rw [List.drop_left' (by simp [hk]), List.take_of_length_le (by rw [hashCells_length]; omega)]
theorem mcell_n (key b : List UInt8) (hk : key.length = 64) : (mcell key b)[136]? = some (.int .i64 (b.length : Int)) := by
  unfold mcell
  rw [List.getElem?_append_right (by simp [hk])]
  simp only [List.length_map, hk]
  exact hcell_72 _ _ _ (restB_length b)
theorem mcell_put (key b b' : List UInt8) (hk : key.length = 64) : splice (mcell key b) 64 (hashCells b') = mcell key b' := by
  unfold mcell splice
  rw [List.take_left' (by simp [hk]), hashCells_length, List.drop_of_length_le (by simp [hashCells_length, hk]), List.append_nil]
theorem mcell_copy (key q b : List UInt8) (hk : key.length = 64) (hq : q.length ≤ 64) : splice (mcell key b) 0 (q.map bv) = mcell (q ++ key.drop q.length) b := by
  unfold mcell splice
  rw [List.take_zero, List.nil_append, Nat.zero_add, List.length_map, List.drop_append_of_le_length (by simp [hk]; exact hq), ← List.map_drop, List.map_append, List.append_assoc]

theorem A57 : Arr Tryd.prog 57 (mcell (List.replicate 64 0) []) := Arr.mk' Tryd.underlying57 rfl (by kernel_rfl)

/-- a key of which i bytes are turned -/
def padP (key : List UInt8) (by_ : UInt8) (i : Nat) : List UInt8 := (key.take i).map (· ^^^ by_) ++ key.drop i
theorem padP_length (key : List UInt8) (by_ : UInt8) (i : Nat) : (padP key by_ i).length = key.length := by simp [padP]; omega
theorem padP_zero (key : List UInt8) (by_ : UInt8) : padP key by_ 0 = key := by simp [padP]
theorem padP_all (key : List UInt8) (by_ : UInt8) (i : Nat) (h : key.length ≤ i) : padP key by_ i = padK key by_ := by
  unfold padP padK; rw [List.take_of_length_le h, List.drop_of_length_le h, List.append_nil]
theorem padP_get (key : List UInt8) (by_ : UInt8) (i : Nat) (h : i < key.length) : ((padP key by_ i).map bv)[i]? = some (bv key[i]) := by
  rw [List.getElem?_map]
  unfold padP
  rw [List.getElem?_append_right (by simp; omega)]
  simp
  rw [show i - min i key.length = 0 by omega]
  simp [h]
theorem padP_step (key : List UInt8) (by_ : UInt8) (i : Nat) (h : i < key.length) : ((padP key by_ i).map bv).set i (bv (key[i] ^^^ by_)) = (padP key by_ (i + 1)).map bv := by
  rw [← List.map_set]
  congr 1
  unfold padP
  have hk : ((key.take i).map (· ^^^ by_)).length = i := by simp; omega
  rw [List.set_append_right _ _ (by omega), hk, Nat.sub_self, List.drop_eq_getElem_cons h, List.set_cons_zero, take_succ_ h, List.map_append, List.append_assoc]
  rfl
theorem xor_b (c d : UInt8) : bits .xor .u8 (c.toNat : Int) (d.toNat : Int) = ((c ^^^ d).toNat : Int) := by
  rw [UInt8.toNat_xor]
  exact u8_xor_nat c.toNat d.toNat c.toNat_lt d.toNat_lt

def PD (H : Nat) (w0 : World) (mc ks : List Value) (w : World) : Prop := Blk w H 57 mc ∧ Blk w (H + 1) 41 ks ∧ Below H w0 w
theorem PD.set {H : Nat} {w0 w : World} {mc ks : List Value} (h : PD H w0 mc ks w) (i : Nat) (v : Value) : PD H w0 mc (ks.set i v) (w.setCell ⟨H + 1, i, none⟩ v) :=
  ⟨h.1.far (by simp) v, h.2.1.set_ i v, h.2.2.setCell (by simp) v⟩

set_option maxHeartbeats 1600000 in
set_option maxRecDepth 40000 in
theorem pad_any (key b : List UInt8) (by_ : UInt8) (hk : key.length = 64) (w : World) :
    Calls Tryd.prog 58 #[.agg (mcell key b).toArray, .int .u8 (by_.toNat : Int)] w fun e w' => ∃ g, e = .returned (.slice (some ⟨g, 0, none⟩) 64 64) ∧ w.heap.size ≤ g ∧ Blk w' g 41 ((padK key by_).map bv) ∧ Below w.heap.size w w' := by
  generalize hH : w.heap.size = H
  have hml := mcell_length key b hk
  have hmk := mcell_key key b hk
  obtain ⟨mc, hmc⟩ : ∃ x, x = mcell key b := ⟨_, rfl⟩
  rw [← hmc] at hml hmk ⊢
  clear hmc
  obtain ⟨ks, hks⟩ : ∃ x, x = key.map bv := ⟨_, rfl⟩
  have hkl : ks.length = (List.replicate 64 (bv 0)).length := by rw [hks]; simp [hk]
  have hk1 : ∀ v ∈ ks, v.oneCell' = true := by rw [hks]; exact bytes_oneCell _
  rw [← hks] at hmk
  have HKS := Lib.hid hks
  have hmk' : (mc.drop 0).take (List.replicate 64 (bv 0)).length = ks := by rw [List.drop_zero, List.length_replicate]; exact hmk
  clear hks hmk
  obtain ⟨bn, hbn⟩ : ∃ x, x = by_.toNat := ⟨_, rfl⟩
  rw [← hbn]
  have HBN := Lib.hid hbn
  clear hbn
  go_enter Tryd.func58, Tryd.ntmps58
  go_wp2_with (first
    | ((with_reducible show wpList _ _ _ (⟨some 2, _, _, _, _, _⟩ :: _) _ _); go_must (refine wpList_boxB (op := ⟨some 2, _, _, _, _, _⟩) rfl _ rfl mc rfl H hH ?_); intro w1 hB1 hb1 hz1)
    | ((with_reducible show wpList _ _ _ (⟨some 8, _, _, _, _, _⟩ :: _) _ _); go_must (refine wpList_loadB (op := ⟨some 8, _, _, _, _, _⟩) A41 rfl _ rfl H 0 rfl _ _ hB1 ks hmk' hkl ?_))
    | ((with_reducible show wpList _ _ _ (⟨some 5, _, _, _, _, _⟩ :: _) _ _); go_must (refine wpList_allocB (op := ⟨some 5, _, _, _, _, _⟩) A41 rfl rfl (H + 1) hz1 ?_); intro w2 hB2 hb2 hz2)
    | ((with_reducible show wpList _ _ _ (⟨none, .store 41 _ _, _, _, _, _⟩ :: _) _ _); go_must (refine wpList_storeB (op := ⟨none, _, _, _, _, _⟩) A41 rfl _ _ rfl (H + 1) 0 rfl ks rfl hkl _ _ hB2 (Nat.le_of_eq ((Nat.zero_add _).trans hkl)) hk1 ?_); intro w3 hB3 hg3 hz3))
  rw [splice_all _ _ hkl, HKS.out] at hB3
  have X : PD H w mc ((padP key by_ 0).map bv) w3 := by
    rw [padP_zero]
    exact ⟨(hB1.below hb2 (by omega)).grown hg3 (by simp), hB3, (hb1.trans (hb2.mono (by omega))).grown hg3 (by omega) (fun j hj => by simp at hj; omega)⟩
  have HX := Lib.hid X
  clear X hB1 hb1 hz1 hB2 hb2 hz2 hB3 hg3 hz3
  go_loopw [9] (fun v wr => ∃ i : Nat, i ≤ 64 ∧ v = .int .i64 i ∧ PD H w mc ((padP key by_ i).map bv) wr) (fun v _ => 64 - (intOf v).toNat)
  case atStart => exact ⟨0, by omega, rfl, HX.out⟩
  case round =>
    clear HX
    obtain ⟨i, hi, rfl, X⟩ := hrel
    by_cases hlt : i < 64
    · have hik : i < key.length := by omega
      have q0 := X.2.1.cell i
      rw [padP_get _ _ _ hik] at q0
      have f0 := X.2.1.frozen i
      have hx := xor_b key[i] by_
      rw [← HBN.out] at hx
      have hend := X.set i (bv (key[i] ^^^ by_))
      rw [padP_step _ _ _ hik] at hend
      have y0 : (0 : Int) ≤ (i : Int) := by omega
      have x0 : (i : Int) < 64 := by omega
      have HE := Lib.hid hend
      clear hend X
      go_wp2
      exact ⟨⟨i + 1, by omega, by go_num, HE.out⟩, by simp [intOf]; omega⟩
    · have hi64 : i = 64 := by omega
      rw [hi64, padP_all _ _ _ (by omega)] at X
      clear hi64
      go_wp2
      go_ret
      exact ⟨H + 1, rfl, by omega, X.2.1, X.2.2⟩
end Go.Proofs.YtoemceehmiaigaaDoor.Sha

/- HMAC-SHA256: the program's begun, Write, Sum, NewMac, Hmac. -/
namespace Go.Proofs.YtoemceehmiaigaaDoor.Sha
open Go.RowKit Go.Proofs.YtoemceehmiaigaaDoor.Mem Go.Proofs.YtoemceehmiaigaaDoor.Loan
set_option linter.unusedVariables false

theorem write_n (b q r : List UInt8) (A : Option Addr) (n c : Nat) (w : World) (hn : n = q.length) (hq : RB w A q) (hcap : n ≤ c) (hG : GB w) (hlen : b.length + n < 4611686018427387904) (hr : b ++ q = r) :
    Calls Tryd.prog 26 #[.agg (hashCells b).toArray, .slice A n c] w fun e w' => e = .returned (.agg (hashCells r).toArray) ∧ Below w.heap.size w w' := by
  subst hn hr; exact write_any b q A c w hq hcap hG hlen
theorem rb_blk {w : World} {g : Nat} {T : TypeId} {l : List UInt8} (h : Blk w g T (l.map bv)) : RB w (some ⟨g, 0, none⟩) l := by
  have := h.rb 0 l.length
  simpa using this

set_option maxHeartbeats 1600000 in
set_option maxRecDepth 40000 in
theorem begun_any (key b : List UInt8) (hk : key.length = 64) (w : World) (hG : GB w) (hlen : b.length < 4611686018427387904) :
    Calls Tryd.prog 57 #[.agg (mcell key b).toArray] w fun e w' => e = .returned (.agg (mcell key (begunB key b)).toArray) ∧ Below w.heap.size w w' := by
  generalize hH : w.heap.size = H
  have HG := Lib.hid hG
  have hH0 : 0 < H := hH ▸ hG.2
  have hml := mcell_length key b hk
  have hmn := mcell_n key b hk
  obtain ⟨mc, hmc⟩ : ∃ x, x = mcell key b := ⟨_, rfl⟩
  obtain ⟨md, hmd⟩ : ∃ x, x = mcell key (begunB key b) := ⟨_, rfl⟩
  have hcl : mc.length = (mcell (List.replicate 64 0) []).length := by rw [hmc, mcell_length _ _ hk, mcell_length _ _ (by simp)]
  have hdl : md.length = (mcell (List.replicate 64 0) []).length := by rw [hmd, mcell_length _ _ hk, mcell_length _ _ (by simp)]
  have hd1 : ∀ v ∈ md, v.oneCell' = true := by rw [hmd]; exact mcell_one _ _
  rw [← hmc] at hml hmn
  rw [← hmc, ← hmd]
  have HM := Lib.hid (And.intro hmc hmd)
  obtain ⟨n, hn⟩ : ∃ n, n = b.length := ⟨_, rfl⟩
  rw [← hn] at hmn hlen
  have HN := Lib.hid hn
  clear hG hmc hmd hn
  go_enter Tryd.func57, Tryd.ntmps57
  by_cases hn0 : n = 0
  · have hn0' : (n : Int) = 0 := by omega
    have hb0 : b = [] := List.eq_nil_of_length_eq_zero (by rw [← HN.out]; exact hn0)
    have hmd : md = mcell key (padK key 0x36) := by rw [HM.out.2]; unfold begunB; rw [if_pos hb0]
    have HMD := Lib.hid hmd
    clear hmd hb0 hn0
    obtain ⟨h0, hh0⟩ : ∃ h, h = hashCells [] := ⟨_, rfl⟩
    obtain ⟨h1, hh1⟩ : ∃ h, h = hashCells (padK key 0x36) := ⟨_, rfl⟩
    have hh1l : h1.length = (hashCells []).length := by rw [hh1, hashCells_length, hashCells_length]
    have hh11 : ∀ v ∈ h1, v.oneCell' = true := by rw [hh1]; exact hash_one _
    have HH := Lib.hid (And.intro hh0 hh1)
    clear hh0 hh1
    go_upto_region 2 with (first
      | ((with_reducible show wpList _ _ _ (⟨some 1, _, _, _, _, _⟩ :: _) _ _); go_must (refine wpList_boxB (op := ⟨some 1, _, _, _, _, _⟩) rfl _ rfl mc rfl H hH ?_); intro w1 hB1 hb1 hz1)
      | ((with_reducible show wpList _ _ _ (⟨some 2, _, _, _, _, _⟩ :: _) _ _); go_must (refine wpList_allocB (op := ⟨some 2, _, _, _, _, _⟩) A57 rfl rfl (H + 1) hz1 ?_); intro w2 hB2 hb2 hz2; have c136 : w2.cell? ⟨H, 136, none⟩ = some (.int .i64 (n : Int)) := ((hB1.below hb2 (by omega)).cell 136).trans hmn))
    have hB1' : Blk w2 H 57 mc := hB1.below hb2 (by omega)
    have hbw : Below H w w2 := hb1.trans (hb2.mono (by omega))
    have hGB : GB w2 := HG.out.below hbw hH0
    clear hB1 hb1 hz1 hb2 c136
    refine wp_region_rrT (fun a b => Below a.heap.size a b) (fun _ _ _ h g => gt h g) (fun _ _ h => h.size) (fun a => (gr a).drew) 5
      [.eq 7 (.agg h0.toArray), .eq 8 (.agg mc.toArray), .new 9 (fun v W => ∃ g, v = .slice (some ⟨g, 0, none⟩) 64 64 ∧ H + 1 < g ∧ Blk W g 41 ((padK key 0x36).map bv)), .eq 10 (.agg h1.toArray), .eq 11 (.pointer (some ⟨H, 64, none⟩))]
      (by kernel_rfl) (by kernel_rfl) (by kernel_rfl) (by kernel_rfl) ?hst ?hob ?hfin
    case hst =>
      intro s hs
      simp only [List.mem_cons, List.not_mem_nil, or_false] at hs
      rcases hs with rfl | rfl | rfl | rfl | rfl
      · exact fun _ _ _ h _ => h
      · exact fun _ _ _ h _ => h
      · rintro vs w1 w2 ⟨v, rfl, g, rfl, hg, h⟩ hb
        exact ⟨_, rfl, g, rfl, hg, h.grow hb⟩
      · exact fun _ _ _ h _ => h
      · exact fun _ _ _ h _ => h
    case hob =>
      simp only [List.take_succ_cons, List.take_zero]
      refine rrs_cons ?_ (rrs_cons ?_ (rrs_cons ?_ (rrs_cons ?_ (rrs_cons ?_ rrs_nil))))
      · refine rr_call (by decide) (by rfl) fun x w' A hg hp hA => ⟨25, #[], ?_, ?_⟩
        · go_simp
        · refine (new_any w').mono ?_
          rintro e w'' ⟨rfl, hb⟩
          exact ⟨_, rfl, hb, by simp [HH.out.1], by simp⟩
      · refine rr_wp (by decide) (by rfl) fun x w' A hg hp hA K' hK' => ?_
        have e1 := hA 1
        simp [rgDsts] at e1
        refine wp_loadB A57 _ rfl H 0 ?_ _ _ (hB1'.grow hg) mc ((congrArg (List.take _) List.drop_zero).trans (List.take_of_length_le (Nat.le_of_eq hcl))) hcl ?_
        · simpa [Act.eval] using e1
        · exact hK' _ _ (gr _) (by simp) (by simp)
      · refine rr_call (by decide) (by rfl) fun x w' A hg hp hA => ⟨58, #[.agg mc.toArray, .int .u8 54], ?_, ?_⟩
        · have e8 := hA 8
          simp [rgDsts] at e8
          simp [RgPreds, Region.binds] at hp
          go_simp
        · rw [HM.out.1]
          refine (pad_any key b 0x36 hk w').mono ?_
          rintro e w'' ⟨g, rfl, hg', hB, hb⟩
          have := hg.size
          have := hB.lt
          refine ⟨_, rfl, hb, ?_, ?_⟩
          · simp; exact ⟨by omega, hB⟩
          · simp [blockOf]; omega
      · refine rr_call (by decide) (by rfl) fun x w' A hg hp hA => ?_
        have e7 := hA 7
        have e9 := hA 9
        simp [rgDsts] at e7 e9
        simp [RgPreds, Region.binds] at hp
        obtain ⟨h7, g, h9, hg0, hBg⟩ := hp
        rw [h7] at e7
        rw [h9] at e9
        refine ⟨26, #[.agg h0.toArray, .slice (some ⟨g, 0, none⟩) 64 64], by go_simp, ?_⟩
        rw [HH.out.1]
        refine (write_n [] (padK key 0x36) _ (some ⟨g, 0, none⟩) 64 64 w' (by rw [padK_length, hk]) (rb_blk hBg) (Nat.le_refl _) (hGB.grow hg) (by simp) (List.nil_append _)).mono ?_
        rintro e w'' ⟨rfl, hb⟩
        exact ⟨_, rfl, hb, by simp [HH.out.2], by simp⟩
      · refine rr_eq gr (by decide) (by rfl) (by rfl) fun x w' A hg hp hA => ?_
        have e1 := hA 1
        simp [rgDsts] at e1
        go_simp
    case hfin =>
      intro x w5 hg hall hap
      simp only [RgAll, holds_eq, holds_new, and_true] at hall
      obtain ⟨e7, e8, ⟨g, e9, hg9, hB9⟩, e10, e11⟩ := hall
      simp only [rgDsts, List.take_succ_cons, List.take_zero, List.filterMap_cons, List.filterMap_nil, putMany, List.foldl_cons, List.foldl_nil, List.setIfInBounds_toArray, List.set_cons_succ, List.set_cons_zero, List.drop_succ_cons, List.drop_zero, e7, e8, e9, e10, e11]
      clear e7 e8 e9 e10 e11 hap
      have hB5 := hB1'.grow hg
      have hB25 := hB2.grow hg
      have hb5 : Below H w w5 := hbw.trans (hg.mono (by omega))
      clear hB1' hB2 hbw hg
      go_wp2_with (first
        | ((with_reducible show wpList _ _ _ (⟨none, .store 43 _ _, _, _, _, _⟩ :: _) _ _); go_must (refine wpList_storeB (op := ⟨none, _, _, _, _, _⟩) A43 rfl _ _ rfl H 64 rfl h1 rfl hh1l _ _ hB5 (by rw [hh1l, hashCells_length, hml]; omega) hh11 ?_); intro w6 hB6 hg6 hz6; rw [HM.out.1, HH.out.2, mcell_put _ _ _ hk, ← HMD.out] at hB6)
        | ((with_reducible show wpList _ _ _ (⟨some 12, _, _, _, _, _⟩ :: _) _ _); go_must (refine wpList_loadB (op := ⟨some 12, _, _, _, _, _⟩) A57 rfl _ rfl H 0 rfl _ _ hB6 md ((congrArg (List.take _) List.drop_zero).trans (List.take_of_length_le (Nat.le_of_eq hdl))) hdl ?_))
        | ((with_reducible show wpList _ _ _ (⟨none, .store 57 _ _, _, _, _, _⟩ :: _) _ _); go_must (refine wpList_storeB (op := ⟨none, _, _, _, _, _⟩) A57 rfl _ _ rfl (H + 1) 0 rfl md rfl hdl _ _ (hB25.grown hg6 (by simp)) (Nat.le_of_eq ((Nat.zero_add _).trans hdl)) hd1 ?_); intro w7 hB7 hg7 hz7))
      rw [splice_all _ _ hdl] at hB7
      refine ret_cell A57 Tryd.results57 (H + 1) rfl _ md hB7 hdl rfl ⟨rfl, ?_⟩
      have z1 := hB5.lt
      exact (hb5.grown hg6 (by omega) (fun j hj => by simp at hj; omega)).grown hg7 (by omega) (fun j hj => by simp at hj; omega)
  · have hn0' : (n : Int) ≠ 0 := by omega
    have hb0 : b ≠ [] := by
      intro h
      have := HN.out
      rw [h] at this
      exact hn0 this
    have hmd : md = mc := by rw [HM.out.2, HM.out.1]; unfold begunB; rw [if_neg hb0]
    have HMD := Lib.hid hmd
    clear hmd hb0 hn0
    go_wp2_with (first
      | ((with_reducible show wpList _ _ _ (⟨some 1, _, _, _, _, _⟩ :: _) _ _); go_must (refine wpList_boxB (op := ⟨some 1, _, _, _, _, _⟩) rfl _ rfl mc rfl H hH ?_); intro w1 hB1 hb1 hz1)
      | ((with_reducible show wpList _ _ _ (⟨some 2, _, _, _, _, _⟩ :: _) _ _); go_must (refine wpList_allocB (op := ⟨some 2, _, _, _, _, _⟩) A57 rfl rfl (H + 1) hz1 ?_); intro w2 hB2 hb2 hz2; have c136 : w2.cell? ⟨H, 136, none⟩ = some (.int .i64 (n : Int)) := ((hB1.below hb2 (by omega)).cell 136).trans hmn)
      | ((with_reducible show wpList _ _ _ (⟨some 12, _, _, _, _, _⟩ :: _) _ _); go_must (refine wpList_loadB (op := ⟨some 12, _, _, _, _, _⟩) A57 rfl _ rfl H 0 rfl _ _ (hB1.below hb2 (by omega)) mc ((congrArg (List.take _) List.drop_zero).trans (List.take_of_length_le (Nat.le_of_eq hcl))) hcl ?_))
      | ((with_reducible show wpList _ _ _ (⟨none, .store 57 _ _, _, _, _, _⟩ :: _) _ _); go_must (refine wpList_storeB (op := ⟨none, _, _, _, _, _⟩) A57 rfl _ _ rfl (H + 1) 0 rfl mc rfl hcl _ _ hB2 (Nat.le_of_eq ((Nat.zero_add _).trans hcl)) (by rw [← HMD.out]; exact hd1) ?_); intro w7 hB7 hg7 hz7))
    rw [splice_all _ _ hcl] at hB7
    refine ret_cell A57 Tryd.results57 (H + 1) rfl _ mc hB7 hcl rfl ⟨by rw [HMD.out], ?_⟩
    exact (hb1.trans (hb2.mono (by omega))).grown hg7 (by omega) (fun j hj => by simp at hj; omega)
end Go.Proofs.YtoemceehmiaigaaDoor.Sha

/- HMAC-SHA256: the program's Write, Sum, NewMac, Hmac. -/
namespace Go.Proofs.YtoemceehmiaigaaDoor.Sha
open Go.RowKit Go.Proofs.YtoemceehmiaigaaDoor.Mem Go.Proofs.YtoemceehmiaigaaDoor.Loan
set_option linter.unusedVariables false

theorem begunB_ne (key b : List UInt8) (h : b ≠ []) : begunB key b = b := by unfold begunB; rw [if_neg h]
theorem padK_ne (key : List UInt8) (by_ : UInt8) (hk : key.length = 64) : padK key by_ ≠ [] := by
  intro h
  have := congrArg List.length h
  rw [padK_length, hk] at this
  cases this
theorem full {α : Type} {xs zs : List α} (h : xs.length = zs.length) : (xs.drop 0).take zs.length = xs := by rw [List.drop_zero]; exact List.take_of_length_le (Nat.le_of_eq h)
theorem m_field (key b : List UInt8) (hk : key.length = 64) (W : World) : (Instr.field 57 (.agg (mcell key b).toArray) 1).run Tryd.prog W = .ok (.agg (hashCells b).toArray) W := by
  have hp : ∀ W, (part 43 (mcell key b).toArray 64).run Tryd.prog W = .ok (.agg ((mcell key b).toArray.extract 64 (64 + 73))) W := fun W => by
    simp [part, isAgg, run_underlying Tryd.underlying43, size_run (by kernel_rfl : (Tryd.prog.info? 43).map (·.size) = some 73)]
  simp [Instr.field, run_underlying Tryd.underlying57, asAgg, hp]
  exact mcell_hash key b hk

set_option maxHeartbeats 1600000 in
set_option maxRecDepth 40000 in
theorem mwrite_any (key b q : List UInt8) (hk : key.length = 64) (A : Option Addr) (n c : Nat) (w : World) (hn : n = q.length) (hq : RB w A q) (hcap : n ≤ c) (hG : GB w) (hlen : b.length + n < 2305843009213693952) :
    Calls Tryd.prog 31 #[.agg (mcell key b).toArray, .slice A n c] w fun e w' => e = .returned (.agg (mcell key (begunB key b ++ q)).toArray) ∧ Below w.heap.size w w' := by
  generalize hH : w.heap.size = H
  have HQ := Lib.hid hq
  have HG := Lib.hid hG
  have hH0 : 0 < H := hH ▸ hG.2
  have hl1 : (begunB key b).length + n < 4611686018427387904 := by
    unfold begunB
    split
    · rw [padK_length, hk]; omega
    · omega
  obtain ⟨b1, hb1⟩ : ∃ x, x = begunB key b := ⟨_, rfl⟩
  obtain ⟨m0, hm0⟩ : ∃ x, x = mcell key b := ⟨_, rfl⟩
  obtain ⟨m1, hm1⟩ : ∃ x, x = mcell key b1 := ⟨_, rfl⟩
  obtain ⟨m2, hm2⟩ : ∃ x, x = mcell key (b1 ++ q) := ⟨_, rfl⟩
  obtain ⟨h1, hh1⟩ : ∃ x, x = hashCells b1 := ⟨_, rfl⟩
  obtain ⟨h2, hh2⟩ : ∃ x, x = hashCells (b1 ++ q) := ⟨_, rfl⟩
  have l0 : m0.length = (mcell (List.replicate 64 0) []).length := by rw [hm0, mcell_length _ _ hk, mcell_length _ _ (by simp)]
  have l1 : m1.length = (mcell (List.replicate 64 0) []).length := by rw [hm1, mcell_length _ _ hk, mcell_length _ _ (by simp)]
  have l2 : m2.length = (mcell (List.replicate 64 0) []).length := by rw [hm2, mcell_length _ _ hk, mcell_length _ _ (by simp)]
  have o1 : ∀ v ∈ m1, v.oneCell' = true := by rw [hm1]; exact mcell_one _ _
  have o2 : ∀ v ∈ m2, v.oneCell' = true := by rw [hm2]; exact mcell_one _ _
  have k1 : h1.length = (hashCells []).length := by rw [hh1, hashCells_length, hashCells_length]
  have k2 : h2.length = (hashCells []).length := by rw [hh2, hashCells_length, hashCells_length]
  have p2 : ∀ v ∈ h2, v.oneCell' = true := by rw [hh2]; exact hash_one _
  have hv1 : (m1.drop 64).take (hashCells []).length = h1 := by rw [hm1, hashCells_length, hh1]; exact mcell_hash _ _ hk
  have hle : 64 + h2.length ≤ m1.length := by rw [k2, l1, hashCells_length, mcell_length _ _ (by simp)]; omega
  have hput : splice m1 64 h2 = m2 := by rw [hm1, hh2, hm2]; exact mcell_put _ _ _ hk
  rw [← hb1] at hl1
  rw [← hb1, ← hm0, ← hm2]
  have cB := Lib.hid (show ∀ W, GB W → Calls Tryd.prog 57 #[.agg m0.toArray] W fun e w' => e = .returned (.agg m1.toArray) ∧ Below W.heap.size W w' from fun W hW => by
    rw [hm0, hm1, hb1]; exact begun_any key b hk W hW (by omega))
  have cW := Lib.hid (show ∀ W, GB W → Below H w W → Calls Tryd.prog 26 #[.agg h1.toArray, .slice A n c] W fun e w' => e = .returned (.agg h2.toArray) ∧ Below W.heap.size W w' from fun W hW hb => by
    rw [hh1, hh2]; exact write_n b1 q (b1 ++ q) A n c W hn (HQ.out.below (hH ▸ hb)) hcap hW hl1 rfl)
  have HPUT := Lib.hid hput
  clear hq hG hb1 hm0 hm1 hm2 hh1 hh2 hput hn hcap hl1 hlen
  go_enter Tryd.func31, Tryd.ntmps31
  go_wp2_with (first
    | (go_at_call 57; go_must (refine (cB.out _ ((HG.out.below hbw1 hH0).below hbw2 (by omega))).mono ?_); rintro e w3 ⟨rfl, hb3⟩)
    | (go_at_call 26; go_must (refine (cW.out _ (HG.out.below hlo4 hH0) hlo4).mono ?_); rintro e w5 ⟨rfl, hb5⟩)
    | ((with_reducible show wpList _ _ _ (⟨some 2, _, _, _, _, _⟩ :: _) _ _); go_must (refine wpList_boxB (op := ⟨some 2, _, _, _, _, _⟩) rfl _ rfl m0 rfl H hH ?_); intro w1 hBw1 hbw1 hzw1)
    | ((with_reducible show wpList _ _ _ (⟨some 4, _, _, _, _, _⟩ :: _) _ _); go_must (refine wpList_allocB (op := ⟨some 4, _, _, _, _, _⟩) A57 rfl rfl (H + 1) hzw1 ?_); intro w2 hBw2 hbw2 hzw2)
    | ((with_reducible show wpList _ _ _ (⟨some 5, _, _, _, _, _⟩ :: _) _ _); go_must (refine wpList_loadB (op := ⟨some 5, _, _, _, _, _⟩) A57 rfl _ rfl H 0 rfl _ _ (hBw1.below hbw2 (by omega)) m0 (full l0) l0 ?_))
    | ((with_reducible show wpList _ _ _ (⟨none, .store 57 (.tmp 2) _, _, _, _, _⟩ :: _) _ _); go_must (refine wpList_storeB (op := ⟨none, _, _, _, _, _⟩) A57 rfl _ _ rfl H 0 rfl m1 rfl l1 _ _ ((hBw1.below hbw2 (by omega)).grow hb3) (by rw [l1, l0]; exact Nat.le_of_eq (Nat.zero_add _)) o1 ?_); intro w4 hBw4 hgw4 hzw4; rw [splice_all _ _ (l1.trans l0.symm)] at hBw4; have hlo4 : Below H w w4 := ((hbw1.trans (hbw2.mono (by omega))).trans (hb3.mono (by omega))).grown hgw4 (by have := hb3.size; omega) (fun j hj => by simp at hj; omega))
    | ((with_reducible show wpList _ _ _ (⟨some 8, _, _, _, _, _⟩ :: _) _ _); go_must (refine wpList_loadB (op := ⟨some 8, _, _, _, _, _⟩) A43 rfl _ rfl H 64 rfl _ _ hBw4 h1 hv1 k1 ?_))
    | ((with_reducible show wpList _ _ _ (⟨none, .store 43 (.tmp 11) _, _, _, _, _⟩ :: _) _ _); go_must (refine wpList_storeB (op := ⟨none, _, _, _, _, _⟩) A43 rfl _ _ rfl H 64 rfl h2 rfl k2 _ _ (hBw4.grow hb5) hle p2 ?_); intro w6 hBw6 hgw6 hzw6; rw [HPUT.out] at hBw6)
    | ((with_reducible show wpList _ _ _ (⟨some 12, _, _, _, _, _⟩ :: _) _ _); go_must (refine wpList_loadB (op := ⟨some 12, _, _, _, _, _⟩) A57 rfl _ rfl H 0 rfl _ _ hBw6 m2 (full l2) l2 ?_))
    | ((with_reducible show wpList _ _ _ (⟨none, .store 57 (.tmp 4) _, _, _, _, _⟩ :: _) _ _); go_must (refine wpList_storeB (op := ⟨none, _, _, _, _, _⟩) A57 rfl _ _ rfl (H + 1) 0 rfl m2 rfl l2 _ _ ((((hBw2.grow hb3).grown hgw4 (by simp)).grow hb5).grown hgw6 (by simp)) (Nat.le_of_eq ((Nat.zero_add _).trans l2)) o2 ?_); intro w7 hBw7 hgw7 hzw7))
  rw [splice_all _ _ l2] at hBw7
  have z4 := hlo4.size
  have z5 := hb5.size
  have zl := hBw4.lt
  refine ret_cell A57 Tryd.results31 (H + 1) rfl _ m2 hBw7 l2 rfl ⟨rfl, ?_⟩
  exact ((hlo4.trans (hb5.mono (by omega))).grown hgw6 (by omega) (fun j hj => by simp at hj; omega)).grown hgw7 (by omega) (fun j hj => by simp at hj; omega)
end Go.Proofs.YtoemceehmiaigaaDoor.Sha

/- HMAC-SHA256: the program's Sum, NewMac, Hmac. -/
namespace Go.Proofs.YtoemceehmiaigaaDoor.Sha
open Go.RowKit Go.Proofs.YtoemceehmiaigaaDoor.Mem Go.Proofs.YtoemceehmiaigaaDoor.Loan
set_option linter.unusedVariables false

set_option maxHeartbeats 1600000 in
set_option maxRecDepth 40000 in
theorem msum_any (key b : List UInt8) (hk : key.length = 64) (w : World) (hG : GB w) (hlen : b.length < 288230376151711000) :
    Calls Tryd.prog 32 #[.agg (mcell key b).toArray] w fun e w' => e = .returned (.agg ((sumf (padK key 0x5C ++ sumf (begunB key b))).map bv).toArray) ∧ Below w.heap.size w w' := by
  generalize hH : w.heap.size = H
  have HG := Lib.hid hG
  have hH0 : 0 < H := hH ▸ hG.2
  have hl1 : (begunB key b).length < 288230376151711744 := by
    unfold begunB
    split
    · rw [padK_length, hk]; omega
    · omega
  obtain ⟨b1, hb1⟩ : ∃ x, x = begunB key b := ⟨_, rfl⟩
  rw [← hb1] at hl1
  obtain ⟨s1, hs1⟩ : ∃ x, x = sumf b1 := ⟨_, rfl⟩
  have hs1l : s1.length = 32 := by rw [hs1, sumf_length]
  obtain ⟨p, hp⟩ : ∃ x, x = padK key 0x5C := ⟨_, rfl⟩
  have hpl : p.length = 64 := by rw [hp, padK_length, hk]
  obtain ⟨m0, hm0⟩ : ∃ x, x = mcell key b := ⟨_, rfl⟩
  obtain ⟨m1, hm1⟩ : ∃ x, x = mcell key b1 := ⟨_, rfl⟩
  obtain ⟨h0, hh0⟩ : ∃ x, x = hashCells [] := ⟨_, rfl⟩
  obtain ⟨h1, hh1⟩ : ∃ x, x = hashCells b1 := ⟨_, rfl⟩
  obtain ⟨h2, hh2⟩ : ∃ x, x = hashCells p := ⟨_, rfl⟩
  obtain ⟨h3, hh3⟩ : ∃ x, x = hashCells (p ++ s1) := ⟨_, rfl⟩
  obtain ⟨d1, hd1⟩ : ∃ x, x = s1.map bv := ⟨_, rfl⟩
  obtain ⟨d2, hd2⟩ : ∃ x, x = (sumf (p ++ s1)).map bv := ⟨_, rfl⟩
  have l0 : m0.length = (mcell (List.replicate 64 0) []).length := by rw [hm0, mcell_length _ _ hk, mcell_length _ _ (by simp)]
  have k1 : d1.length = (List.replicate 32 (bv 0)).length := by rw [hd1, List.length_map, hs1l]; simp
  have k2 : d2.length = (List.replicate 32 (bv 0)).length := by rw [hd2, List.length_map, sumf_length]; simp
  have o1 : ∀ v ∈ d1, v.oneCell' = true := by rw [hd1]; exact bytes_oneCell _
  have o2 : ∀ v ∈ d2, v.oneCell' = true := by rw [hd2]; exact bytes_oneCell _
  have hfield := m_field key b1 hk
  rw [← hm1, ← hh1] at hfield
  rw [← hb1, ← hs1, ← hp, ← hd2, ← hm0]
  have cB := Lib.hid (show ∀ W, GB W → Calls Tryd.prog 57 #[.agg m0.toArray] W fun e w' => e = .returned (.agg m1.toArray) ∧ Below W.heap.size W w' from fun W hW => by
    rw [hm0, hm1, hb1]; exact begun_any key b hk W hW (by omega))
  have cS := Lib.hid (show ∀ W, GB W → Calls Tryd.prog 27 #[.agg h1.toArray] W fun e w' => e = .returned (.agg d1.toArray) ∧ Below W.heap.size W w' from fun W hW => by
    rw [hh1, hd1, hs1]; exact sum_any b1 W hW hl1)
  have cN := Lib.hid (show ∀ W, Calls Tryd.prog 25 #[] W fun e w' => e = .returned (.agg h0.toArray) ∧ Below W.heap.size W w' from fun W => by rw [hh0]; exact new_any W)
  have cP := Lib.hid (show ∀ W, Calls Tryd.prog 58 #[.agg m0.toArray, .int .u8 92] W fun e w' => ∃ g, e = .returned (.slice (some ⟨g, 0, none⟩) 64 64) ∧ W.heap.size ≤ g ∧ Blk w' g 41 (p.map bv) ∧ Below W.heap.size W w' from fun W => by
    rw [hm0, hp]; exact pad_any key b 0x5C hk W)
  have cW1 := Lib.hid (show ∀ W g, GB W → Blk W g 41 (p.map bv) → Calls Tryd.prog 26 #[.agg h0.toArray, .slice (some ⟨g, 0, none⟩) 64 64] W fun e w' => e = .returned (.agg h2.toArray) ∧ Below W.heap.size W w' from fun W g hW hB => by
    rw [hh0, hh2]; exact write_n [] p p _ 64 64 W hpl.symm (rb_blk hB) (Nat.le_refl _) hW (by simp) (List.nil_append _))
  have cW2 := Lib.hid (show ∀ W g, GB W → Blk W g 30 d1 → Calls Tryd.prog 26 #[.agg h2.toArray, .slice (some ⟨g, 0, none⟩) 32 32] W fun e w' => e = .returned (.agg h3.toArray) ∧ Below W.heap.size W w' from fun W g hW hB => by
    rw [hh2, hh3]; rw [hd1] at hB; exact write_n p s1 (p ++ s1) _ 32 32 W hs1l.symm (rb_blk hB) (Nat.le_refl _) hW (by rw [hpl]; omega) rfl)
  have cS2 := Lib.hid (show ∀ W, GB W → Calls Tryd.prog 27 #[.agg h3.toArray] W fun e w' => e = .returned (.agg d2.toArray) ∧ Below W.heap.size W w' from fun W hW => by
    rw [hh3, hd2]; exact sum_any (p ++ s1) W hW (by rw [List.length_append, hpl, hs1l]; omega))
  clear hG hb1 hs1 hp hm0 hm1 hh0 hh1 hh2 hh3 hd1 hd2 hl1 hlen hs1l hpl
  go_enter Tryd.func32, Tryd.ntmps32
  go_upto_region 2 with (first
    | (go_at_call 57; go_must (refine (cB.out _ ((HG.out.below hbw1 hH0).below hbw2 (by omega))).mono ?_); rintro e w3 ⟨rfl, hb3⟩)
    | (go_at_call 27; go_must (refine (cS.out _ (((HG.out.below hbw1 hH0).below hbw2 (by omega)).grow hb3)).mono ?_); rintro e w4 ⟨rfl, hb4⟩)
    | ((with_reducible show wpList _ _ _ (⟨some 1, _, _, _, _, _⟩ :: _) _ _); go_must (refine wpList_boxB (op := ⟨some 1, _, _, _, _, _⟩) rfl _ rfl m0 rfl H hH ?_); intro w1 hBw1 hbw1 hzw1)
    | ((with_reducible show wpList _ _ _ (⟨some 2, _, _, _, _, _⟩ :: _) _ _); go_must (refine wpList_allocB (op := ⟨some 2, _, _, _, _, _⟩) A30 rfl rfl (H + 1) hzw1 ?_); intro w2 hBw2 hbw2 hzw2)
    | ((with_reducible show wpList _ _ _ (⟨some 4, _, _, _, _, _⟩ :: _) _ _); go_must (refine wpList_loadB (op := ⟨some 4, _, _, _, _, _⟩) A57 rfl _ rfl H 0 rfl _ _ (hBw1.below hbw2 (by omega)) m0 (full l0) l0 ?_))
    | ((with_reducible show wpList _ _ _ (⟨some 3, _, _, _, _, _⟩ :: _) _ _); go_must (refine wpList_allocB (op := ⟨some 3, _, _, _, _, _⟩) A30 rfl rfl w4.heap.size rfl ?_); intro w5 hBw5 hbw5 hzw5)
    | ((with_reducible show wpList _ _ _ (⟨none, .store 30 (.tmp 3) _, _, _, _, _⟩ :: _) _ _); go_must (refine wpList_storeB (op := ⟨none, _, _, _, _, _⟩) A30 rfl _ _ rfl w4.heap.size 0 rfl d1 rfl k1 _ _ hBw5 (Nat.le_of_eq ((Nat.zero_add _).trans k1)) o1 ?_); intro w6 hBw6 hgw6 hzw6; rw [splice_all _ _ k1] at hBw6))
  have z3 := hb3.size
  have z4 := hb4.size
  have hgrow : Below w2.heap.size w2 w6 := gst (gt hb3 hb4) hbw5 hgw6 (by omega)
  have hB0 : Blk w6 H 57 m0 := (hBw1.below hbw2 (by omega)).grow hgrow
  have hB1 : Blk w6 (H + 1) 30 (List.replicate 32 (bv 0)) := hBw2.grow hgrow
  have hlo : Below H w w6 := (hbw1.trans (hbw2.mono (by omega))).trans (hgrow.mono (by omega))
  have hGB : GB w6 := HG.out.below hlo hH0
  obtain ⟨g3, hg3⟩ : ∃ g, g = w4.heap.size := ⟨_, rfl⟩
  rw [← hg3] at hBw6 ⊢
  have hg3H : H + 1 < g3 := by omega
  clear hBw1 hbw1 hzw1 hBw2 hbw2 hzw2 hb3 hb4 hBw5 hbw5 hzw5 hgw6 hzw6 z3 z4 hgrow hg3
  refine wp_region_rrT (fun a b => Below a.heap.size a b) (fun _ _ _ h g => gt h g) (fun _ _ h => h.size) (fun a => (gr a).drew) 7
    [.eq 8 (.agg h0.toArray), .eq 9 (.agg m0.toArray), .new 10 (fun v W => ∃ g, v = .slice (some ⟨g, 0, none⟩) 64 64 ∧ H + 1 < g ∧ Blk W g 41 (p.map bv)), .eq 11 (.agg h2.toArray), .eq 12 (.slice (some ⟨g3, 0, none⟩) 32 32), .eq 13 (.agg h3.toArray), .eq 14 (.agg d2.toArray)]
    (by kernel_rfl) (by kernel_rfl) (by kernel_rfl) (by kernel_rfl) ?hst ?hob ?hfin
  case hst =>
    intro s hs
    simp only [List.mem_cons, List.not_mem_nil, or_false] at hs
    rcases hs with rfl | rfl | rfl | rfl | rfl | rfl | rfl
    · exact fun _ _ _ h _ => h
    · exact fun _ _ _ h _ => h
    · rintro vs w1 w2 ⟨v, rfl, g, rfl, hg, h⟩ hb
      exact ⟨_, rfl, g, rfl, hg, h.grow hb⟩
    · exact fun _ _ _ h _ => h
    · exact fun _ _ _ h _ => h
    · exact fun _ _ _ h _ => h
    · exact fun _ _ _ h _ => h
  case hob =>
    simp only [List.take_succ_cons, List.take_zero]
    refine rrs_cons ?_ (rrs_cons ?_ (rrs_cons ?_ (rrs_cons ?_ (rrs_cons ?_ (rrs_cons ?_ (rrs_cons ?_ rrs_nil))))))
    · refine rr_call (by decide) (by rfl) fun x w' A hg hp hA => ⟨25, #[], ?_, ?_⟩
      · go_simp
      · refine (cN.out w').mono ?_
        rintro e w'' ⟨rfl, hb⟩
        exact ⟨_, rfl, hb, by simp, by simp⟩
    · refine rr_wp (by decide) (by rfl) fun x w' A hg hp hA K' hK' => ?_
      have e1 := hA 1
      simp [rgDsts] at e1
      refine wp_loadB A57 _ rfl H 0 ?_ _ _ (hB0.grow hg) m0 (full l0) l0 ?_
      · simpa [Act.eval] using e1
      · exact hK' _ _ (gr _) (by simp) (by simp)
    · refine rr_call (by decide) (by rfl) fun x w' A hg hp hA => ⟨58, #[.agg m0.toArray, .int .u8 92], ?_, ?_⟩
      · have e9 := hA 9
        simp [rgDsts] at e9
        simp [RgPreds, Region.binds] at hp
        go_simp
      · refine (cP.out w').mono ?_
        rintro e w'' ⟨g, rfl, hg', hB, hb⟩
        have := hg.size
        have := hB.lt
        have := hB1.lt
        refine ⟨_, rfl, hb, ?_, ?_⟩
        · simp; exact ⟨by omega, hB⟩
        · simp [blockOf]; omega
    · refine rr_call (by decide) (by rfl) fun x w' A hg hp hA => ?_
      have e8 := hA 8
      have e10 := hA 10
      simp [rgDsts] at e8 e10
      simp [RgPreds, Region.binds] at hp
      obtain ⟨h8, g, h10, hg0, hBg⟩ := hp
      rw [h8] at e8
      rw [h10] at e10
      refine ⟨26, #[.agg h0.toArray, .slice (some ⟨g, 0, none⟩) 64 64], by go_simp, ?_⟩
      refine (cW1.out w' g (hGB.grow hg) hBg).mono ?_
      rintro e w'' ⟨rfl, hb⟩
      exact ⟨_, rfl, hb, by simp, by simp⟩
    · refine rr_eq gr (by decide) (by rfl) (by rfl) fun x w' A hg hp hA => ?_
      have e3 := hA 3
      simp [rgDsts] at e3
      go_simp
    · refine rr_call (by decide) (by rfl) fun x w' A hg hp hA => ?_
      have e11 := hA 11
      have e12 := hA 12
      simp [rgDsts] at e11 e12
      simp [RgPreds, Region.binds] at hp
      refine ⟨26, #[.agg h2.toArray, .slice (some ⟨g3, 0, none⟩) 32 32], by (try simp only [hp] at e11 e12); go_simp, ?_⟩
      refine (cW2.out w' g3 (hGB.grow hg) (hBw6.grow hg)).mono ?_
      rintro e w'' ⟨rfl, hb⟩
      exact ⟨_, rfl, hb, by simp, by simp⟩
    · refine rr_call (by decide) (by rfl) fun x w' A hg hp hA => ?_
      have e13 := hA 13
      simp [rgDsts] at e13
      simp [RgPreds, Region.binds] at hp
      refine ⟨27, #[.agg h3.toArray], by (try simp only [hp] at e13); go_simp, ?_⟩
      refine (cS2.out w' (hGB.grow hg)).mono ?_
      rintro e w'' ⟨rfl, hb⟩
      exact ⟨_, rfl, hb, by simp, by simp⟩
  case hfin =>
    intro x w7 hg hall hap
    simp only [RgAll, holds_eq, holds_new, and_true] at hall
    obtain ⟨e8, e9, ⟨g, e10, hg9, hB9⟩, e11, e12, e13, e14⟩ := hall
    simp only [rgDsts, List.take_succ_cons, List.take_zero, List.filterMap_cons, List.filterMap_nil, putMany, List.foldl_cons, List.foldl_nil, List.setIfInBounds_toArray, List.set_cons_succ, List.set_cons_zero, List.drop_succ_cons, List.drop_zero, e8, e9, e10, e11, e12, e13, e14]
    clear e8 e9 e10 e11 e12 e13 e14 hap
    have hB7 := hB1.grow hg
    have hb7 : Below H w w7 := hlo.trans (hg.mono (by have := hB1.lt; omega))
    go_wp2_with (first
      | ((with_reducible show wpList _ _ _ (⟨none, .store 30 (.tmp 2) _, _, _, _, _⟩ :: _) _ _); go_must (refine wpList_storeB (op := ⟨none, _, _, _, _, _⟩) A30 rfl _ _ rfl (H + 1) 0 rfl d2 rfl k2 _ _ hB7 (Nat.le_of_eq ((Nat.zero_add _).trans k2)) o2 ?_); intro w8 hBw8 hgw8 hzw8))
    rw [splice_all _ _ k2] at hBw8
    refine ret_cell A30 Tryd.results32 (H + 1) rfl _ d2 hBw8 k2 rfl ⟨rfl, ?_⟩
    exact hb7.grown hgw8 (by have := hB7.lt; omega) (fun j hj => by simp at hj; omega)

set_option maxHeartbeats 1600000 in
set_option maxRecDepth 40000 in
theorem newmac_any (k : List UInt8) (A : Option Addr) (c : Nat) (w : World) (ha : RB w A k) (hcap : k.length ≤ c) (hl : k.length ≤ 35184372088832) (hG : GB w) :
    Calls Tryd.prog 30 #[.slice A k.length c] w fun e w' => e = .returned (.agg (mcell (keyOf k) (padK (keyOf k) 0x36)).toArray) ∧ Below w.heap.size w w' := by
  generalize hH : w.heap.size = H
  have HA := Lib.hid ha
  have HG := Lib.hid hG
  have hH0 : 0 < H := hH ▸ hG.2
  have hkl := keyOf_length k
  have hsl := shortK_length k
  obtain ⟨q, hq⟩ : ∃ x, x = shortK k := ⟨_, rfl⟩
  have hkey : keyOf k = q ++ (List.replicate 64 (0 : UInt8)).drop q.length := by unfold keyOf; rw [← hq, List.drop_replicate]
  rw [← hq] at hsl
  obtain ⟨key, hkk⟩ : ∃ x, x = keyOf k := ⟨_, rfl⟩
  rw [← hkk] at hkl hkey ⊢
  obtain ⟨m0, hm0⟩ : ∃ x, x = mcell key [] := ⟨_, rfl⟩
  obtain ⟨m1, hm1⟩ : ∃ x, x = mcell key (padK key 0x36) := ⟨_, rfl⟩
  have l0 : m0.length = (mcell (List.replicate 64 0) []).length := by rw [hm0, mcell_length _ _ hkl, mcell_length _ _ (by simp)]
  have l1 : m1.length = (mcell (List.replicate 64 0) []).length := by rw [hm1, mcell_length _ _ hkl, mcell_length _ _ (by simp)]
  have o1 : ∀ v ∈ m1, v.oneCell' = true := by rw [hm1]; exact mcell_one _ _
  have hcopy : splice (mcell (List.replicate 64 0) []) 0 ((q.map bv).take 64) = m0 := by
    rw [List.take_of_length_le (by rw [List.length_map]; exact hsl), mcell_copy _ _ _ (by simp) hsl, ← hkey, hm0]
  have cB := Lib.hid (show ∀ W, GB W → Calls Tryd.prog 57 #[.agg m0.toArray] W fun e w' => e = .returned (.agg m1.toArray) ∧ Below W.heap.size W w' from fun W hW => by
    rw [hm0, hm1]; exact begun_any key [] hkl W hW (by simp))
  have HC := Lib.hid hcopy
  rw [← hm1]
  have cS := Lib.hid (show ∀ W, Below H w W → GB W → Calls Tryd.prog 19 #[.slice A k.length c] W fun e w' => e = .returned (.agg ((sumf k).map bv).toArray) ∧ Below W.heap.size W w' from fun W hb hW => psum_any k A c W (HA.out.below (hH ▸ hb)) hcap hl hW)
  have hmz : (mcell (List.replicate 64 0) []).length = 137 := mcell_length _ _ (by simp)
  obtain ⟨mz, hmzz⟩ : ∃ x, x = mcell (List.replicate 64 0) [] := ⟨_, rfl⟩
  have AM : Arr Tryd.prog 57 mz := hmzz ▸ A57
  rw [← hmzz] at hmz l0 l1
  have HMZ := Lib.hid hmzz
  have HQ := Lib.hid hq
  obtain ⟨n, hn⟩ : ∃ n, n = k.length := ⟨_, rfl⟩
  have HN := Lib.hid hn
  rw [← hn] at cS hl ⊢
  clear ha hG hq hkey hkk hm0 hm1 hcopy hmzz hn hcap
  go_enter Tryd.func30, Tryd.ntmps30
  by_cases hbig : 64 < n
  · have hbig' : (64 : Int) < (n : Int) := by omega
    have hqs : q = sumf k := by rw [HQ.out]; unfold shortK; rw [if_pos (by have := HN.out; omega)]
    have hq32 : q.length = 32 := by rw [hqs, sumf_length]
    rw [← hqs] at cS
    obtain ⟨d, hd⟩ : ∃ d, d = q.map bv := ⟨_, rfl⟩
    have k1 : d.length = (List.replicate 32 (bv 0)).length := by rw [hd, List.length_map, hq32]; simp
    have p1 : ∀ v ∈ d, v.oneCell' = true := by rw [hd]; exact bytes_oneCell _
    rw [← hd] at cS HC
    clear hbig hqs hd
    go_upto_region 4 with (first
      | (go_at_call 19; go_must (refine (cS.out _ (hbw1.trans (hbw2.mono (by omega))) ((HG.out.below hbw1 hH0).below hbw2 (by omega))).mono ?_); rintro e w3 ⟨rfl, hb3⟩)
      | ((with_reducible show wpList _ _ _ (⟨some 2, _, _, _, _, _⟩ :: _) _ _); go_must (refine wpList_allocB (op := ⟨some 2, _, _, _, _, _⟩) AM rfl rfl H hH ?_); intro w1 hBw1 hbw1 hzw1)
      | ((with_reducible show wpList _ _ _ (⟨some 3, _, _, _, _, _⟩ :: _) _ _); go_must (refine wpList_allocB (op := ⟨some 3, _, _, _, _, _⟩) AM rfl rfl (H + 1) hzw1 ?_); intro w2 hBw2 hbw2 hzw2)
      | ((with_reducible show wpList _ _ _ (⟨some 4, _, _, _, _, _⟩ :: _) _ _); go_must (refine wpList_allocB (op := ⟨some 4, _, _, _, _, _⟩) A30 rfl rfl w3.heap.size rfl ?_); intro w4 hBw4 hbw4 hzw4)
      | ((with_reducible show wpList _ _ _ (⟨none, .store 30 (.tmp 4) _, _, _, _, _⟩ :: _) _ _); go_must (refine wpList_storeB (op := ⟨none, _, _, _, _, _⟩) A30 rfl _ _ rfl w3.heap.size 0 rfl d rfl k1 _ _ hBw4 (Nat.le_of_eq ((Nat.zero_add _).trans k1)) p1 ?_); intro w5 hBw5 hgw5 hzw5; rw [splice_all _ _ k1] at hBw5))
    have z3 := hb3.size
    have hgrow : Below w2.heap.size w2 w5 := gst hb3 hbw4 hgw5 z3
    have hB1 : Blk w5 H 57 mz := (hBw1.below hbw2 (by omega)).grow hgrow
    have hB2 : Blk w5 (H + 1) 57 mz := hBw2.grow hgrow
    have hlo : Below H w w5 := (hbw1.trans (hbw2.mono (by omega))).trans (hgrow.mono (by omega))
    obtain ⟨g4, hg4⟩ : ∃ g, g = w3.heap.size := ⟨_, rfl⟩
    rw [← hg4] at hBw5 ⊢
    clear hBw1 hbw1 hzw1 hBw2 hbw2 hzw2 hb3 hBw4 hbw4 hzw4 hgw5 hzw5 z3 hgrow hg4
    refine wp_region_qbT 3 (by kernel_rfl) (by kernel_rfl) ?_
    simp only [List.take_succ_cons, List.take_zero, List.drop_succ_cons, List.drop_zero]
    refine wq_val (o := ⟨some 10, _, _, _, _, _⟩) (v := .pointer (some ⟨H + 1, 0, none⟩)) rfl (fun w' _ => by go_simp) ?_
    simp only [Act.put, List.setIfInBounds_toArray, List.set_cons_succ, List.set_cons_zero]
    refine wq_val (o := ⟨some 11, _, _, _, _, _⟩) (v := .slice (some ⟨H + 1, 0, none⟩) 64 64) rfl (fun w' _ => by go_simp) ?_
    simp only [Act.put, List.setIfInBounds_toArray, List.set_cons_succ, List.set_cons_zero]
    refine wq_val (o := ⟨some 12, _, _, _, _, _⟩) (v := .slice (some ⟨g4, 0, none⟩) 32 32) rfl (fun w' _ => by go_simp) ?_
    simp only [Act.put, List.setIfInBounds_toArray, List.set_cons_succ, List.set_cons_zero]
    refine wpQuiet_nil ?_
    intro w6 h6
    go_wp2_with (first
      | ((with_reducible show wpList _ _ _ (⟨some 13, _, _, _, _, _⟩ :: _) _ _); go_must (refine wpList_copy1 E8 rfl (.tmp 11) (.tmp 12) rfl (H + 1) 0 64 64 (some ⟨g4, 0, none⟩) 32 32 rfl rfl _ _ (hB2.grow h6) d (by rw [k1]; simp) ((hBw5.grow h6).rv) (by rw [hmz]; omega) p1 ?_); intro w7 hB7 hb7 hz7 hg7; rw [HMZ.out, HC.out] at hB7)
      | (go_at_call 57; go_must (refine (cB.out _ (HG.out.below hlo7 hH0)).mono ?_); rintro e w8 ⟨rfl, hb8⟩)
      | ((with_reducible show wpList _ _ _ (⟨some 18, _, _, _, _, _⟩ :: _) _ _); have hlo7 : Below H w w7 := (hlo.trans (h6.mono (by have := hB1.lt; omega))).trans (hb7.mono (by omega)); go_must (refine wpList_loadB (op := ⟨some 18, _, _, _, _, _⟩) AM rfl _ rfl (H + 1) 0 rfl _ _ hB7 m0 (full l0) l0 ?_))
      | ((with_reducible show wpList _ _ _ (⟨none, .store 57 (.tmp 2) _, _, _, _, _⟩ :: _) _ _); go_must (refine wpList_storeB (op := ⟨none, _, _, _, _, _⟩) AM rfl _ _ rfl H 0 rfl m1 rfl l1 _ _ (((hB1.grow h6).below hb7 (by omega)).grow hb8) (Nat.le_of_eq ((Nat.zero_add _).trans l1)) o1 ?_); intro w9 hBw9 hgw9 hzw9))
    rw [splice_all _ _ l1] at hBw9
    refine ret_cell AM Tryd.results30 H rfl _ m1 hBw9 l1 rfl ⟨rfl, ?_⟩
    have := hlo7.size
    exact (hlo7.trans (hb8.mono (by omega))).grown hgw9 (by have := hb8.size; omega) (fun j hj => by simp at hj; omega)
  · have hbig' : ¬ (64 : Int) < (n : Int) := by omega
    have hqs : q = k := by rw [HQ.out]; unfold shortK; rw [if_neg (by have := HN.out; omega)]
    have hRK := Lib.hid (show ∀ W, Below H w W → RV W A (q.map bv) from fun W hW => by rw [hqs]; exact (HA.out.below (hH ▸ hW)).rv)
    have hqn : (q.map bv).length = n := by rw [hqs, List.length_map]; exact HN.out.symm
    clear hbig hqs
    go_wp2_with (first
      | ((with_reducible show wpList _ _ _ (⟨some 2, _, _, _, _, _⟩ :: _) _ _); go_must (refine wpList_allocB (op := ⟨some 2, _, _, _, _, _⟩) AM rfl rfl H hH ?_); intro w1 hBw1 hbw1 hzw1)
      | ((with_reducible show wpList _ _ _ (⟨some 3, _, _, _, _, _⟩ :: _) _ _); go_must (refine wpList_allocB (op := ⟨some 3, _, _, _, _, _⟩) AM rfl rfl (H + 1) hzw1 ?_); intro w2 hBw2 hbw2 hzw2)
      | ((with_reducible show wpList _ _ _ (⟨some 17, _, _, _, _, _⟩ :: _) _ _); go_must (refine wpList_copy1 E8 rfl (.tmp 15) (.tmp 16) rfl (H + 1) 0 64 64 A n c rfl rfl _ _ hBw2 (q.map bv) hqn (hRK.out _ (hbw1.trans (hbw2.mono (by omega)))) (by rw [hmz]; omega) (bytes_oneCell q) ?_); intro w7 hB7 hb7 hz7 hg7; rw [HMZ.out, HC.out] at hB7)
      | (go_at_call 57; go_must (refine (cB.out _ (HG.out.below hlo7 hH0)).mono ?_); rintro e w8 ⟨rfl, hb8⟩)
      | ((with_reducible show wpList _ _ _ (⟨some 18, _, _, _, _, _⟩ :: _) _ _); have hlo7 : Below H w w7 := (hbw1.trans (hbw2.mono (by omega))).trans (hb7.mono (by omega)); go_must (refine wpList_loadB (op := ⟨some 18, _, _, _, _, _⟩) AM rfl _ rfl (H + 1) 0 rfl _ _ hB7 m0 (full l0) l0 ?_))
      | ((with_reducible show wpList _ _ _ (⟨none, .store 57 (.tmp 2) _, _, _, _, _⟩ :: _) _ _); go_must (refine wpList_storeB (op := ⟨none, _, _, _, _, _⟩) AM rfl _ _ rfl H 0 rfl m1 rfl l1 _ _ (((hBw1.below hbw2 (by omega)).below hb7 (by omega)).grow hb8) (Nat.le_of_eq ((Nat.zero_add _).trans l1)) o1 ?_); intro w9 hBw9 hgw9 hzw9))
    rw [splice_all _ _ l1] at hBw9
    refine ret_cell AM Tryd.results30 H rfl _ m1 hBw9 l1 rfl ⟨rfl, ?_⟩
    have := hlo7.size
    exact (hlo7.trans (hb8.mono (by omega))).grown hgw9 (by have := hb8.size; omega) (fun j hj => by simp at hj; omega)
end Go.Proofs.YtoemceehmiaigaaDoor.Sha
namespace Go.Proofs.YtoemceehmiaigaaDoor.Sha
open Go.RowKit Go.Proofs.YtoemceehmiaigaaDoor.Mem Go.Proofs.YtoemceehmiaigaaDoor.Loan
set_option linter.unusedVariables false

theorem hmac_eq (k m : List UInt8) : hmacf k m = sumf (padK (keyOf k) 0x5C ++ sumf (begunB (keyOf k) (begunB (keyOf k) (padK (keyOf k) 0x36) ++ m))) := by
  have h := padK_ne (keyOf k) 0x36 (keyOf_length k)
  rw [begunB_ne (keyOf k) (padK (keyOf k) 0x36) h, begunB_ne (keyOf k) _ (by simp [h])]
  rfl

set_option maxHeartbeats 1600000 in
set_option maxRecDepth 40000 in
theorem phmac_any (k m : List UInt8) (A B : Option Addr) (na nb ca cb : Nat) (w : World) (hna : na = k.length) (hnb : nb = m.length) (ha : RB w A k) (hb : RB w B m) (hca : na ≤ ca) (hcb : nb ≤ cb) (hla : na ≤ 17592186044416) (hlb : nb ≤ 17592186044416) (hG : GB w) :
    Calls Tryd.prog 34 #[.slice A na ca, .slice B nb cb] w fun e w' => e = .returned (.agg ((hmacf k m).map bv).toArray) ∧ Below w.heap.size w w' := by
  generalize hH : w.heap.size = H
  have HG := Lib.hid hG
  have hH0 : 0 < H := hH ▸ hG.2
  have hkl := keyOf_length k
  have heq := hmac_eq k m
  obtain ⟨m1, hm1⟩ : ∃ x, x = mcell (keyOf k) (padK (keyOf k) 0x36) := ⟨_, rfl⟩
  obtain ⟨m2, hm2⟩ : ∃ x, x = mcell (keyOf k) (begunB (keyOf k) (padK (keyOf k) 0x36) ++ m) := ⟨_, rfl⟩
  obtain ⟨d, hd⟩ : ∃ x, x = (hmacf k m).map bv := ⟨_, rfl⟩
  have k1 : d.length = (List.replicate 32 (bv 0)).length := by rw [hd, heq, List.length_map, sumf_length]; simp
  have p1 : ∀ v ∈ d, v.oneCell' = true := by rw [hd]; exact bytes_oneCell _
  have cN := Lib.hid (show ∀ W, Below H w W → Calls Tryd.prog 30 #[.slice A na ca] W fun e w' => e = .returned (.agg m1.toArray) ∧ Below W.heap.size W w' from fun W hW => by
    rw [hm1]; subst hna; exact newmac_any k A ca W (ha.below (hH ▸ hW)) hca (by omega) (hG.below hW hH0))
  have cW := Lib.hid (show ∀ W, Below H w W → Calls Tryd.prog 31 #[.agg m1.toArray, .slice B nb cb] W fun e w' => e = .returned (.agg m2.toArray) ∧ Below W.heap.size W w' from fun W hW => by
    rw [hm1, hm2]; exact mwrite_any (keyOf k) (padK (keyOf k) 0x36) m hkl B nb cb W hnb (hb.below (hH ▸ hW)) hcb (hG.below hW hH0) (by rw [padK_length, hkl]; omega))
  have cS := Lib.hid (show ∀ W, Below H w W → Calls Tryd.prog 32 #[.agg m2.toArray] W fun e w' => e = .returned (.agg d.toArray) ∧ Below W.heap.size W w' from fun W hW => by
    rw [hm2, hd, heq]; exact msum_any (keyOf k) _ hkl W (hG.below hW hH0) (by
      rw [List.length_append]
      unfold begunB
      split <;> rw [padK_length, hkl] <;> omega))
  rw [← hd]
  clear hna hnb ha hb hca hcb hla hlb hG heq hm1 hm2 hd
  go_enter Tryd.func34, Tryd.ntmps34
  go_wp2_with (first
    | (go_at_call 30; go_must (refine (cN.out _ hbw1).mono ?_); rintro e w2 ⟨rfl, hb2⟩)
    | (go_at_call 31; go_must (refine (cW.out _ (hbw1.trans (hb2.mono (by omega)))).mono ?_); rintro e w3 ⟨rfl, hb3⟩)
    | (go_at_call 32; go_must (refine (cS.out _ ((hbw1.trans (hb2.mono (by omega))).trans (hb3.mono (by have := hb2.size; omega)))).mono ?_); rintro e w4 ⟨rfl, hb4⟩)
    | ((with_reducible show wpList _ _ _ (⟨some 4, _, _, _, _, _⟩ :: _) _ _); go_must (refine wpList_allocB (op := ⟨some 4, _, _, _, _, _⟩) A30 rfl rfl H hH ?_); intro w1 hBw1 hbw1 hzw1)
    | ((with_reducible show wpList _ _ _ (⟨none, .store 30 (.tmp 4) _, _, _, _, _⟩ :: _) _ _); go_must (refine wpList_storeB (op := ⟨none, _, _, _, _, _⟩) A30 rfl _ _ rfl H 0 rfl d rfl k1 _ _ (((hBw1.grow hb2).grow hb3).grow hb4) (Nat.le_of_eq ((Nat.zero_add _).trans k1)) p1 ?_); intro w5 hBw5 hgw5 hzw5))
  rw [splice_all _ _ k1] at hBw5
  refine ret_cell A30 Tryd.results34 H rfl _ d hBw5 k1 rfl ⟨rfl, ?_⟩
  have z2 := hb2.size
  have z3 := hb3.size
  have z4 := hb4.size
  exact (((hbw1.trans (hb2.mono (by omega))).trans (hb3.mono (by omega))).trans (hb4.mono (by omega))).grown hgw5 (by omega) (fun j hj => by simp at hj; omega)

theorem fillQ_length (d : List UInt8) (i n : Nat) (hd : d.length ≤ n) (hi : i ≤ d.length) : (fillB d i n).length = n := by simp [fillB]; omega
theorem fillQ_set (d : List UInt8) (i n : Nat) (hd : d.length ≤ n) (hi : i < d.length) : ((fillB d i n).map bv).set i (bv d[i]) = (fillB d (i + 1) n).map bv := by
  rw [← List.map_set]
  congr 1
  unfold fillB
  rw [List.set_append_right _ _ (by simp; omega), take_succ_ hi, List.append_assoc, show n - i = (n - (i + 1)) + 1 by omega, List.replicate_succ]
  congr 1
  rw [show i - (List.take i d).length = 0 by simp; omega]
  rfl
theorem fillQ_all (d : List UInt8) (n : Nat) : fillB d d.length n = d ++ List.replicate (n - d.length) 0 := by simp [fillB]

def RH (H : Nat) (w0 : World) (ks : List Value) (w : World) : Prop := Blk w H 30 (List.replicate 32 (bv 0)) ∧ Blk w (H + 1) 41 ks ∧ Below H w0 w
theorem RH.set {H : Nat} {w0 w : World} {ks : List Value} (h : RH H w0 ks w) (i : Nat) (v : Value) : RH H w0 (ks.set i v) (w.setCell ⟨H + 1, i, none⟩ v) :=
  ⟨h.1.far (by simp) v, h.2.1.set_ i v, h.2.2.setCell (by simp) v⟩

/-- two rows of the call's own in different memory -/
def Ap (v u : Value) : Prop := v.ownBlock = none ∨ u.ownBlock = none ∨ v.ownBlock ≠ u.ownBlock
theorem Ap.symm {v u : Value} (h : Ap v u) : Ap u v := by
  rcases h with h | h | h
  · exact .inr (.inl h)
  · exact .inl h
  · exact .inr (.inr (Ne.symm h))
theorem Ap.kept {v u : Value} (h : Ap v u) : u.ownBlock = none ∨ u.ownBlock ≠ v.ownBlock := by
  rcases h with h | h | h
  · by_cases hu : u.ownBlock = none
    · exact .inl hu
    · exact .inr (by rw [h]; exact hu)
  · exact .inl h
  · exact .inr (Ne.symm h)
theorem Ap.next {w : World} {B n : Nat} {T : TypeId} {v v' u : Value} {xs : List Value} (h : Ap v u) (hu : w.ownsRow B T 1 u n xs) (hv : v'.ownBlock = v.ownBlock ∨ v'.ownBlock = some w.heap.size) : Ap v' u := by
  rcases hv with hv | hv
  · unfold Ap at *; rw [hv]; exact h
  · by_cases hn : u.ownBlock = none
    · exact .inr (.inl hn)
    · refine .inr (.inr fun e => ?_)
      rw [hv] at e
      have := (hu.lt _ e.symm).2
      omega

theorem own_ne {w : World} {B n j : Nat} {T : TypeId} {v : Value} {xs : List Value} (h : w.ownsRow B T 1 v n xs) (hj : j < B) : some j ≠ v.ownBlock := fun e => by
  have := (h.lt _ e.symm).1
  omega
theorem RH.app {H n : Nat} {w0 w w' : World} {ks xs : List Value} {T : TypeId} {v : Value} {o : Obj} (h : RH H w0 ks w) (hown : w.ownsRow (H + 2) T 1 v n xs) (hg : (w.alloc o).grownBy w' v.ownBlock) : RH H w0 ks w' := by
  have z := h.1.lt
  refine ⟨(h.1.alloc o).grown hg (own_ne hown (by omega)), (h.2.1.alloc o).grown hg (own_ne hown (by omega)), (h.2.2.alloc (by omega) o).grown hg (by simp; omega) (fun k hk => ?_)⟩
  have := (hown.lt k hk).1
  omega
theorem RH.app0 {H n : Nat} {w0 w w' : World} {ks xs : List Value} {T : TypeId} {v : Value} (h : RH H w0 ks w) (hown : w.ownsRow (H + 2) T 1 v n xs) (hg : w.grownBy w' v.ownBlock) : RH H w0 ks w' := by
  have z := h.1.lt
  refine ⟨h.1.grown hg (own_ne hown (by omega)), h.2.1.grown hg (own_ne hown (by omega)), h.2.2.grown hg (by omega) (fun k hk => ?_)⟩
  have := (hown.lt k hk).1
  omega
theorem rsum_m (l : List UInt8) (A : Option Addr) (n c : Nat) (w : World) (hn : n = l.length) (ha : RB w A l) (hl : n ≤ 35184372088832) :
    Calls Tryd.prog 21 #[.slice A n c] w fun e w' => e = .returned (.agg ((sumf l).map bv).toArray) ∧ Below w.heap.size w w' := by
  subst hn; exact rsum_any l A c w ha hl
theorem ap_ne {v u : Value} {n g : Nat} (h : v.ownBlock = u.ownBlock ∨ v.ownBlock = some n) (hu : u.ownBlock ≠ some g) (hn : g < n) : v.ownBlock ≠ some g := by
  rcases h with h | h
  · rw [h]; exact hu
  · rw [h]; intro e; injection e; omega
theorem own_below {w w' : World} {B n : Nat} {T : TypeId} {v : Value} {xs : List Value} (h : w.ownsRow B T 1 v n xs) (hb : Below w.heap.size w w') : w'.ownsRow B T 1 v n xs :=
  h.kept (row := none) ⟨hb.os, hb.tape, hb.output, hb.size, fun k hk _ => hb.block k hk⟩ (by
    by_cases hn : v.ownBlock = none
    · exact .inl hn
    · exact .inr hn)
theorem take_cell (s : List UInt8) (po : List UInt8) (i : Nat) (h : i < s.length) : (po ++ s.take i).map bv ++ [bv s[i]] = (po ++ s.take (i + 1)).map bv := by
  rw [take_succ_ h, List.map_append, List.map_append, List.map_append, List.append_assoc]; rfl
theorem pad_take (key : List UInt8) (by_ : UInt8) (i : Nat) (h : i < key.length) : ((padK key by_).take i).map bv ++ [bv (key[i] ^^^ by_)] = ((padK key by_).take (i + 1)).map bv := by
  have hl : i < (padK key by_).length := by rw [padK_length]; exact h
  rw [take_succ_ hl, List.map_append]
  simp [padK]

set_option maxHeartbeats 3200000 in
set_option maxRecDepth 40000 in
theorem rhmac_any (k m : List UInt8) (A B : Option Addr) (na nb ca cb : Nat) (w : World) (hna : na = k.length) (hnb : nb = m.length) (ha : RB w A k) (hb : RB w B m) (hla : na ≤ 17592186044416) (hlb : nb ≤ 17592186044416) :
    Calls Tryd.prog 33 #[.slice A na ca, .slice B nb cb] w fun e w' => e = .returned (.agg ((hmacf k m).map bv).toArray) ∧ Below w.heap.size w w' := by
  generalize hH : w.heap.size = H
  have HA := Lib.hid (And.intro hna ha)
  have HB := Lib.hid (And.intro hnb hb)
  have hsl := shortK_length k
  have cS := Lib.hid (show ∀ W, Below H w W → Calls Tryd.prog 21 #[.slice A na ca] W fun e w' => e = .returned (.agg ((sumf k).map bv).toArray) ∧ Below W.heap.size W w' from fun W hW => by
    subst hna; exact rsum_any k A ca W (ha.below (hH ▸ hW)) (by omega))
  clear hna hnb ha hb
  go_enter Tryd.func33, Tryd.ntmps33
  go_upto_if 16 with (first
    | ((with_reducible show wpList _ _ _ (⟨some 4, _, _, _, _, _⟩ :: _) _ _); go_must (refine wpList_allocB (op := ⟨some 4, _, _, _, _, _⟩) A30 rfl rfl H hH ?_); intro w1 hBw1 hbw1 hzw1)
    | ((with_reducible show wpList _ _ _ (⟨some 5, _, _, _, _, _⟩ :: _) _ _); go_must (refine wpList_allocB (op := ⟨some 5, _, _, _, _, _⟩) A41 rfl rfl (H + 1) hzw1 ?_); intro w2 hBw2 hbw2 hzw2))
  have X0 : RH H w ((fillB (shortK k) 0 64).map bv) w2 := by
    refine ⟨hBw1.below hbw2 (by omega), ?_, hbw1.trans (hbw2.mono (by omega))⟩
    rw [fillB_none]; exact hBw2
  have HX := Lib.hid X0
  clear X0 hBw1 hbw1 hzw1 hBw2 hbw2 hzw2
  go_cut [] (fun wx => RH H w ((keyOf k).map bv) wx)
  case first =>
    by_cases hbig : 64 < na
    · have hbig' : (64 : Int) < (na : Int) := by omega
      obtain ⟨q, hq⟩ : ∃ q, q = shortK k := ⟨_, rfl⟩
      have hqs : q = sumf k := by rw [hq]; unfold shortK; rw [if_pos (by have := HA.out.1; omega)]
      have hq32 : q.length = 32 := by rw [hqs, sumf_length]
      have hkey : keyOf k = fillB q q.length 64 := by unfold keyOf; rw [← hq, fillQ_all]
      rw [← hqs] at cS
      rw [← hq] at HX
      obtain ⟨d, hd⟩ : ∃ d, d = q.map bv := ⟨_, rfl⟩
      have k1 : d.length = (List.replicate 32 (bv 0)).length := by rw [hd, List.length_map, hq32]; simp
      have p1 : ∀ v ∈ d, v.oneCell' = true := by rw [hd]; exact bytes_oneCell _
      rw [← hd] at cS
      have HD := Lib.hid (And.intro hd hkey)
      clear hbig hqs hd hq hkey
      go_wp2_with (first
        | (go_at_call 21; go_must (refine (cS.out _ HX.out.2.2).mono ?_); rintro e w3 ⟨rfl, hb3⟩)
        | ((with_reducible show wpList _ _ _ (⟨some 6, _, _, _, _, _⟩ :: _) _ _); go_must (refine wpList_allocB (op := ⟨some 6, _, _, _, _, _⟩) A30 rfl rfl w3.heap.size rfl ?_); intro w4 hBw4 hbw4 hzw4)
        | ((with_reducible show wpList _ _ _ (⟨none, .store 30 (.tmp 6) _, _, _, _, _⟩ :: _) _ _); go_must (refine wpList_storeB (op := ⟨none, _, _, _, _, _⟩) A30 rfl _ _ rfl w3.heap.size 0 rfl d rfl k1 _ _ hBw4 (Nat.le_of_eq ((Nat.zero_add _).trans k1)) p1 ?_); intro w5 hBw5 hgw5 hzw5; rw [splice_all _ _ k1, HD.out.1] at hBw5))
      have hgrow : Below w2.heap.size w2 w5 := gst hb3 hbw4 hgw5 hb3.size
      have X5 : RH H w ((fillB q 0 64).map bv) w5 ∧ Blk w5 w3.heap.size 30 (q.map bv) ∧ H + 1 < w3.heap.size := by
        have z := hb3.size
        have z2 := HX.out.2.1.lt
        exact ⟨⟨HX.out.1.grow hgrow, HX.out.2.1.grow hgrow, HX.out.2.2.trans (hgrow.mono (by have := HX.out.1.lt; omega))⟩, hBw5, by omega⟩
      obtain ⟨g6, hg6⟩ : ∃ g, g = w3.heap.size := ⟨_, rfl⟩
      rw [← hg6] at X5 ⊢
      replace HX := Lib.hid X5
      clear X5 hb3 hBw4 hbw4 hzw4 hBw5 hgw5 hzw5 hgrow hg6
      go_loopw [7] (fun v wr => ∃ i : Nat, i ≤ 32 ∧ v = .int .i64 i ∧ RH H w ((fillB q i 64).map bv) wr ∧ Blk wr g6 30 (q.map bv) ∧ H + 1 < g6) (fun v _ => 32 - (intOf v).toNat)
      case atStart => exact ⟨0, by omega, rfl, HX.out⟩
      case round =>
        clear HX
        obtain ⟨i, hi, rfl, X, hB6, hgH⟩ := hrel
        by_cases hlt : i < 32
        · have hiq : i < q.length := by omega
          have c0 := hB6.cell i
          rw [List.getElem?_map, List.getElem?_eq_getElem hiq] at c0
          simp only [Option.map_some] at c0
          have hl64 := fillQ_length q i 64 (by omega) (by omega)
          obtain ⟨old, c1⟩ := X.2.1.at_ (i := i) (by rw [List.length_map, hl64]; omega)
          have f1 := X.2.1.frozen i
          have hend := X.set i (bv q[i])
          rw [fillQ_set q i 64 (by omega) hiq] at hend
          have HE := Lib.hid (And.intro hend (hB6.far (p := ⟨H + 1, i, none⟩) (by simp; omega) (bv q[i])))
          have y0 : (0 : Int) ≤ (i : Int) := by omega
          have x0 : (i : Int) < 32 := by omega
          clear X hB6 hend
          go_wp2
          exact ⟨⟨i + 1, by omega, by go_num, HE.out.1, HE.out.2, hgH⟩, by simp [intOf]; omega⟩
        · have hi32 : i = q.length := by omega
          rw [hi32, ← HD.out.2] at X
          clear hi32
          have HXX := Lib.hid X
          clear X hB6
          go_wp2_with fail
          go_meet
          exact HXX.out
    · have hbig' : ¬ (64 : Int) < (na : Int) := by omega
      obtain ⟨q, hq⟩ : ∃ q, q = shortK k := ⟨_, rfl⟩
      have hqs : q = k := by rw [hq]; unfold shortK; rw [if_neg (by have := HA.out.1; omega)]
      have hkey : keyOf k = fillB q q.length 64 := by unfold keyOf; rw [← hq, fillQ_all]
      have hqn : q.length = na := by rw [hqs]; exact HA.out.1.symm
      have hRB : ∀ W, Below H w W → RB W A q := fun W hW => by rw [hqs]; exact HA.out.2.below (hH ▸ hW)
      rw [← hq] at HX hsl
      have HD := Lib.hid (And.intro hRB hkey)
      have HQN := Lib.hid hqn
      clear hqs hq hkey hRB hbig hqn
      go_wp2_with fail
      go_loopw [8] (fun v wr => ∃ i : Nat, i ≤ na ∧ v = .int .i64 i ∧ RH H w ((fillB q i 64).map bv) wr) (fun v _ => na - (intOf v).toNat)
      case atStart => exact ⟨0, by omega, rfl, HX.out⟩
      case round =>
        clear HX
        obtain ⟨i, hi, rfl, X⟩ := hrel
        have hqn := HQN.out
        by_cases hlt : i < na
        · have hiq : i < q.length := by omega
          obtain ⟨ad, rfl, c0⟩ := HD.out.1 _ X.2.2 i hiq
          have hl64 := fillQ_length q i 64 (by omega) (by omega)
          obtain ⟨old, c1⟩ := X.2.1.at_ (i := i) (by rw [List.length_map, hl64]; omega)
          have f1 := X.2.1.frozen i
          have hend := X.set i (bv q[i])
          rw [fillQ_set q i 64 (by omega) hiq] at hend
          have HE := Lib.hid hend
          have y0 : (0 : Int) ≤ (i : Int) := by omega
          have x0 : (i : Int) < 64 := by omega
          have x1 : (i : Int) < (na : Int) := by omega
          clear X hend hqn
          go_wp2
          exact ⟨⟨i + 1, by omega, by go_num, HE.out⟩, by simp [intOf]; omega⟩
        · have hi32 : i = q.length := by omega
          rw [hi32, ← HD.out.2] at X
          have hx1 : (i : Int) = (na : Int) := by omega
          clear hi32 hqn
          have HXX := Lib.hid X
          clear X
          go_wp2_with fail
          go_meet
          exact HXX.out
  case rest =>
  replace HX := Lib.hid hcut
  clear hcut cS
  have hkl := keyOf_length k
  have hres : hmacf k m = sumf (padK (keyOf k) 0x5C ++ sumf (padK (keyOf k) 0x36 ++ m)) := rfl
  obtain ⟨key, hkk⟩ : ∃ x, x = keyOf k := ⟨_, rfl⟩
  rw [← hkk] at hkl hres HX
  have hpi : (padK key 0x36).length = 64 := by rw [padK_length, hkl]
  have hpo : (padK key 0x5C).length = 64 := by rw [padK_length, hkl]
  have HRES := Lib.hid hres
  clear hkk hres
  go_wp2_with fail
  go_loopw [9, 10, 11] (fun v u t wr => ∃ i : Nat, i ≤ 64 ∧ t = .int .i64 i ∧ wr.ownsRow (H + 2) 5 1 v i (((padK key 0x36).take i).map bv) ∧ wr.ownsRow (H + 2) 5 1 u i (((padK key 0x5C).take i).map bv) ∧ Ap v u ∧ RH H w (key.map bv) wr) (fun _ _ t _ => 64 - (intOf t).toNat)
  case atStart => exact ⟨0, by omega, rfl, by simpa using World.ownsRow_nil wc _ _ _, by simpa using World.ownsRow_nil wc _ _ _, .inl rfl, HX.out⟩
  case round =>
    clear HX
    obtain ⟨i, hi, rfl, hv, hu, hap, X⟩ := hrel
    by_cases hlt : i < 64
    · have hik : i < key.length := by omega
      have c0 := X.2.1.cell i
      rw [List.getElem?_map, List.getElem?_eq_getElem hik] at c0
      simp only [Option.map_some] at c0
      have hx1 : bits .xor .u8 (key[i].toNat : Int) 54 = ((key[i] ^^^ 0x36).toNat : Int) := xor_b key[i] 0x36
      have hx2 : bits .xor .u8 (key[i].toNat : Int) 92 = ((key[i] ^^^ 0x5C).toNat : Int) := xor_b key[i] 0x5C
      have z := X.2.1.lt
      have HX := Lib.hid (And.intro hv (And.intro hu (And.intro hap X)))
      have y0 : (0 : Int) ≤ (i : Int) := by omega
      have x0 : (i : Int) < 64 := by omega
      clear hv hu hap X
      go_wp2_with (first
        | ((with_reducible show wpList _ _ _ (⟨some 50, _, _, _, _, _⟩ :: _) _ _); go_must (refine wpList_app E8 rfl (.tmp 44) (.tmp 49) rfl (H + 2) _ i _ rfl (HX.out.1.alloc _) (some ⟨wr.heap.size, 0, none⟩) 1 1 [bv (key[i] ^^^ 0x36)] rfl (rv_new _ _ _) rfl (bytes_oneCell [_]) (by unfold maxLen; omega) (by omega) (by simp; omega) ?_); intro v9 w3 hown3 hg3 hv3; have X3 := HX.out.2.2.2.app HX.out.1 hg3; have hu3 := (HX.out.2.1.alloc _).kept hg3 HX.out.2.2.1.kept; have hap3 := HX.out.2.2.1.next (HX.out.2.1.alloc _) hv3; have d0 := X3.2.1.cell i; rw [List.getElem?_map, List.getElem?_eq_getElem hik] at d0; simp only [Option.map_some] at d0; rw [pad_take _ _ _ hik] at hown3; replace X3 := Lib.hid (And.intro hown3 (And.intro hu3 (And.intro hap3 X3))); clear hown3 hg3 hv3 hu3 hap3)
        | ((with_reducible show wpList _ _ _ (⟨some 57, _, _, _, _, _⟩ :: _) _ _); go_must (refine wpList_app E8 rfl (.tmp 51) (.tmp 56) rfl (H + 2) _ i _ rfl (X3.out.2.1.alloc _) (some ⟨w3.heap.size, 0, none⟩) 1 1 [bv (key[i] ^^^ 0x5C)] rfl (rv_new _ _ _) rfl (bytes_oneCell [_]) (by unfold maxLen; omega) (by omega) (by have := X3.out.2.2.2.2.1.lt; simp; omega) ?_); intro v10 w4 hown4 hg4 hv4; have X4 := X3.out.2.2.2.app X3.out.2.1 hg4; have hu4 := (X3.out.1.alloc _).kept hg4 X3.out.2.2.1.symm.kept; have hap4 := (X3.out.2.2.1.symm.next (X3.out.1.alloc _) hv4).symm; rw [pad_take _ _ _ hik] at hown4; replace X4 := Lib.hid (And.intro hu4 (And.intro hown4 (And.intro hap4 X4))); clear hown4 hg4 hv4 hu4 hap4))
      exact ⟨⟨i + 1, by omega, by go_num, X4.out⟩, by simp [intOf]; omega⟩
    · have hi64 : i = 64 := by omega
      rw [hi64, List.take_of_length_le (by omega)] at hv hu
      have hi64' : (i : Int) = 64 := by omega
      clear hi64
      obtain ⟨pi, hpi'⟩ : ∃ x, x = padK key 0x36 := ⟨_, rfl⟩
      obtain ⟨po, hpo'⟩ : ∃ x, x = padK key 0x5C := ⟨_, rfl⟩
      have hres := HRES.out
      rw [← hpi'] at hv hpi hres
      rw [← hpo'] at hu hpo hres
      obtain ⟨s1, hs1⟩ : ∃ x, x = sumf (pi ++ m) := ⟨_, rfl⟩
      have hs1l : s1.length = 32 := by rw [hs1, sumf_length]
      rw [← hs1] at hres
      obtain ⟨d1, hd1⟩ : ∃ x, x = s1.map bv := ⟨_, rfl⟩
      have k1 : d1.length = (List.replicate 32 (bv 0)).length := by rw [hd1, List.length_map, hs1l]; simp
      have o1 : ∀ v ∈ d1, v.oneCell' = true := by rw [hd1]; exact bytes_oneCell _
      obtain ⟨d2, hd2⟩ : ∃ x, x = (hmacf k m).map bv := ⟨_, rfl⟩
      have k2 : d2.length = (List.replicate 32 (bv 0)).length := by rw [hd2, hres, List.length_map, sumf_length]; simp
      have o2 : ∀ v ∈ d2, v.oneCell' = true := by rw [hd2]; exact bytes_oneCell _
      have HD := Lib.hid (And.intro hs1 (And.intro hd1 (And.intro hd2 hres)))
      have HX := Lib.hid (And.intro hv (And.intro hu (And.intro hap X)))
      have HPL := Lib.hid (And.intro hpi (And.intro hpo hs1l))
      clear hv hu hap X HRES hpi' hpo' hres hs1 hd1 hd2 hpi hpo hs1l
      go_wp2_with (first
        | ((with_reducible show wpList _ _ _ (⟨some 60, _, _, _, _, _⟩ :: _) _ _); go_must (refine wpList_app E8 rfl (.tmp 58) (.tmp 59) rfl (H + 2) _ 64 _ rfl HX.out.1 B nb cb (m.map bv) rfl ((HB.out.2.below (hH ▸ HX.out.2.2.2.2.2)).rv) (by rw [List.length_map, ← HB.out.1]; simp) (bytes_oneCell m) (by unfold maxLen; omega) (by omega) (by have := HX.out.2.2.2.2.1.lt; omega) ?_); intro v9 w3 hown3 hg3 hv3; have X3 := HX.out.2.2.2.app0 HX.out.1 hg3; have hu3 := HX.out.2.1.kept hg3 HX.out.2.2.1.kept; rw [← List.map_append] at hown3; obtain ⟨A9, n9, c9, rfl, hn9⟩ := own_form hown3; have hrb3 := own_rb' hown3; replace X3 := Lib.hid (And.intro hu3 (And.intro hrb3 (And.intro hn9 X3))); clear hown3 hg3 hv3 hu3 hrb3 hn9)
        | (go_at_call 21; go_must (refine (rsum_m (pi ++ m) A9 n9 c9 _ (by rw [List.length_append, HPL.out.1, X3.out.2.2.1, HB.out.1]) X3.out.2.1 (by rw [X3.out.2.2.1]; omega)).mono ?_); rintro e w4 ⟨he, hb4⟩; rw [← HD.out.1, ← HD.out.2.1] at he; subst he)
        | ((with_reducible show wpList _ _ _ (⟨some 12, _, _, _, _, _⟩ :: _) _ _); go_must (refine wpList_allocB (op := ⟨some 12, _, _, _, _, _⟩) A30 rfl rfl w4.heap.size rfl ?_); intro w5 hBw5 hbw5 hzw5)
        | ((with_reducible show wpList _ _ _ (⟨none, .store 30 (.tmp 12) _, _, _, _, _⟩ :: _) _ _); go_must (refine wpList_storeB (op := ⟨none, _, _, _, _, _⟩) A30 rfl _ _ rfl w4.heap.size 0 rfl d1 rfl k1 _ _ hBw5 (Nat.le_of_eq ((Nat.zero_add _).trans k1)) o1 ?_); intro w6 hBw6 hgw6 hzw6; rw [splice_all _ _ k1] at hBw6))
      have z4 := hb4.size
      have hgrow : Below w3.heap.size w3 w6 := gst hb4 hbw5 hgw6 z4
      obtain ⟨g12, hg12⟩ : ∃ g, g = w4.heap.size := ⟨_, rfl⟩
      rw [← hg12] at hBw6 ⊢
      have hgg : H + 1 < g12 := by have := X3.out.2.2.2.2.1.lt; omega
      have hwn := fun b hb => (X3.out.1.lt b hb).2
      have X6 := And.intro (own_below X3.out.1 hgrow) (And.intro hBw6 (And.intro hgg (show RH H w (key.map bv) w6 from ⟨X3.out.2.2.2.1.grow hgrow, X3.out.2.2.2.2.1.grow hgrow, X3.out.2.2.2.2.2.trans (hgrow.mono (Nat.le_of_lt X3.out.2.2.2.1.lt))⟩)))
      rw [HD.out.2.1] at X6
      have HN := Lib.hid hwn
      have H3 := Lib.hid (show w3.heap.size ≤ g12 by omega)
      replace HX := Lib.hid X6
      clear X6 hwn hgg hb4 hBw5 hbw5 hzw5 hBw6 hgw6 hzw6 z4 hgrow hg12 X3
      go_loopw [10, 13] (fun u t wr => ∃ i : Nat, i ≤ 32 ∧ t = .int .i64 i ∧ wr.ownsRow (H + 2) 5 1 u (64 + i) ((po ++ s1.take i).map bv) ∧ u.ownBlock ≠ some g12 ∧ Blk wr g12 30 (s1.map bv) ∧ H + 1 < g12 ∧ RH H w (key.map bv) wr) (fun _ t _ => 32 - (intOf t).toNat)
      case atStart => exact ⟨0, by omega, rfl, by simpa using HX.out.1, (fun e => by have := HN.out _ e; have := H3.out; omega), HX.out.2.1, HX.out.2.2.1, HX.out.2.2.2⟩
      case round =>
        clear HX
        obtain ⟨i, hi, rfl, hu, hne, hB12, hgg, X⟩ := hrel
        have hs1l := HPL.out.2.2
        by_cases hlt : i < 32
        · have his : i < s1.length := by omega
          have c0 := hB12.cell i
          rw [List.getElem?_map, List.getElem?_eq_getElem his] at c0
          simp only [Option.map_some] at c0
          have z := X.2.1.lt
          have zg := hB12.lt
          replace HX := Lib.hid (And.intro hu (And.intro hne (And.intro hB12 X)))
          have y0 : (0 : Int) ≤ (i : Int) := by omega
          have x0 : (i : Int) < 32 := by omega
          clear hu hne hB12 X hs1l
          go_wp2_with (first
            | ((with_reducible show wpList _ _ _ (⟨some 72, _, _, _, _, _⟩ :: _) _ _); go_must (refine wpList_app E8 rfl (.tmp 67) (.tmp 71) rfl (H + 2) _ (64 + i) _ rfl (HX.out.1.alloc _) (some ⟨wr.heap.size, 0, none⟩) 1 1 [bv s1[i]] rfl (rv_new _ _ _) rfl (bytes_oneCell [_]) (by unfold maxLen; omega) (by omega) (by simp; omega) ?_); intro v10 w7 hown7 hg7 hv7; have X7 := HX.out.2.2.2.app HX.out.1 hg7; have hB7 := (HX.out.2.2.1.alloc _).grown hg7 (Ne.symm HX.out.2.1); have hne7 : v10.ownBlock ≠ some g12 := ap_ne hv7 HX.out.2.1 (by simp; omega); rw [take_cell _ _ _ his] at hown7; replace X7 := Lib.hid (And.intro hown7 (And.intro hne7 (And.intro hB7 (And.intro hgg X7)))); clear hown7 hg7 hv7 hB7 hne7))
          exact ⟨⟨i + 1, by omega, by go_num, X7.out⟩, by simp [intOf]; omega⟩
        · have hi32 : i = 32 := by omega
          rw [hi32, List.take_of_length_le (by omega)] at hu
          have hi32' : (i : Int) = 32 := by omega
          obtain ⟨A9, n9, c9, rfl, hn9⟩ := own_form hu
          have hrb := own_rb' hu
          have HX := Lib.hid (And.intro hrb (And.intro hn9 X))
          clear hi32 hu hne hB12 X hrb hn9 hs1l
          go_wp2_with (first
            | (go_at_call 21; go_must (refine (rsum_m (po ++ s1) A9 n9 c9 _ (by rw [List.length_append, HPL.out.2.1, HPL.out.2.2, HX.out.2.1]) HX.out.1 (by rw [HX.out.2.1]; omega)).mono ?_); rintro e w8 ⟨he, hb8⟩; rw [← HD.out.2.2.2, ← HD.out.2.2.1] at he; subst he)
            | ((with_reducible show wpList _ _ _ (⟨none, .store 30 (.tmp 4) _, _, _, _, _⟩ :: _) _ _); go_must (refine wpList_storeB (op := ⟨none, _, _, _, _, _⟩) A30 rfl _ _ rfl H 0 rfl d2 rfl k2 _ _ (HX.out.2.2.1.grow hb8) (Nat.le_of_eq ((Nat.zero_add _).trans k2)) o2 ?_); intro w9 hBw9 hgw9 hzw9))
          rw [splice_all _ _ k2] at hBw9
          refine ret_cell A30 Tryd.results33 H rfl _ d2 hBw9 k2 rfl ⟨by rw [HD.out.2.2.1], ?_⟩
          have z := HX.out.2.2.1.lt
          exact (HX.out.2.2.2.2.trans (hb8.mono (by omega))).grown hgw9 (by have := hb8.size; omega) (fun j hj => by simp at hj; omega)
end Go.Proofs.YtoemceehmiaigaaDoor.Sha
