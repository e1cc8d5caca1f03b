/- HMAC-SHA256: the keyed digest in plain words; a Mac's cells; the program's pad and begun. -/
import Derived.Test.YtoemceehmiaigaaDoorShaAid
import Derived.Test.YtoemceehmiaigaaDoorRgR
namespace Go.Proofs.YtoemceehmiaigaaDoor.Sha
open Go.RowKit Go.Proofs.YtoemceehmiaigaaDoor.Mem Go.Proofs.YtoemceehmiaigaaDoor.Loan
set_option linter.unusedVariables false

def padK (key : List UInt8) (by_ : UInt8) : List UInt8 := key.map (· ^^^ by_)
theorem padK_length (key : List UInt8) (by_ : UInt8) : (padK key by_).length = key.length := by simp [padK]
def shortK (k : List UInt8) : List UInt8 := if 64 < k.length then sumf k else k
theorem shortK_length (k : List UInt8) : (shortK k).length ≤ 64 := by
  unfold shortK
  split
  · rw [sumf_length]; omega
  · omega
def keyOf (k : List UInt8) : List UInt8 := shortK k ++ List.replicate (64 - (shortK k).length) 0
theorem keyOf_length (k : List UInt8) : (keyOf k).length = 64 := by
  have := shortK_length k
  simp [keyOf]; omega
def hmacf (k m : List UInt8) : List UInt8 := sumf (padK (keyOf k) 0x5C ++ sumf (padK (keyOf k) 0x36 ++ m))
def begunB (key b : List UInt8) : List UInt8 := if b = [] then padK key 0x36 else b

/-- the cells of a Mac -/
def mcell (key b : List UInt8) : List Value := key.map bv ++ hashCells b
theorem mcell_length (key b : List UInt8) (hk : key.length = 64) : (mcell key b).length = 137 := by simp [mcell, hashCells_length, hk]
theorem mcell_one (key b : List UInt8) : ∀ v ∈ mcell key b, v.oneCell' = true := by
  intro v hv
  rcases List.mem_append.1 hv with h | h
  · exact bytes_oneCell _ v h
  · exact hash_one _ v h
theorem mcell_key (key b : List UInt8) (hk : key.length = 64) : (mcell key b).take 64 = key.map bv := by unfold mcell; rw [List.take_left' (by simp [hk])]
theorem mcell_hash (key b : List UInt8) (hk : key.length = 64) : ((mcell key b).drop 64).take 73 = hashCells b := by
  unfold mcell; rw [List.drop_left' (by simp [hk]), List.take_of_length_le (by rw [hashCells_length]; omega)]
theorem mcell_n (key b : List UInt8) (hk : key.length = 64) : (mcell key b)[136]? = some (.int .i64 (b.length : Int)) := by
  unfold mcell
  rw [List.getElem?_append_right (by simp [hk])]
  simp only [List.length_map, hk]
  exact hcell_72 _ _ _ (restB_length b)
theorem mcell_put (key b b' : List UInt8) (hk : key.length = 64) : splice (mcell key b) 64 (hashCells b') = mcell key b' := by
  unfold mcell splice
  rw [List.take_left' (by simp [hk]), hashCells_length, List.drop_of_length_le (by simp [hashCells_length, hk]), List.append_nil]
theorem mcell_copy (key q b : List UInt8) (hk : key.length = 64) (hq : q.length ≤ 64) : splice (mcell key b) 0 (q.map bv) = mcell (q ++ key.drop q.length) b := by
  unfold mcell splice
  rw [List.take_zero, List.nil_append, Nat.zero_add, List.length_map, List.drop_append_of_le_length (by simp [hk]; exact hq), ← List.map_drop, List.map_append, List.append_assoc]

theorem A57 : Arr Tryd.prog 57 (mcell (List.replicate 64 0) []) := Arr.mk' Tryd.underlying57 rfl (by kernel_rfl)

/-- a key of which i bytes are turned -/
def padP (key : List UInt8) (by_ : UInt8) (i : Nat) : List UInt8 := (key.take i).map (· ^^^ by_) ++ key.drop i
theorem padP_length (key : List UInt8) (by_ : UInt8) (i : Nat) : (padP key by_ i).length = key.length := by simp [padP]; omega
theorem padP_zero (key : List UInt8) (by_ : UInt8) : padP key by_ 0 = key := by simp [padP]
theorem padP_all (key : List UInt8) (by_ : UInt8) (i : Nat) (h : key.length ≤ i) : padP key by_ i = padK key by_ := by
  unfold padP padK; rw [List.take_of_length_le h, List.drop_of_length_le h, List.append_nil]
theorem padP_get (key : List UInt8) (by_ : UInt8) (i : Nat) (h : i < key.length) : ((padP key by_ i).map bv)[i]? = some (bv key[i]) := by
  rw [List.getElem?_map]
  unfold padP
  rw [List.getElem?_append_right (by simp; omega)]
  simp
  rw [show i - min i key.length = 0 by omega]
  simp [h]
theorem padP_step (key : List UInt8) (by_ : UInt8) (i : Nat) (h : i < key.length) : ((padP key by_ i).map bv).set i (bv (key[i] ^^^ by_)) = (padP key by_ (i + 1)).map bv := by
  rw [← List.map_set]
  congr 1
  unfold padP
  have hk : ((key.take i).map (· ^^^ by_)).length = i := by simp; omega
  rw [List.set_append_right _ _ (by omega), hk, Nat.sub_self, List.drop_eq_getElem_cons h, List.set_cons_zero, take_succ_ h, List.map_append, List.append_assoc]
  rfl
theorem xor_b (c d : UInt8) : bits .xor .u8 (c.toNat : Int) (d.toNat : Int) = ((c ^^^ d).toNat : Int) := by
  rw [UInt8.toNat_xor]
  exact u8_xor_nat c.toNat d.toNat c.toNat_lt d.toNat_lt

def PD (H : Nat) (w0 : World) (mc ks : List Value) (w : World) : Prop := Blk w H 57 mc ∧ Blk w (H + 1) 41 ks ∧ Below H w0 w
theorem PD.set {H : Nat} {w0 w : World} {mc ks : List Value} (h : PD H w0 mc ks w) (i : Nat) (v : Value) : PD H w0 mc (ks.set i v) (w.setCell ⟨H + 1, i, none⟩ v) :=
  ⟨h.1.far (by simp) v, h.2.1.set_ i v, h.2.2.setCell (by simp) v⟩

set_option maxHeartbeats 1600000 in
set_option maxRecDepth 40000 in
theorem pad_any (key b : List UInt8) (by_ : UInt8) (hk : key.length = 64) (w : World) :
    Calls Tryd.prog 58 #[.agg (mcell key b).toArray, .int .u8 (by_.toNat : Int)] w fun e w' => ∃ g, e = .returned (.slice (some ⟨g, 0, none⟩) 64 64) ∧ w.heap.size ≤ g ∧ Blk w' g 41 ((padK key by_).map bv) ∧ Below w.heap.size w w' := by
  generalize hH : w.heap.size = H
  have hml := mcell_length key b hk
  have hmk := mcell_key key b hk
  obtain ⟨mc, hmc⟩ : ∃ x, x = mcell key b := ⟨_, rfl⟩
  rw [← hmc] at hml hmk ⊢
  clear hmc
  obtain ⟨ks, hks⟩ : ∃ x, x = key.map bv := ⟨_, rfl⟩
  have hkl : ks.length = (List.replicate 64 (bv 0)).length := by rw [hks]; simp [hk]
  have hk1 : ∀ v ∈ ks, v.oneCell' = true := by rw [hks]; exact bytes_oneCell _
  rw [← hks] at hmk
  have HKS := Lib.hid hks
  have hmk' : (mc.drop 0).take (List.replicate 64 (bv 0)).length = ks := by rw [List.drop_zero, List.length_replicate]; exact hmk
  clear hks hmk
  obtain ⟨bn, hbn⟩ : ∃ x, x = by_.toNat := ⟨_, rfl⟩
  rw [← hbn]
  have HBN := Lib.hid hbn
  clear hbn
  go_enter Tryd.func58, Tryd.ntmps58
  go_wp2_with (first
    | ((with_reducible show wpList _ _ _ (⟨some 2, _, _, _, _, _⟩ :: _) _ _); go_must (refine wpList_boxB (op := ⟨some 2, _, _, _, _, _⟩) rfl _ rfl mc rfl H hH ?_); intro w1 hB1 hb1 hz1)
    | ((with_reducible show wpList _ _ _ (⟨some 8, _, _, _, _, _⟩ :: _) _ _); go_must (refine wpList_loadB (op := ⟨some 8, _, _, _, _, _⟩) A41 rfl _ rfl H 0 rfl _ _ hB1 ks hmk' hkl ?_))
    | ((with_reducible show wpList _ _ _ (⟨some 5, _, _, _, _, _⟩ :: _) _ _); go_must (refine wpList_allocB (op := ⟨some 5, _, _, _, _, _⟩) A41 rfl rfl (H + 1) hz1 ?_); intro w2 hB2 hb2 hz2)
    | ((with_reducible show wpList _ _ _ (⟨none, .store 41 _ _, _, _, _, _⟩ :: _) _ _); go_must (refine wpList_storeB (op := ⟨none, _, _, _, _, _⟩) A41 rfl _ _ rfl (H + 1) 0 rfl ks rfl hkl _ _ hB2 (Nat.le_of_eq ((Nat.zero_add _).trans hkl)) hk1 ?_); intro w3 hB3 hg3 hz3))
  rw [splice_all _ _ hkl, HKS.out] at hB3
  have X : PD H w mc ((padP key by_ 0).map bv) w3 := by
    rw [padP_zero]
    exact ⟨(hB1.below hb2 (by omega)).grown hg3 (by simp), hB3, (hb1.trans (hb2.mono (by omega))).grown hg3 (by omega) (fun j hj => by simp at hj; omega)⟩
  have HX := Lib.hid X
  clear X hB1 hb1 hz1 hB2 hb2 hz2 hB3 hg3 hz3
  go_loopw [9] (fun v wr => ∃ i : Nat, i ≤ 64 ∧ v = .int .i64 i ∧ PD H w mc ((padP key by_ i).map bv) wr) (fun v _ => 64 - (intOf v).toNat)
  case atStart => exact ⟨0, by omega, rfl, HX.out⟩
  case round =>
    clear HX
    obtain ⟨i, hi, rfl, X⟩ := hrel
    by_cases hlt : i < 64
    · have hik : i < key.length := by omega
      have q0 := X.2.1.cell i
      rw [padP_get _ _ _ hik] at q0
      have f0 := X.2.1.frozen i
      have hx := xor_b key[i] by_
      rw [← HBN.out] at hx
      have hend := X.set i (bv (key[i] ^^^ by_))
      rw [padP_step _ _ _ hik] at hend
      have y0 : (0 : Int) ≤ (i : Int) := by omega
      have x0 : (i : Int) < 64 := by omega
      have HE := Lib.hid hend
      clear hend X
      go_wp2
      exact ⟨⟨i + 1, by omega, by go_num, HE.out⟩, by simp [intOf]; omega⟩
    · have hi64 : i = 64 := by omega
      rw [hi64, padP_all _ _ _ (by omega)] at X
      clear hi64
      go_wp2
      go_ret
      exact ⟨H + 1, rfl, by omega, X.2.1, X.2.2⟩
end Go.Proofs.YtoemceehmiaigaaDoor.Sha
