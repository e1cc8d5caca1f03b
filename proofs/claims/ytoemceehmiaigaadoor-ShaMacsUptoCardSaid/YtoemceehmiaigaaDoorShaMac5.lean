/- HMAC-SHA256: the program's Hmac; the reference's walk. -/
import Derived.Test.YtoemceehmiaigaaDoorShaMac4
namespace Go.Proofs.YtoemceehmiaigaaDoor.Sha
open Go.RowKit Go.Proofs.YtoemceehmiaigaaDoor.Mem Go.Proofs.YtoemceehmiaigaaDoor.Loan
set_option linter.unusedVariables false

theorem hmac_eq (k m : List UInt8) : hmacf k m = sumf (padK (keyOf k) 0x5C ++ sumf (begunB (keyOf k) (begunB (keyOf k) (padK (keyOf k) 0x36) ++ m))) := by
  have h := padK_ne (keyOf k) 0x36 (keyOf_length k)
  rw [begunB_ne (keyOf k) (padK (keyOf k) 0x36) h, begunB_ne (keyOf k) _ (by simp [h])]
  rfl

set_option maxHeartbeats 1600000 in
set_option maxRecDepth 40000 in
theorem phmac_any (k m : List UInt8) (A B : Option Addr) (na nb ca cb : Nat) (w : World) (hna : na = k.length) (hnb : nb = m.length) (ha : RB w A k) (hb : RB w B m) (hca : na ≤ ca) (hcb : nb ≤ cb) (hla : na ≤ 17592186044416) (hlb : nb ≤ 17592186044416) (hG : GB w) :
    Calls Tryd.prog 34 #[.slice A na ca, .slice B nb cb] w fun e w' => e = .returned (.agg ((hmacf k m).map bv).toArray) ∧ Below w.heap.size w w' := by
  generalize hH : w.heap.size = H
  have HG := Lib.hid hG
  have hH0 : 0 < H := hH ▸ hG.2
  have hkl := keyOf_length k
  have heq := hmac_eq k m
  obtain ⟨m1, hm1⟩ : ∃ x, x = mcell (keyOf k) (padK (keyOf k) 0x36) := ⟨_, rfl⟩
  obtain ⟨m2, hm2⟩ : ∃ x, x = mcell (keyOf k) (begunB (keyOf k) (padK (keyOf k) 0x36) ++ m) := ⟨_, rfl⟩
  obtain ⟨d, hd⟩ : ∃ x, x = (hmacf k m).map bv := ⟨_, rfl⟩
  have k1 : d.length = (List.replicate 32 (bv 0)).length := by rw [hd, heq, List.length_map, sumf_length]; simp
  have p1 : ∀ v ∈ d, v.oneCell' = true := by rw [hd]; exact bytes_oneCell _
  have cN := Lib.hid (show ∀ W, Below H w W → Calls Tryd.prog 30 #[.slice A na ca] W fun e w' => e = .returned (.agg m1.toArray) ∧ Below W.heap.size W w' from fun W hW => by
    rw [hm1]; subst hna; exact newmac_any k A ca W (ha.below (hH ▸ hW)) hca (by omega) (hG.below hW hH0))
  have cW := Lib.hid (show ∀ W, Below H w W → Calls Tryd.prog 31 #[.agg m1.toArray, .slice B nb cb] W fun e w' => e = .returned (.agg m2.toArray) ∧ Below W.heap.size W w' from fun W hW => by
    rw [hm1, hm2]; exact mwrite_any (keyOf k) (padK (keyOf k) 0x36) m hkl B nb cb W hnb (hb.below (hH ▸ hW)) hcb (hG.below hW hH0) (by rw [padK_length, hkl]; omega))
  have cS := Lib.hid (show ∀ W, Below H w W → Calls Tryd.prog 32 #[.agg m2.toArray] W fun e w' => e = .returned (.agg d.toArray) ∧ Below W.heap.size W w' from fun W hW => by
    rw [hm2, hd, heq]; exact msum_any (keyOf k) _ hkl W (hG.below hW hH0) (by
      rw [List.length_append]
      unfold begunB
      split <;> rw [padK_length, hkl] <;> omega))
  rw [← hd]
  clear hna hnb ha hb hca hcb hla hlb hG heq hm1 hm2 hd
  go_enter Tryd.func34, Tryd.ntmps34
  go_wp2_with (first
    | (go_at_call 30; go_must (refine (cN.out _ hbw1).mono ?_); rintro e w2 ⟨rfl, hb2⟩)
    | (go_at_call 31; go_must (refine (cW.out _ (hbw1.trans (hb2.mono (by omega)))).mono ?_); rintro e w3 ⟨rfl, hb3⟩)
    | (go_at_call 32; go_must (refine (cS.out _ ((hbw1.trans (hb2.mono (by omega))).trans (hb3.mono (by have := hb2.size; omega)))).mono ?_); rintro e w4 ⟨rfl, hb4⟩)
    | ((with_reducible show wpList _ _ _ (⟨some 4, _, _, _, _, _⟩ :: _) _ _); go_must (refine wpList_allocB (op := ⟨some 4, _, _, _, _, _⟩) A30 rfl rfl H hH ?_); intro w1 hBw1 hbw1 hzw1)
    | ((with_reducible show wpList _ _ _ (⟨none, .store 30 (.tmp 4) _, _, _, _, _⟩ :: _) _ _); go_must (refine wpList_storeB (op := ⟨none, _, _, _, _, _⟩) A30 rfl _ _ rfl H 0 rfl d rfl k1 _ _ (((hBw1.grow hb2).grow hb3).grow hb4) (Nat.le_of_eq ((Nat.zero_add _).trans k1)) p1 ?_); intro w5 hBw5 hgw5 hzw5))
  rw [splice_all _ _ k1] at hBw5
  refine ret_cell A30 Tryd.results34 H rfl _ d hBw5 k1 rfl ⟨rfl, ?_⟩
  have z2 := hb2.size
  have z3 := hb3.size
  have z4 := hb4.size
  exact (((hbw1.trans (hb2.mono (by omega))).trans (hb3.mono (by omega))).trans (hb4.mono (by omega))).grown hgw5 (by omega) (fun j hj => by simp at hj; omega)

theorem fillQ_length (d : List UInt8) (i n : Nat) (hd : d.length ≤ n) (hi : i ≤ d.length) : (fillB d i n).length = n := by simp [fillB]; omega
theorem fillQ_set (d : List UInt8) (i n : Nat) (hd : d.length ≤ n) (hi : i < d.length) : ((fillB d i n).map bv).set i (bv d[i]) = (fillB d (i + 1) n).map bv := by
  rw [← List.map_set]
  congr 1
  unfold fillB
  rw [List.set_append_right _ _ (by simp; omega), take_succ_ hi, List.append_assoc, show n - i = (n - (i + 1)) + 1 by omega, List.replicate_succ]
  congr 1
  rw [show i - (List.take i d).length = 0 by simp; omega]
  rfl
theorem fillQ_all (d : List UInt8) (n : Nat) : fillB d d.length n = d ++ List.replicate (n - d.length) 0 := by simp [fillB]

def RH (H : Nat) (w0 : World) (ks : List Value) (w : World) : Prop := Blk w H 30 (List.replicate 32 (bv 0)) ∧ Blk w (H + 1) 41 ks ∧ Below H w0 w
theorem RH.set {H : Nat} {w0 w : World} {ks : List Value} (h : RH H w0 ks w) (i : Nat) (v : Value) : RH H w0 (ks.set i v) (w.setCell ⟨H + 1, i, none⟩ v) :=
  ⟨h.1.far (by simp) v, h.2.1.set_ i v, h.2.2.setCell (by simp) v⟩

/-- two rows of the call's own in different memory -/
def Ap (v u : Value) : Prop := v.ownBlock = none ∨ u.ownBlock = none ∨ v.ownBlock ≠ u.ownBlock
theorem Ap.symm {v u : Value} (h : Ap v u) : Ap u v := by
  rcases h with h | h | h
  · exact .inr (.inl h)
  · exact .inl h
  · exact .inr (.inr (Ne.symm h))
theorem Ap.kept {v u : Value} (h : Ap v u) : u.ownBlock = none ∨ u.ownBlock ≠ v.ownBlock := by
  rcases h with h | h | h
  · by_cases hu : u.ownBlock = none
    · exact .inl hu
    · exact .inr (by rw [h]; exact hu)
  · exact .inl h
  · exact .inr (Ne.symm h)
theorem Ap.next {w : World} {B n : Nat} {T : TypeId} {v v' u : Value} {xs : List Value} (h : Ap v u) (hu : w.ownsRow B T 1 u n xs) (hv : v'.ownBlock = v.ownBlock ∨ v'.ownBlock = some w.heap.size) : Ap v' u := by
  rcases hv with hv | hv
  · unfold Ap at *; rw [hv]; exact h
  · by_cases hn : u.ownBlock = none
    · exact .inr (.inl hn)
    · refine .inr (.inr fun e => ?_)
      rw [hv] at e
      have := (hu.lt _ e.symm).2
      omega

theorem own_ne {w : World} {B n j : Nat} {T : TypeId} {v : Value} {xs : List Value} (h : w.ownsRow B T 1 v n xs) (hj : j < B) : some j ≠ v.ownBlock := fun e => by
  have := (h.lt _ e.symm).1
  omega
theorem RH.app {H n : Nat} {w0 w w' : World} {ks xs : List Value} {T : TypeId} {v : Value} {o : Obj} (h : RH H w0 ks w) (hown : w.ownsRow (H + 2) T 1 v n xs) (hg : (w.alloc o).grownBy w' v.ownBlock) : RH H w0 ks w' := by
  have z := h.1.lt
  refine ⟨(h.1.alloc o).grown hg (own_ne hown (by omega)), (h.2.1.alloc o).grown hg (own_ne hown (by omega)), (h.2.2.alloc (by omega) o).grown hg (by simp; omega) (fun k hk => ?_)⟩
  have := (hown.lt k hk).1
  omega
theorem RH.app0 {H n : Nat} {w0 w w' : World} {ks xs : List Value} {T : TypeId} {v : Value} (h : RH H w0 ks w) (hown : w.ownsRow (H + 2) T 1 v n xs) (hg : w.grownBy w' v.ownBlock) : RH H w0 ks w' := by
  have z := h.1.lt
  refine ⟨h.1.grown hg (own_ne hown (by omega)), h.2.1.grown hg (own_ne hown (by omega)), h.2.2.grown hg (by omega) (fun k hk => ?_)⟩
  have := (hown.lt k hk).1
  omega
theorem rsum_m (l : List UInt8) (A : Option Addr) (n c : Nat) (w : World) (hn : n = l.length) (ha : RB w A l) (hl : n ≤ 35184372088832) :
    Calls Tryd.prog 21 #[.slice A n c] w fun e w' => e = .returned (.agg ((sumf l).map bv).toArray) ∧ Below w.heap.size w w' := by
  subst hn; exact rsum_any l A c w ha hl
theorem ap_ne {v u : Value} {n g : Nat} (h : v.ownBlock = u.ownBlock ∨ v.ownBlock = some n) (hu : u.ownBlock ≠ some g) (hn : g < n) : v.ownBlock ≠ some g := by
  rcases h with h | h
  · rw [h]; exact hu
  · rw [h]; intro e; injection e; omega
theorem own_below {w w' : World} {B n : Nat} {T : TypeId} {v : Value} {xs : List Value} (h : w.ownsRow B T 1 v n xs) (hb : Below w.heap.size w w') : w'.ownsRow B T 1 v n xs :=
  h.kept (row := none) ⟨hb.os, hb.tape, hb.output, hb.size, fun k hk _ => hb.block k hk⟩ (by
    by_cases hn : v.ownBlock = none
    · exact .inl hn
    · exact .inr hn)
theorem take_cell (s : List UInt8) (po : List UInt8) (i : Nat) (h : i < s.length) : (po ++ s.take i).map bv ++ [bv s[i]] = (po ++ s.take (i + 1)).map bv := by
  rw [take_succ_ h, List.map_append, List.map_append, List.map_append, List.append_assoc]; rfl
theorem pad_take (key : List UInt8) (by_ : UInt8) (i : Nat) (h : i < key.length) : ((padK key by_).take i).map bv ++ [bv (key[i] ^^^ by_)] = ((padK key by_).take (i + 1)).map bv := by
  have hl : i < (padK key by_).length := by rw [padK_length]; exact h
  rw [take_succ_ hl, List.map_append]
  simp [padK]

set_option maxHeartbeats 3200000 in
set_option maxRecDepth 40000 in
theorem rhmac_any (k m : List UInt8) (A B : Option Addr) (na nb ca cb : Nat) (w : World) (hna : na = k.length) (hnb : nb = m.length) (ha : RB w A k) (hb : RB w B m) (hla : na ≤ 17592186044416) (hlb : nb ≤ 17592186044416) :
    Calls Tryd.prog 33 #[.slice A na ca, .slice B nb cb] w fun e w' => e = .returned (.agg ((hmacf k m).map bv).toArray) ∧ Below w.heap.size w w' := by
  generalize hH : w.heap.size = H
  have HA := Lib.hid (And.intro hna ha)
  have HB := Lib.hid (And.intro hnb hb)
  have hsl := shortK_length k
  have cS := Lib.hid (show ∀ W, Below H w W → Calls Tryd.prog 21 #[.slice A na ca] W fun e w' => e = .returned (.agg ((sumf k).map bv).toArray) ∧ Below W.heap.size W w' from fun W hW => by
    subst hna; exact rsum_any k A ca W (ha.below (hH ▸ hW)) (by omega))
  clear hna hnb ha hb
  go_enter Tryd.func33, Tryd.ntmps33
  go_upto_if 16 with (first
    | ((with_reducible show wpList _ _ _ (⟨some 4, _, _, _, _, _⟩ :: _) _ _); go_must (refine wpList_allocB (op := ⟨some 4, _, _, _, _, _⟩) A30 rfl rfl H hH ?_); intro w1 hBw1 hbw1 hzw1)
    | ((with_reducible show wpList _ _ _ (⟨some 5, _, _, _, _, _⟩ :: _) _ _); go_must (refine wpList_allocB (op := ⟨some 5, _, _, _, _, _⟩) A41 rfl rfl (H + 1) hzw1 ?_); intro w2 hBw2 hbw2 hzw2))
  have X0 : RH H w ((fillB (shortK k) 0 64).map bv) w2 := by
    refine ⟨hBw1.below hbw2 (by omega), ?_, hbw1.trans (hbw2.mono (by omega))⟩
    rw [fillB_none]; exact hBw2
  have HX := Lib.hid X0
  clear X0 hBw1 hbw1 hzw1 hBw2 hbw2 hzw2
  go_cut [] (fun wx => RH H w ((keyOf k).map bv) wx)
  case first =>
    by_cases hbig : 64 < na
    · have hbig' : (64 : Int) < (na : Int) := by omega
      obtain ⟨q, hq⟩ : ∃ q, q = shortK k := ⟨_, rfl⟩
      have hqs : q = sumf k := by rw [hq]; unfold shortK; rw [if_pos (by have := HA.out.1; omega)]
      have hq32 : q.length = 32 := by rw [hqs, sumf_length]
      have hkey : keyOf k = fillB q q.length 64 := by unfold keyOf; rw [← hq, fillQ_all]
      rw [← hqs] at cS
      rw [← hq] at HX
      obtain ⟨d, hd⟩ : ∃ d, d = q.map bv := ⟨_, rfl⟩
      have k1 : d.length = (List.replicate 32 (bv 0)).length := by rw [hd, List.length_map, hq32]; simp
      have p1 : ∀ v ∈ d, v.oneCell' = true := by rw [hd]; exact bytes_oneCell _
      rw [← hd] at cS
      have HD := Lib.hid (And.intro hd hkey)
      clear hbig hqs hd hq hkey
      go_wp2_with (first
        | (go_at_call 21; go_must (refine (cS.out _ HX.out.2.2).mono ?_); rintro e w3 ⟨rfl, hb3⟩)
        | ((with_reducible show wpList _ _ _ (⟨some 6, _, _, _, _, _⟩ :: _) _ _); go_must (refine wpList_allocB (op := ⟨some 6, _, _, _, _, _⟩) A30 rfl rfl w3.heap.size rfl ?_); intro w4 hBw4 hbw4 hzw4)
        | ((with_reducible show wpList _ _ _ (⟨none, .store 30 (.tmp 6) _, _, _, _, _⟩ :: _) _ _); go_must (refine wpList_storeB (op := ⟨none, _, _, _, _, _⟩) A30 rfl _ _ rfl w3.heap.size 0 rfl d rfl k1 _ _ hBw4 (Nat.le_of_eq ((Nat.zero_add _).trans k1)) p1 ?_); intro w5 hBw5 hgw5 hzw5; rw [splice_all _ _ k1, HD.out.1] at hBw5))
      have hgrow : Below w2.heap.size w2 w5 := gst hb3 hbw4 hgw5 hb3.size
      have X5 : RH H w ((fillB q 0 64).map bv) w5 ∧ Blk w5 w3.heap.size 30 (q.map bv) ∧ H + 1 < w3.heap.size := by
        have z := hb3.size
        have z2 := HX.out.2.1.lt
        exact ⟨⟨HX.out.1.grow hgrow, HX.out.2.1.grow hgrow, HX.out.2.2.trans (hgrow.mono (by have := HX.out.1.lt; omega))⟩, hBw5, by omega⟩
      obtain ⟨g6, hg6⟩ : ∃ g, g = w3.heap.size := ⟨_, rfl⟩
      rw [← hg6] at X5 ⊢
      replace HX := Lib.hid X5
      clear X5 hb3 hBw4 hbw4 hzw4 hBw5 hgw5 hzw5 hgrow hg6
      go_loopw [7] (fun v wr => ∃ i : Nat, i ≤ 32 ∧ v = .int .i64 i ∧ RH H w ((fillB q i 64).map bv) wr ∧ Blk wr g6 30 (q.map bv) ∧ H + 1 < g6) (fun v _ => 32 - (intOf v).toNat)
      case atStart => exact ⟨0, by omega, rfl, HX.out⟩
      case round =>
        clear HX
        obtain ⟨i, hi, rfl, X, hB6, hgH⟩ := hrel
        by_cases hlt : i < 32
        · have hiq : i < q.length := by omega
          have c0 := hB6.cell i
          rw [List.getElem?_map, List.getElem?_eq_getElem hiq] at c0
          simp only [Option.map_some] at c0
          have hl64 := fillQ_length q i 64 (by omega) (by omega)
          obtain ⟨old, c1⟩ := X.2.1.at_ (i := i) (by rw [List.length_map, hl64]; omega)
          have f1 := X.2.1.frozen i
          have hend := X.set i (bv q[i])
          rw [fillQ_set q i 64 (by omega) hiq] at hend
          have HE := Lib.hid (And.intro hend (hB6.far (p := ⟨H + 1, i, none⟩) (by simp; omega) (bv q[i])))
          have y0 : (0 : Int) ≤ (i : Int) := by omega
          have x0 : (i : Int) < 32 := by omega
          clear X hB6 hend
          go_wp2
          exact ⟨⟨i + 1, by omega, by go_num, HE.out.1, HE.out.2, hgH⟩, by simp [intOf]; omega⟩
        · have hi32 : i = q.length := by omega
          rw [hi32, ← HD.out.2] at X
          clear hi32
          have HXX := Lib.hid X
          clear X hB6
          go_wp2_with fail
          go_meet
          exact HXX.out
    · have hbig' : ¬ (64 : Int) < (na : Int) := by omega
      obtain ⟨q, hq⟩ : ∃ q, q = shortK k := ⟨_, rfl⟩
      have hqs : q = k := by rw [hq]; unfold shortK; rw [if_neg (by have := HA.out.1; omega)]
      have hkey : keyOf k = fillB q q.length 64 := by unfold keyOf; rw [← hq, fillQ_all]
      have hqn : q.length = na := by rw [hqs]; exact HA.out.1.symm
      have hRB : ∀ W, Below H w W → RB W A q := fun W hW => by rw [hqs]; exact HA.out.2.below (hH ▸ hW)
      rw [← hq] at HX hsl
      have HD := Lib.hid (And.intro hRB hkey)
      have HQN := Lib.hid hqn
      clear hqs hq hkey hRB hbig hqn
      go_wp2_with fail
      go_loopw [8] (fun v wr => ∃ i : Nat, i ≤ na ∧ v = .int .i64 i ∧ RH H w ((fillB q i 64).map bv) wr) (fun v _ => na - (intOf v).toNat)
      case atStart => exact ⟨0, by omega, rfl, HX.out⟩
      case round =>
        clear HX
        obtain ⟨i, hi, rfl, X⟩ := hrel
        have hqn := HQN.out
        by_cases hlt : i < na
        · have hiq : i < q.length := by omega
          obtain ⟨ad, rfl, c0⟩ := HD.out.1 _ X.2.2 i hiq
          have hl64 := fillQ_length q i 64 (by omega) (by omega)
          obtain ⟨old, c1⟩ := X.2.1.at_ (i := i) (by rw [List.length_map, hl64]; omega)
          have f1 := X.2.1.frozen i
          have hend := X.set i (bv q[i])
          rw [fillQ_set q i 64 (by omega) hiq] at hend
          have HE := Lib.hid hend
          have y0 : (0 : Int) ≤ (i : Int) := by omega
          have x0 : (i : Int) < 64 := by omega
          have x1 : (i : Int) < (na : Int) := by omega
          clear X hend hqn
          go_wp2
          exact ⟨⟨i + 1, by omega, by go_num, HE.out⟩, by simp [intOf]; omega⟩
        · have hi32 : i = q.length := by omega
          rw [hi32, ← HD.out.2] at X
          have hx1 : (i : Int) = (na : Int) := by omega
          clear hi32 hqn
          have HXX := Lib.hid X
          clear X
          go_wp2_with fail
          go_meet
          exact HXX.out
  case rest =>
  replace HX := Lib.hid hcut
  clear hcut cS
  have hkl := keyOf_length k
  have hres : hmacf k m = sumf (padK (keyOf k) 0x5C ++ sumf (padK (keyOf k) 0x36 ++ m)) := rfl
  obtain ⟨key, hkk⟩ : ∃ x, x = keyOf k := ⟨_, rfl⟩
  rw [← hkk] at hkl hres HX
  have hpi : (padK key 0x36).length = 64 := by rw [padK_length, hkl]
  have hpo : (padK key 0x5C).length = 64 := by rw [padK_length, hkl]
  have HRES := Lib.hid hres
  clear hkk hres
  go_wp2_with fail
  go_loopw [9, 10, 11] (fun v u t wr => ∃ i : Nat, i ≤ 64 ∧ t = .int .i64 i ∧ wr.ownsRow (H + 2) 5 1 v i (((padK key 0x36).take i).map bv) ∧ wr.ownsRow (H + 2) 5 1 u i (((padK key 0x5C).take i).map bv) ∧ Ap v u ∧ RH H w (key.map bv) wr) (fun _ _ t _ => 64 - (intOf t).toNat)
  case atStart => exact ⟨0, by omega, rfl, by simpa using World.ownsRow_nil wc _ _ _, by simpa using World.ownsRow_nil wc _ _ _, .inl rfl, HX.out⟩
  case round =>
    clear HX
    obtain ⟨i, hi, rfl, hv, hu, hap, X⟩ := hrel
    by_cases hlt : i < 64
    · have hik : i < key.length := by omega
      have c0 := X.2.1.cell i
      rw [List.getElem?_map, List.getElem?_eq_getElem hik] at c0
      simp only [Option.map_some] at c0
      have hx1 : bits .xor .u8 (key[i].toNat : Int) 54 = ((key[i] ^^^ 0x36).toNat : Int) := xor_b key[i] 0x36
      have hx2 : bits .xor .u8 (key[i].toNat : Int) 92 = ((key[i] ^^^ 0x5C).toNat : Int) := xor_b key[i] 0x5C
      have z := X.2.1.lt
      have HX := Lib.hid (And.intro hv (And.intro hu (And.intro hap X)))
      have y0 : (0 : Int) ≤ (i : Int) := by omega
      have x0 : (i : Int) < 64 := by omega
      clear hv hu hap X
      go_wp2_with (first
        | ((with_reducible show wpList _ _ _ (⟨some 50, _, _, _, _, _⟩ :: _) _ _); go_must (refine wpList_app E8 rfl (.tmp 44) (.tmp 49) rfl (H + 2) _ i _ rfl (HX.out.1.alloc _) (some ⟨wr.heap.size, 0, none⟩) 1 1 [bv (key[i] ^^^ 0x36)] rfl (rv_new _ _ _) rfl (bytes_oneCell [_]) (by unfold maxLen; omega) (by omega) (by simp; omega) ?_); intro v9 w3 hown3 hg3 hv3; have X3 := HX.out.2.2.2.app HX.out.1 hg3; have hu3 := (HX.out.2.1.alloc _).kept hg3 HX.out.2.2.1.kept; have hap3 := HX.out.2.2.1.next (HX.out.2.1.alloc _) hv3; have d0 := X3.2.1.cell i; rw [List.getElem?_map, List.getElem?_eq_getElem hik] at d0; simp only [Option.map_some] at d0; rw [pad_take _ _ _ hik] at hown3; replace X3 := Lib.hid (And.intro hown3 (And.intro hu3 (And.intro hap3 X3))); clear hown3 hg3 hv3 hu3 hap3)
        | ((with_reducible show wpList _ _ _ (⟨some 57, _, _, _, _, _⟩ :: _) _ _); go_must (refine wpList_app E8 rfl (.tmp 51) (.tmp 56) rfl (H + 2) _ i _ rfl (X3.out.2.1.alloc _) (some ⟨w3.heap.size, 0, none⟩) 1 1 [bv (key[i] ^^^ 0x5C)] rfl (rv_new _ _ _) rfl (bytes_oneCell [_]) (by unfold maxLen; omega) (by omega) (by have := X3.out.2.2.2.2.1.lt; simp; omega) ?_); intro v10 w4 hown4 hg4 hv4; have X4 := X3.out.2.2.2.app X3.out.2.1 hg4; have hu4 := (X3.out.1.alloc _).kept hg4 X3.out.2.2.1.symm.kept; have hap4 := (X3.out.2.2.1.symm.next (X3.out.1.alloc _) hv4).symm; rw [pad_take _ _ _ hik] at hown4; replace X4 := Lib.hid (And.intro hu4 (And.intro hown4 (And.intro hap4 X4))); clear hown4 hg4 hv4 hu4 hap4))
      exact ⟨⟨i + 1, by omega, by go_num, X4.out⟩, by simp [intOf]; omega⟩
    · have hi64 : i = 64 := by omega
      rw [hi64, List.take_of_length_le (by omega)] at hv hu
      have hi64' : (i : Int) = 64 := by omega
      clear hi64
      obtain ⟨pi, hpi'⟩ : ∃ x, x = padK key 0x36 := ⟨_, rfl⟩
      obtain ⟨po, hpo'⟩ : ∃ x, x = padK key 0x5C := ⟨_, rfl⟩
      have hres := HRES.out
      rw [← hpi'] at hv hpi hres
      rw [← hpo'] at hu hpo hres
      obtain ⟨s1, hs1⟩ : ∃ x, x = sumf (pi ++ m) := ⟨_, rfl⟩
      have hs1l : s1.length = 32 := by rw [hs1, sumf_length]
      rw [← hs1] at hres
      obtain ⟨d1, hd1⟩ : ∃ x, x = s1.map bv := ⟨_, rfl⟩
      have k1 : d1.length = (List.replicate 32 (bv 0)).length := by rw [hd1, List.length_map, hs1l]; simp
      have o1 : ∀ v ∈ d1, v.oneCell' = true := by rw [hd1]; exact bytes_oneCell _
      obtain ⟨d2, hd2⟩ : ∃ x, x = (hmacf k m).map bv := ⟨_, rfl⟩
      have k2 : d2.length = (List.replicate 32 (bv 0)).length := by rw [hd2, hres, List.length_map, sumf_length]; simp
      have o2 : ∀ v ∈ d2, v.oneCell' = true := by rw [hd2]; exact bytes_oneCell _
      have HD := Lib.hid (And.intro hs1 (And.intro hd1 (And.intro hd2 hres)))
      have HX := Lib.hid (And.intro hv (And.intro hu (And.intro hap X)))
      have HPL := Lib.hid (And.intro hpi (And.intro hpo hs1l))
      clear hv hu hap X HRES hpi' hpo' hres hs1 hd1 hd2 hpi hpo hs1l
      go_wp2_with (first
        | ((with_reducible show wpList _ _ _ (⟨some 60, _, _, _, _, _⟩ :: _) _ _); go_must (refine wpList_app E8 rfl (.tmp 58) (.tmp 59) rfl (H + 2) _ 64 _ rfl HX.out.1 B nb cb (m.map bv) rfl ((HB.out.2.below (hH ▸ HX.out.2.2.2.2.2)).rv) (by rw [List.length_map, ← HB.out.1]; simp) (bytes_oneCell m) (by unfold maxLen; omega) (by omega) (by have := HX.out.2.2.2.2.1.lt; omega) ?_); intro v9 w3 hown3 hg3 hv3; have X3 := HX.out.2.2.2.app0 HX.out.1 hg3; have hu3 := HX.out.2.1.kept hg3 HX.out.2.2.1.kept; rw [← List.map_append] at hown3; obtain ⟨A9, n9, c9, rfl, hn9⟩ := own_form hown3; have hrb3 := own_rb' hown3; replace X3 := Lib.hid (And.intro hu3 (And.intro hrb3 (And.intro hn9 X3))); clear hown3 hg3 hv3 hu3 hrb3 hn9)
        | (go_at_call 21; go_must (refine (rsum_m (pi ++ m) A9 n9 c9 _ (by rw [List.length_append, HPL.out.1, X3.out.2.2.1, HB.out.1]) X3.out.2.1 (by rw [X3.out.2.2.1]; omega)).mono ?_); rintro e w4 ⟨he, hb4⟩; rw [← HD.out.1, ← HD.out.2.1] at he; subst he)
        | ((with_reducible show wpList _ _ _ (⟨some 12, _, _, _, _, _⟩ :: _) _ _); go_must (refine wpList_allocB (op := ⟨some 12, _, _, _, _, _⟩) A30 rfl rfl w4.heap.size rfl ?_); intro w5 hBw5 hbw5 hzw5)
        | ((with_reducible show wpList _ _ _ (⟨none, .store 30 (.tmp 12) _, _, _, _, _⟩ :: _) _ _); go_must (refine wpList_storeB (op := ⟨none, _, _, _, _, _⟩) A30 rfl _ _ rfl w4.heap.size 0 rfl d1 rfl k1 _ _ hBw5 (Nat.le_of_eq ((Nat.zero_add _).trans k1)) o1 ?_); intro w6 hBw6 hgw6 hzw6; rw [splice_all _ _ k1] at hBw6))
      have z4 := hb4.size
      have hgrow : Below w3.heap.size w3 w6 := gst hb4 hbw5 hgw6 z4
      obtain ⟨g12, hg12⟩ : ∃ g, g = w4.heap.size := ⟨_, rfl⟩
      rw [← hg12] at hBw6 ⊢
      have hgg : H + 1 < g12 := by have := X3.out.2.2.2.2.1.lt; omega
      have hwn := fun b hb => (X3.out.1.lt b hb).2
      have X6 := And.intro (own_below X3.out.1 hgrow) (And.intro hBw6 (And.intro hgg (show RH H w (key.map bv) w6 from ⟨X3.out.2.2.2.1.grow hgrow, X3.out.2.2.2.2.1.grow hgrow, X3.out.2.2.2.2.2.trans (hgrow.mono (Nat.le_of_lt X3.out.2.2.2.1.lt))⟩)))
      rw [HD.out.2.1] at X6
      have HN := Lib.hid hwn
      have H3 := Lib.hid (show w3.heap.size ≤ g12 by omega)
      replace HX := Lib.hid X6
      clear X6 hwn hgg hb4 hBw5 hbw5 hzw5 hBw6 hgw6 hzw6 z4 hgrow hg12 X3
      go_loopw [10, 13] (fun u t wr => ∃ i : Nat, i ≤ 32 ∧ t = .int .i64 i ∧ wr.ownsRow (H + 2) 5 1 u (64 + i) ((po ++ s1.take i).map bv) ∧ u.ownBlock ≠ some g12 ∧ Blk wr g12 30 (s1.map bv) ∧ H + 1 < g12 ∧ RH H w (key.map bv) wr) (fun _ t _ => 32 - (intOf t).toNat)
      case atStart => exact ⟨0, by omega, rfl, by simpa using HX.out.1, (fun e => by have := HN.out _ e; have := H3.out; omega), HX.out.2.1, HX.out.2.2.1, HX.out.2.2.2⟩
      case round =>
        clear HX
        obtain ⟨i, hi, rfl, hu, hne, hB12, hgg, X⟩ := hrel
        have hs1l := HPL.out.2.2
        by_cases hlt : i < 32
        · have his : i < s1.length := by omega
          have c0 := hB12.cell i
          rw [List.getElem?_map, List.getElem?_eq_getElem his] at c0
          simp only [Option.map_some] at c0
          have z := X.2.1.lt
          have zg := hB12.lt
          replace HX := Lib.hid (And.intro hu (And.intro hne (And.intro hB12 X)))
          have y0 : (0 : Int) ≤ (i : Int) := by omega
          have x0 : (i : Int) < 32 := by omega
          clear hu hne hB12 X hs1l
          go_wp2_with (first
            | ((with_reducible show wpList _ _ _ (⟨some 72, _, _, _, _, _⟩ :: _) _ _); go_must (refine wpList_app E8 rfl (.tmp 67) (.tmp 71) rfl (H + 2) _ (64 + i) _ rfl (HX.out.1.alloc _) (some ⟨wr.heap.size, 0, none⟩) 1 1 [bv s1[i]] rfl (rv_new _ _ _) rfl (bytes_oneCell [_]) (by unfold maxLen; omega) (by omega) (by simp; omega) ?_); intro v10 w7 hown7 hg7 hv7; have X7 := HX.out.2.2.2.app HX.out.1 hg7; have hB7 := (HX.out.2.2.1.alloc _).grown hg7 (Ne.symm HX.out.2.1); have hne7 : v10.ownBlock ≠ some g12 := ap_ne hv7 HX.out.2.1 (by simp; omega); rw [take_cell _ _ _ his] at hown7; replace X7 := Lib.hid (And.intro hown7 (And.intro hne7 (And.intro hB7 (And.intro hgg X7)))); clear hown7 hg7 hv7 hB7 hne7))
          exact ⟨⟨i + 1, by omega, by go_num, X7.out⟩, by simp [intOf]; omega⟩
        · have hi32 : i = 32 := by omega
          rw [hi32, List.take_of_length_le (by omega)] at hu
          have hi32' : (i : Int) = 32 := by omega
          obtain ⟨A9, n9, c9, rfl, hn9⟩ := own_form hu
          have hrb := own_rb' hu
          have HX := Lib.hid (And.intro hrb (And.intro hn9 X))
          clear hi32 hu hne hB12 X hrb hn9 hs1l
          go_wp2_with (first
            | (go_at_call 21; go_must (refine (rsum_m (po ++ s1) A9 n9 c9 _ (by rw [List.length_append, HPL.out.2.1, HPL.out.2.2, HX.out.2.1]) HX.out.1 (by rw [HX.out.2.1]; omega)).mono ?_); rintro e w8 ⟨he, hb8⟩; rw [← HD.out.2.2.2, ← HD.out.2.2.1] at he; subst he)
            | ((with_reducible show wpList _ _ _ (⟨none, .store 30 (.tmp 4) _, _, _, _, _⟩ :: _) _ _); go_must (refine wpList_storeB (op := ⟨none, _, _, _, _, _⟩) A30 rfl _ _ rfl H 0 rfl d2 rfl k2 _ _ (HX.out.2.2.1.grow hb8) (Nat.le_of_eq ((Nat.zero_add _).trans k2)) o2 ?_); intro w9 hBw9 hgw9 hzw9))
          rw [splice_all _ _ k2] at hBw9
          refine ret_cell A30 Tryd.results33 H rfl _ d2 hBw9 k2 rfl ⟨by rw [HD.out.2.2.1], ?_⟩
          have z := HX.out.2.2.1.lt
          exact (HX.out.2.2.2.2.trans (hb8.mono (by omega))).grown hgw9 (by have := hb8.size; omega) (fun j hj => by simp at hj; omega)
end Go.Proofs.YtoemceehmiaigaaDoor.Sha
