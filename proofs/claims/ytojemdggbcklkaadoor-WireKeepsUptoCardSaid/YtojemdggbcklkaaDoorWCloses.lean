/- closes: does the connection end? -/
import Derived.Test.YtojemdggbcklkaaDoorWJudge
import Derived.Test.YtojemdggbcklkaaDoorWShelf

/- strings.Split at a comma. -/
namespace Go.Proofs.YtojemdggbcklkaaDoor.WireR
open Go.RowKit Go.Proofs.YtojemdggbcklkaaDoor.Mem Go.Proofs.YtojemdggbcklkaaDoor.Wire Go.Proofs.YtojemdggbcklkaaDoor.Strs Go.Proofs.YtojemdggbcklkaaDoor.Split Go.Proofs.YtojemdggbcklkaaDoor.Heads
set_option linter.unusedVariables false
set_option linter.unusedSimpArgs false
set_option maxRecDepth 4000

theorem split_pos (c : UInt8) : ∀ l : List UInt8, 0 < (splitL c l).length
  | [] => by simp [splitL]
  | x :: r => by
    unfold splitL
    split
    · simp
    · split <;> simp
theorem split_count (c : UInt8) (l : List UInt8) : (splitL c l).length = l.count c + 1 := by
  induction l with
  | nil => rfl
  | cons x r ih =>
    unfold splitL
    by_cases h : x = c
    · rw [if_pos h, List.length_cons, ih, h, List.count_cons_self]
    · rw [if_neg h, List.count_cons_of_ne (by simpa using h)]
      have hp := split_pos c r
      revert ih hp
      cases splitL c r with
      | nil => intro _ hp; simp at hp
      | cons a t => intro ih _; simpa using ih
theorem split_one {c : UInt8} {t : List UInt8} (h : (splitL c t).length = 1) : cutL c t = none := by
  cases hc : cutL c t with
  | none => rfl
  | some p =>
    obtain ⟨a, b⟩ := p
    rw [splitL_some hc, List.length_cons] at h
    have := split_pos c b
    omega
theorem set_at (P : List Value) (r : Nat) (z v : Value) : (P ++ List.replicate (r + 1) z).set P.length v = (P ++ [v]) ++ List.replicate r z := by
  rw [List.set_append_right _ _ (Nat.le_refl _), Nat.sub_self, List.replicate_succ, List.set_cons_zero, List.append_assoc]
  rfl
theorem idx_t {c : UInt8} {t a b : List UInt8} (h : cutL c t = some (a, b)) : Lib.indexByte t c = (a.length : Int) := by rw [indexByte_cut, h]
structure SplitSt (w wr : World) (H : Nat) (l : List UInt8) (m k : Nat) (P : List (List UInt8)) (t : List UInt8) : Prop where
  km : k ≤ m
  eq : splitL 44 l = P ++ splitL 44 t
  len : P.length = k
  tl : t.length ≤ l.length
  blk : Blk wr H 9 (P.map Heads.strV ++ List.replicate (m + 1 - k) (.string ⟨#[]⟩))
  bel : Below w.heap.size w wr
set_option maxHeartbeats 8000000 in
theorem gensplit_any (l : List UInt8) (w : World) (hl : l.length ≤ 1048576) :
    Calls Tryd.prog 72 #[.string ⟨l.toArray⟩, .string ⟨#[44]⟩, .int .i64 0, .int .i64 (-1)] w fun e w' => ∃ A c, e = .returned (.slice A (splitL 44 l).length c) ∧ RV w' A ((splitL 44 l).map Heads.strV) ∧ Below w.heap.size w w' := by
  obtain ⟨m, hm⟩ : ∃ m, m = l.count 44 := ⟨_, rfl⟩
  obtain ⟨n1, hn1⟩ : ∃ n, n = m + 1 := ⟨_, rfl⟩
  have hsl : (splitL 44 l).length = n1 := by rw [split_count, hn1, hm]
  rw [hsl]
  obtain ⟨n, hn⟩ : ∃ n, n = l.length := ⟨_, rfl⟩
  have hmn : m ≤ n := by rw [hm, hn]; exact List.count_le_length
  obtain ⟨s, hs⟩ : ∃ s, s = (⟨l.toArray⟩ : ByteArray) := ⟨_, rfl⟩
  have hsz : s.size = n := by rw [hs, hn]; simp [ByteArray.size]
  have c1 := fun w => Tryd.strings_Count_one ⟨l.toArray⟩ 44 w
  rw [show (Lib.countByte (⟨l.toArray⟩ : ByteArray).data.toList 44) = m from hm.symm, ← hs] at c1
  have C1 := Lib.hid c1
  have CI := Lib.hid (fun (t : List UInt8) (w : World) => Tryd.strings_Index_one ⟨t.toArray⟩ 44 w)
  have i1 : (m : Int) + 1 = (n1 : Int) := by omega
  have i2 : (n1 : Int) - 1 = (m : Int) := by omega
  have i3 : min (n1 : Int) ((n : Int) + 1) = (n1 : Int) := by omega
  have i4 : (n : Int) ≤ 1048576 := by omega
  have i5 : (n1 : Int) ≤ 1048577 := by omega
  have HL := Lib.hid (And.intro hm (And.intro hn1 (And.intro hn (And.intro hmn (And.intro hsl hs)))))
  have HI := Lib.hid (And.intro i1 i5)
  rw [← hs]
  have j0 : (0 : Int) ≤ (n1 : Int) := by omega
  have w1 := w64b i1 j0 (by omega)
  have w2 := w64b i2 (by clear w1; omega) (by clear w1; omega)
  have w3 := w64w (x := (n : Int) + 1) (by clear w1 w2; omega) (by clear w1 w2; omega)
  clear c1 hm hn1 hmn hsl hs hl hn i1 i2
  go_enter Tryd.func72, Tryd.ntmps72
  go_upto_region 9 with (first
    | (go_at_call 82; go_must (refine (C1.out _).mono ?_); rintro e w2 ⟨rfl, hw2⟩; rw [hw2]; clear hw2 w2)
    | ((with_reducible show wpList _ _ _ (⟨some 31, _, _, _, _, _⟩ :: _) _ _); go_must (refine wpList_make1 E32 rfl (.tmp 30) (.tmp 30) rfl .i64 .i64 (n1 : Int) (n1 : Int) n1 rfl rfl rfl rfl (by omega) (by unfold maxLen; omega) w.heap.size rfl ?_); intro w5 hB5 hb5 hz5))
  obtain ⟨H, hH⟩ : ∃ H, H = w.heap.size := ⟨_, rfl⟩
  rw [← hH] at hB5 ⊢
  have HB := Lib.hid (And.intro hB5 (And.intro hb5 hH))
  clear hB5 hb5 hz5 hH i3 w1 w3
  go_wp2
  clear w2
  go_loopw [0, 10] (fun a v wr => ∃ (k : Nat) (P : List (List UInt8)) (t : List UInt8), v = .int .i64 k ∧ a = .string ⟨t.toArray⟩ ∧ SplitSt w wr H l m k P t) (fun _ v _ => m - (intOf v).toNat)
  case atStart => exact ⟨0, [], l, rfl, by rw [HL.out.2.2.2.2.2], ⟨Nat.zero_le _, rfl, rfl, Nat.le_refl _, by have := HB.out.1; rw [HL.out.2.1] at this; exact this, HB.out.2.1⟩⟩
  case round =>
    obtain ⟨k, P, t, rfl, rfl, S⟩ := hrel
    have hk0 : (0 : Int) ≤ (k : Int) := by omega
    have hkn : k < n1 := by have := S.km; have := HL.out.2.1; omega
    have hkni : (k : Int) < (n1 : Int) := by omega
    obtain ⟨st, hst⟩ : ∃ x, x = (⟨t.toArray⟩ : ByteArray) := ⟨_, rfl⟩
    obtain ⟨tn, htn⟩ : ∃ x, x = t.length := ⟨_, rfl⟩
    have hstz : st.size = tn := by rw [hst, htn]; simp [ByteArray.size]
    have htni : (tn : Int) ≤ 1048576 := by have := S.tl; have := HL.out.2.2.1; omega
    have hPl : (P.map Heads.strV).length = k := by rw [List.length_map, S.len]
    rw [← hst]
    by_cases hlt : k < m
    · have hbr : decide ((k : Int) < (n1 : Int) - 1) = true := by rw [decide_eq_true_iff]; have := HI.out; omega
      have hkm : (k : Int) < (m : Int) := by omega
      cases hcut : cutL 44 t with
      | none =>
        exfalso
        have h1 := congrArg List.length S.eq
        rw [splitL_none hcut, List.length_append, S.len, HL.out.2.2.2.2.1, HL.out.2.1] at h1
        simp at h1
        omega
      | some p =>
        obtain ⟨a, b⟩ := p
        have hix := idx_t hcut
        have ci := CI.out t
        rw [hix] at ci
        obtain ⟨e1, e2⟩ := ext_two hcut
        have hlen := cutL_len hcut
        obtain ⟨an, han⟩ : ∃ x, x = a.length := ⟨_, rfl⟩
        obtain ⟨sa, hsa⟩ : ∃ x, x = (⟨a.toArray⟩ : ByteArray) := ⟨_, rfl⟩
        obtain ⟨sb, hsb⟩ : ∃ x, x = (⟨b.toArray⟩ : ByteArray) := ⟨_, rfl⟩
        rw [← hst, ← han, ← hsa] at e1
        rw [← hst, ← han, ← hsb, ← htn] at e2
        rw [← hst, ← han] at ci
        have CI2 := Lib.hid ci
        have hneg : decide ((an : Int) < 0) = false := by rw [decide_eq_false_iff_not]; omega
        have hneg' : ¬ (an : Int) < 0 := by omega
        have hat : (an : Int) ≤ (tn : Int) := by omega
        have hat1 : (an : Int) + 1 ≤ (tn : Int) := by omega
        have hnat : ¬ tn < an := by omega
        have hnat1 : ¬ tn < an + 1 := by omega
        have hsp := splitL_some hcut
        have hcellk : wr.cell? ⟨H, k, none⟩ = some (.string ⟨#[]⟩) := by
          rw [S.blk.cell, List.getElem?_append_right (by omega), hPl, Nat.sub_self, List.getElem?_replicate, if_pos (by omega)]
        have hfrz := S.blk.frozen k
        have HS := Lib.hid (And.intro S (And.intro hsp (And.intro hsa (And.intro hsb (And.intro hlt (And.intro hPl (show b.length ≤ l.length by have := S.tl; omega)))))))
        clear S hsp hsa hsb hlt hPl ci hix hlen han htn hst hcut hkn
        go_wp2_with (first
          | (go_at_call 83; go_must (refine (CI2.out _).mono ?_); rintro e w2 ⟨rfl, hw2⟩; rw [hw2]; clear hw2 w2))
        have hset := HS.out.1.blk.set_ k (.string sa)
        have hk9 := set_at (P.map Heads.strV) (m - k) (.string ⟨#[]⟩) (.string sa)
        rw [HS.out.2.2.2.2.2.1] at hk9
        rw [show m + 1 - k = m - k + 1 by have := HS.out.2.2.2.2.1; omega, hk9] at hset
        refine ⟨⟨k + 1, P ++ [a], b, by go_num, by rw [HS.out.2.2.2.1], ⟨by have := HS.out.2.2.2.2.1; omega, by rw [HS.out.1.eq, HS.out.2.1]; simp, by simp [HS.out.1.len], HS.out.2.2.2.2.2.2, ?_, ?_⟩⟩, ?_⟩
        · rw [List.map_append, show m + 1 - (k + 1) = m - k by omega]
          have e9 : [Value.string sa] = List.map Heads.strV [a] := by rw [HS.out.2.2.1]; rfl
          rw [← e9]
          exact hset
        · exact HS.out.1.bel.grown (grownBy_set wr H k _) HS.out.1.bel.size (fun j hj => by injection hj with hj; have := HB.out.2.2; omega)
        · simp [intOf]; have := HS.out.2.2.2.2.1; omega
    · obtain rfl : k = m := by have := S.km; omega
      have hbr : decide ((k : Int) < (n1 : Int) - 1) = false := by rw [decide_eq_false_iff_not]; have := HI.out; omega
      have hkk : (k : Int) + 1 = (n1 : Int) := HI.out.1
      have hcellk : wr.cell? ⟨H, k, none⟩ = some (.string ⟨#[]⟩) := by
        rw [S.blk.cell, List.getElem?_append_right (by omega), hPl, Nat.sub_self, List.getElem?_replicate, if_pos (by omega)]
      have hfrz := S.blk.frozen k
      have hlen := congrArg List.length S.eq
      rw [List.length_append, S.len, HL.out.2.2.2.2.1, HL.out.2.1] at hlen
      have hone := splitL_none (split_one (c := 44) (t := t) (by omega))
      have HS := Lib.hid (And.intro S (And.intro hone (And.intro hst hPl)))
      have w1 := w64b HI.out.1 j0 (by have := HI.out.2; exact Int.le_trans this (by decide))
      have hnn : (n1 : Int) ≤ (n1 : Int) := by omega
      clear S hlen hone hst hPl htn hlt
      go_wp2
      go_ret
      have hset := HS.out.1.blk.set_ k (.string st)
      have hk9 := set_at (P.map Heads.strV) 0 (.string ⟨#[]⟩) (.string st)
      rw [HS.out.2.2.2] at hk9
      rw [show k + 1 - k = 0 + 1 by omega, hk9] at hset
      refine ⟨some ⟨H, 0, none⟩, n1, by trace_state; rfl, ?_, ?_⟩
      · have e9 : [Value.string st] = List.map Heads.strV [t] := by rw [HS.out.2.2.1]; rfl
        rw [e9, ← List.map_append, List.replicate_zero, List.append_nil] at hset
        have e10 : splitL 44 l = P ++ [t] := by rw [HS.out.1.eq, HS.out.2.1]
        rw [e10]
        exact hset.rv
      · exact HS.out.1.bel.grown (grownBy_set wr H k _) HS.out.1.bel.size (fun j hj => by injection hj with hj; have := HB.out.2.2; omega)
set_option maxHeartbeats 1000000 in
theorem split_any (l : List UInt8) (w : World) (hl : l.length ≤ 1048576) :
    Calls Tryd.prog 59 #[.string ⟨l.toArray⟩, .string ⟨#[44]⟩] w fun e w' => ∃ A c, e = .returned (.slice A (splitL 44 l).length c) ∧ RV w' A ((splitL 44 l).map Heads.strV) ∧ Below w.heap.size w w' := by
  have C1 := Lib.hid (gensplit_any l w hl)
  obtain ⟨s, hs⟩ : ∃ s, s = (⟨l.toArray⟩ : ByteArray) := ⟨_, rfl⟩
  rw [← hs] at C1 ⊢
  clear hl hs
  go_enter Tryd.func59, Tryd.ntmps59
  go_wp2_with (first
    | (go_at_call 72; go_must (refine (C1.out).mono ?_); rintro e w2 hp; obtain ⟨A, c, rfl, hr, hb⟩ := hp))
  go_ret
  exact ⟨A, c, rfl, hr, hb⟩
end Go.Proofs.YtojemdggbcklkaaDoor.WireR
namespace Go.Proofs.YtojemdggbcklkaaDoor.WireR
open Go.RowKit Go.Proofs.YtojemdggbcklkaaDoor.Mem Go.Proofs.YtojemdggbcklkaaDoor.Wire Go.Proofs.YtojemdggbcklkaaDoor.Strs Go.Proofs.YtojemdggbcklkaaDoor.Split Go.Proofs.YtojemdggbcklkaaDoor.Heads
set_option linter.unusedVariables false
set_option linter.unusedSimpArgs false
set_option maxRecDepth 4000

def isP (name p : Bytes) : Bool := decide (low (trimL p) = name)
def inV (name v : Bytes) : Bool := (splitL 44 v).any (isP name)
theorem conn_eq (hs : List HD) (name : Bytes) : connS hs name = (vals hs nConn).any (inV name) := rfl
theorem any_step {α : Type} {p : α → Bool} {l : List α} {k : Nat} (h : k < l.length) : (l.take (k + 1)).any p = ((l.take k).any p || p l[k]) := by
  rw [List.take_succ_eq_append_getElem h, List.any_append]; simp
theorem any_yes {α : Type} {p : α → Bool} {l : List α} {k : Nat} (h : k < l.length) (hp : p l[k] = true) : l.any p = true := List.any_eq_true.2 ⟨_, List.getElem_mem h, hp⟩
theorem split_len (c : UInt8) (l : List UInt8) : (splitL c l).length ≤ l.length + 1 := by
  rw [split_count]
  have : l.count c ≤ l.length := List.count_le_length
  omega
theorem split_mem {c : UInt8} : ∀ (n : Nat) {l p : List UInt8}, l.length ≤ n → p ∈ splitL c l → p.length ≤ l.length
  | n, l, p, hn, h => by
    cases hc : cutL c l with
    | none => rw [splitL_none hc, List.mem_singleton] at h; subst h; exact Nat.le_refl _
    | some q =>
      obtain ⟨a, b⟩ := q
      have hlen := cutL_len hc
      rw [splitL_some hc, List.mem_cons] at h
      rcases h with h | h
      · subst h; omega
      · cases n with
        | zero => omega
        | succ n => have := split_mem n (l := b) (by omega) h; omega
theorem trim_len (l : List UInt8) : (trimL l).length ≤ l.length := by
  unfold trimL
  rw [List.length_reverse]
  refine Nat.le_trans (List.dropWhile_suffix _).length_le ?_
  rw [List.length_reverse]
  exact (List.dropWhile_suffix _).length_le
theorem str_cell {w : World} {A : Option Addr} {V : List Bytes} {k : Nat} (h : RV w A (V.map Heads.strV)) (hk : k < V.length) : ∃ ad, A = some ad ∧ w.cell? (ad.add k) = some (.string ⟨V[k].toArray⟩) := by
  obtain ⟨ad, e, hc⟩ := h k (by rw [List.length_map]; exact hk)
  refine ⟨ad, e, ?_⟩
  rw [hc, List.getElem_map]
  rfl
set_option maxHeartbeats 16000000 in
theorem closes_any (A : Option Addr) (n c : Nat) (hs : List HD) (old : Bool) (w : World) (hA : RV w A (hs.flatMap HD.cells)) (hn : n = hs.length) (hok : ∀ h ∈ hs, HD.ok h) (hl : n ≤ 1048576) :
    Calls Tryd.prog 37 #[.slice A n c, .bool old] w fun e w' => e = .returned (.bool (endS hs old)) ∧ Below w.heap.size w w' := by
  obtain ⟨V, hV⟩ : ∃ V, V = vals hs nConn := ⟨_, rfl⟩
  have n1 := named_any A n c hs nConn w hA hn hok hl (by decide)
  have hVm : ∀ d ∈ V, d.length ≤ 1048576 := fun d hd => vals_mem (by rw [← hV]; exact hd) hok
  have hVn : V.length ≤ n := by rw [hV, hn]; exact vals_len _ _
  rw [← hV] at n1
  obtain ⟨m, hm⟩ : ∃ m, m = V.length := ⟨_, rfl⟩
  rw [← hm] at n1
  have hmi : (m : Int) ≤ 1048576 := by omega
  have HE := Lib.hid (show endS hs old = (V.any (inV nClose) || (old && !V.any (inV nKeep))) by unfold endS; rw [conn_eq, conn_eq, hV])
  have N1 := Lib.hid n1
  have HV := Lib.hid (And.intro hm (And.intro hVm hVn))
  clear n1 hA hn hok hl hVm hVn hV hm
  go_enter Tryd.func37, Tryd.ntmps37
  go_wp2_with (first
    | (go_at_call 54; go_must (refine (N1.out).mono ?_); rintro e w2 hpost; obtain ⟨v2, rfl, ho, hb⟩ := hpost; obtain ⟨A2, c2, rfl, hc2⟩ := own_slice ho; clear hc2))
  have hrv2 := own_rv ho
  have HO := Lib.hid (And.intro hrv2 hb)
  clear ho hb hrv2
  go_loopw [5, 13] (fun a v wr => ∃ (k : Nat) (b : Bool), k ≤ m ∧ v = .int .i64 k ∧ a = .bool b ∧ b = (V.take k).any (inV nKeep) ∧ (V.take k).any (inV nClose) = false ∧ RV wr A2 (V.map Heads.strV) ∧ Below w.heap.size w wr) (fun _ v _ => m - (intOf v).toNat)
  case atStart => exact ⟨0, false, by omega, rfl, rfl, rfl, rfl, HO.out.1, HO.out.2⟩
  case round =>
    obtain ⟨k, b, hk, rfl, rfl, hbk, hcl, hrv, hbel⟩ := hrel
    have hk0 : (0 : Int) ≤ (k : Int) := by omega
    by_cases hlt : k < m
    · have hkm : (k : Int) < (m : Int) := by omega
      have hkV : k < V.length := by have := HV.out.1; omega
      obtain ⟨ad, hA2, hcell⟩ := str_cell hrv hkV
      subst hA2
      obtain ⟨d, hd⟩ : ∃ d, d = V[k] := ⟨_, rfl⟩
      rw [← hd] at hcell
      have hdl := HV.out.2.1 d (by rw [hd]; exact List.getElem_mem _)
      have sp := fun (W : World) => split_any d W hdl
      obtain ⟨S, hS⟩ : ∃ S, S = splitL 44 d := ⟨_, rfl⟩
      obtain ⟨q, hq⟩ : ∃ q, q = S.length := ⟨_, rfl⟩
      have hSm : ∀ p ∈ S, p.length ≤ 1048576 := fun p hp => by
        have := split_mem d.length (Nat.le_refl _) (by rw [← hS]; exact hp)
        omega
      have hql : q ≤ 1048577 := by rw [hq, hS]; have := split_len 44 d; omega
      rw [← hS, ← hq] at sp
      obtain ⟨sd, hsd⟩ : ∃ x, x = (⟨d.toArray⟩ : ByteArray) := ⟨_, rfl⟩
      rw [← hsd] at hcell sp
      have hqi : (q : Int) ≤ 1048577 := by omega
      have SP := Lib.hid sp
      have hs1 := any_step (p := inV nKeep) hkV
      have hs2 := any_step (p := inV nClose) hkV
      rw [← hd] at hs1 hs2
      have HK := Lib.hid (And.intro (And.intro hq hS) (And.intro hSm (And.intro hbk (And.intro hcl (And.intro hrv (And.intro hbel (And.intro hs1 (And.intro hs2 (And.intro hlt (show inV nClose d = true → V.any (inV nClose) = true from fun h => any_yes hkV (by rw [← hd]; exact h)))))))))))
      clear sp hS hq hSm hql hbk hcl hrv hbel hs1 hs2 hlt hkV hd hdl hsd
      go_wp2_with (first
        | (go_at_call 59; go_must (refine (SP.out _).mono ?_); rintro e w3 hpost; obtain ⟨A3, c3, rfl, hr3, hb3⟩ := hpost))
      have H3 := Lib.hid (And.intro hr3 hb3)
      clear hr3 hb3
      go_loopw [5, 20] (fun a v wr2 => ∃ (j : Nat) (b2 : Bool), j ≤ q ∧ v = .int .i64 j ∧ a = .bool b2 ∧ b2 = (b || (S.take j).any (isP nKeep)) ∧ (S.take j).any (isP nClose) = false ∧ Below w3.heap.size w3 wr2) (fun _ v _ => q - (intOf v).toNat)
      case atStart => exact ⟨0, b, by omega, rfl, rfl, by simp, rfl, gr w3⟩
      case round =>
        rename World => wi
        obtain ⟨j, b2, hj, rfl, rfl, hb2, hc2, hb3⟩ := hrel
        have hj0 : (0 : Int) ≤ (j : Int) := by omega
        by_cases hjq : j < q
        · have hjqi : (j : Int) < (q : Int) := by omega
          have hjS : j < S.length := by have := HK.out.1.1; omega
          obtain ⟨ad3, hA3, hcell3⟩ := str_cell (H3.out.1.below hb3) hjS
          subst hA3
          obtain ⟨pp, hpp⟩ : ∃ d, d = S[j] := ⟨_, rfl⟩
          rw [← hpp] at hcell3
          have hpl := HK.out.2.1 pp (by rw [hpp]; exact List.getElem_mem _)
          have tr := fun (W : World) => trim_any pp W (by omega)
          have htl := trim_len pp
          have s1 := fun (W : World) => same_any (trimL pp) nClose W (by omega) (by decide)
          have s2 := fun (W : World) => same_any (trimL pp) nKeep W (by omega) (by decide)
          rw [show low nClose = nClose by decide] at s1
          rw [show low nKeep = nKeep by decide] at s2
          obtain ⟨sp, hsp⟩ : ∃ x, x = (⟨pp.toArray⟩ : ByteArray) := ⟨_, rfl⟩
          obtain ⟨st, hst⟩ : ∃ x, x = (⟨(trimL pp).toArray⟩ : ByteArray) := ⟨_, rfl⟩
          obtain ⟨bc, hbc⟩ : ∃ x, x = decide (low (trimL pp) = nClose) := ⟨_, rfl⟩
          obtain ⟨bk, hbk⟩ : ∃ x, x = decide (low (trimL pp) = nKeep) := ⟨_, rfl⟩
          rw [← hsp] at hcell3
          rw [← hsp, ← hst] at tr
          rw [← hst, ← hbc] at s1
          rw [← hst, ← hbk] at s2
          have TR := Lib.hid tr
          have S1 := Lib.hid s1
          have S2 := Lib.hid s2
          have a1 := any_step (p := isP nClose) hjS
          have a2 := any_step (p := isP nKeep) hjS
          rw [← hpp, hc2, Bool.false_or, show isP nClose pp = bc from hbc.symm] at a1
          rw [← hpp, show isP nKeep pp = bk from hbk.symm] at a2
          have a3 : bc = true → S.any (isP nClose) = true := fun h => any_yes hjS (by rw [← hpp]; exact hbc.symm.trans h)
          have HJ := Lib.hid (And.intro a1 (And.intro a2 (And.intro a3 (And.intro hb2 (And.intro hb3 hjq)))))
          have HT := Lib.hid hb3
          clear tr s1 s2 a1 a2 a3 hb2 hc2 hb3 hjq hjS hpp hpl htl hsp hst hbc hbk
          cases bc
          · cases bk
            · go_wp2_with (first
              | (go_at_call 60; go_must (refine (TR.out _).mono ?_); rintro e wt ⟨rfl, hbt⟩; replace HT := Lib.hid (gt HT.out hbt); clear hbt)
              | (go_at_call 56; (with_reducible show Calls _ _ #[.string st, .string ⟨#[99, 108, 111, 115, 101]⟩] _ _); go_must (refine (S1.out _).mono ?_); rintro e wt ⟨rfl, hbt⟩; replace HT := Lib.hid (gt HT.out hbt); clear hbt)
              | (go_at_call 56; go_must (refine (S2.out _).mono ?_); rintro e wt ⟨rfl, hbt⟩; replace HT := Lib.hid (gt HT.out hbt); clear hbt))
              exact ⟨⟨j + 1, b2, by have := HJ.out.2.2.2.2.2; omega, by go_num, rfl, by rw [HJ.out.2.1, Bool.or_false]; exact HJ.out.2.2.2.1, HJ.out.1, HT.out⟩, by simp [intOf]; have := HJ.out.2.2.2.2.2; omega⟩
            · go_wp2_with (first
              | (go_at_call 60; go_must (refine (TR.out _).mono ?_); rintro e wt ⟨rfl, hbt⟩; replace HT := Lib.hid (gt HT.out hbt); clear hbt)
              | (go_at_call 56; (with_reducible show Calls _ _ #[.string st, .string ⟨#[99, 108, 111, 115, 101]⟩] _ _); go_must (refine (S1.out _).mono ?_); rintro e wt ⟨rfl, hbt⟩; replace HT := Lib.hid (gt HT.out hbt); clear hbt)
              | (go_at_call 56; go_must (refine (S2.out _).mono ?_); rintro e wt ⟨rfl, hbt⟩; replace HT := Lib.hid (gt HT.out hbt); clear hbt))
              exact ⟨⟨j + 1, true, by have := HJ.out.2.2.2.2.2; omega, by go_num, rfl, by rw [HJ.out.2.1, Bool.or_true, Bool.or_true], HJ.out.1, HT.out⟩, by simp [intOf]; have := HJ.out.2.2.2.2.2; omega⟩
          · go_wp2_with (first
              | (go_at_call 60; go_must (refine (TR.out _).mono ?_); rintro e wt ⟨rfl, hbt⟩; replace HT := Lib.hid (gt HT.out hbt); clear hbt)
              | (go_at_call 56; (with_reducible show Calls _ _ #[.string st, .string ⟨#[99, 108, 111, 115, 101]⟩] _ _); go_must (refine (S1.out _).mono ?_); rintro e wt ⟨rfl, hbt⟩; replace HT := Lib.hid (gt HT.out hbt); clear hbt)
              | (go_at_call 56; go_must (refine (S2.out _).mono ?_); rintro e wt ⟨rfl, hbt⟩; replace HT := Lib.hid (gt HT.out hbt); clear hbt))
            go_ret
            exact ⟨by rw [HE.out, HK.out.2.2.2.2.2.2.2.2.2 (by rw [show inV nClose d = S.any (isP nClose) by rw [HK.out.1.2]; rfl]; exact HJ.out.2.2.1 (by simp))]; rfl, gt (gt HK.out.2.2.2.2.2.1 H3.out.2) HT.out⟩
        · obtain rfl : j = q := by omega
          have hSt : S.take j = S := List.take_of_length_le (by have := HK.out.1.1; omega)
          rw [hSt] at hb2 hc2
          have e1 : inV nKeep d = S.any (isP nKeep) := by rw [HK.out.1.2]; rfl
          have e2 : inV nClose d = S.any (isP nClose) := by rw [HK.out.1.2]; rfl
          have HJ := Lib.hid (And.intro (show b2 = (V.take (k + 1)).any (inV nKeep) by rw [HK.out.2.2.2.2.2.2.1, ← HK.out.2.2.1, e1, hb2]) (And.intro (show (V.take (k + 1)).any (inV nClose) = false by rw [HK.out.2.2.2.2.2.2.2.1, HK.out.2.2.2.1, e2, hc2]; rfl) hb3))
          clear hb2 hc2 hSt e1 e2 hjq hb3
          go_wp2
          exact ⟨⟨k + 1, b2, by have := HK.out.2.2.2.2.2.2.2.2.1; omega, by go_num, rfl, HJ.out.1, HJ.out.2.1, (HK.out.2.2.2.2.1.below H3.out.2).below HJ.out.2.2, gt (gt HK.out.2.2.2.2.2.1 H3.out.2) HJ.out.2.2⟩, by simp [intOf]; have := HK.out.2.2.2.2.2.2.2.2.1; omega⟩
    · obtain rfl : k = m := by omega
      have ht : V.take k = V := List.take_of_length_le (by have := HV.out.1; omega)
      rw [ht] at hbk hcl
      have HF := Lib.hid (And.intro hbk (And.intro hcl hbel))
      clear hbk hcl hbel ht hlt hrv
      cases old
      · go_wp2
        go_ret
        exact ⟨by rw [HE.out, HF.out.2.1]; rfl, HF.out.2.2⟩
      · go_wp2
        go_ret
        exact ⟨by rw [HE.out, HF.out.2.1, ← HF.out.1]; rfl, HF.out.2.2⟩
end Go.Proofs.YtojemdggbcklkaaDoor.WireR
