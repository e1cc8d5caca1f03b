/- cursor.wants, cursor.line: a line of a request. -/
import Derived.Test.YtojemdggbcklkaaDoorLaws
import Derived.Test.YtojemdggbcklkaaDoorProg
import Derived.Test.YtojemdggbcklkaaDoorQuiet
import Derived.Test.YtojemdggbcklkaaDoorByteRow
import Derived.Test.YtojemdggbcklkaaDoorWPure
namespace Go.Proofs.YtojemdggbcklkaaDoor.WireR
open Go.RowKit Go.Proofs.YtojemdggbcklkaaDoor.Mem Go.Proofs.YtojemdggbcklkaaDoor.Wire Go.Proofs.YtojemdggbcklkaaDoor.Strs
set_option linter.unusedVariables false
set_option linter.unusedSimpArgs false
set_option maxRecDepth 4000

/-- what the program answers for the document's number e -/
def errV (more : Bool) (e : Nat) : Nat := if e = 283 ∧ more = true then 284 else e
theorem errV_ne {more : Bool} {e : Nat} (h : e ≠ 283) : errV more e = e := by unfold errV; rw [if_neg (fun x => h x.1)]
/-- a cursor at p of the bytes s -/
structure Cur (w : World) (g : Nat) (R : Option Addr) (c : Nat) (s : List UInt8) (p : Nat) (more : Bool) : Prop where
  blk : Blk w g 76 [.slice R s.length c, .int .i64 (p : Int), .bool more]
  rb : RB w R s
  far : s ≠ [] → ∀ ad, R = some ad → ad.block ≠ g
  le : p ≤ s.length
  len : s.length ≤ 65536
  cap : s.length ≤ c
theorem RB.grown {w w' : World} {R : Option Addr} {s : List UInt8} {g : Nat} (h : RB w R s) (hf : s ≠ [] → ∀ ad, R = some ad → ad.block ≠ g) (hb : w.grownBy w' (some g)) : RB w' R s := fun k hk => by
  obtain ⟨ad, e, hc⟩ := h k hk
  have hne : ad.block ≠ g := hf (by rintro rfl; simp at hk) ad e
  have hlt := block_lt_of_cell hc
  refine ⟨ad, e, ?_⟩
  have hbl := hb.block (ad.add k).block hlt (by rw [block_of_add]; simpa using hne)
  have : w'.cell? (ad.add k) = w.cell? (ad.add k) := by simp [World.cell?, hbl]
  rw [this, hc]
theorem Cur.grow {w w' : World} {g : Nat} {R : Option Addr} {c p : Nat} {s : List UInt8} {more : Bool} (h : Cur w g R c s p more) (hb : Below w.heap.size w w') : Cur w' g R c s p more := ⟨h.blk.grow hb, h.rb.below hb, h.far, h.le, h.len, h.cap⟩
theorem Cur.to {w w' : World} {g : Nat} {R : Option Addr} {c p q : Nat} {s : List UInt8} {more : Bool} (h : Cur w g R c s p more) (hb : w.grownBy w' (some g)) (hB : Blk w' g 76 [.slice R s.length c, .int .i64 (q : Int), .bool more]) (hq : q ≤ s.length) : Cur w' g R c s q more := ⟨hB, RB.grown h.rb h.far hb, h.far, hq, h.len, h.cap⟩

theorem lineS_hit {s : List UInt8} {p i : Nat} (hp : p ≤ i) (hi : i < s.length) (h10 : s[i] = 10) (hno : (10 : UInt8) ∉ (s.drop p).take (i - p)) (bad : Nat) :
    lineS bad (s.drop p) = if h : p < i then (if s[i - 1] = 13 then .ok ((s.drop p).take (i - 1 - p)) (s.drop (i + 1)) else .err bad) else .err bad := by
  have e : s.drop p = (s.drop p).take (i - p) ++ 10 :: s.drop (i + 1) := by
    have h1 : s.drop p = (s.drop p).take (i - p) ++ (s.drop p).drop (i - p) := (List.take_append_drop _ _).symm
    have h2 : (s.drop p).drop (i - p) = 10 :: s.drop (i + 1) := by
      rw [List.drop_drop, show p + (i - p) = i by omega, List.drop_eq_getElem_cons hi, h10]
    rw [h2] at h1
    exact h1
  have hcut : cutL 10 (s.drop p) = some ((s.drop p).take (i - p), s.drop (i + 1)) := by
    conv => lhs; rw [e]
    exact cutL_of hno
  unfold lineS
  rw [hcut]
  by_cases hlt : p < i
  · rw [dif_pos hlt]
    have hg : ((s.drop p).take (i - p)).getLast? = some s[i - 1] := by
      rw [List.getLast?_eq_getElem?, List.length_take, List.length_drop, show min (i - p) (s.length - p) - 1 = i - 1 - p by omega, List.getElem?_take_of_lt (by omega), List.getElem?_drop, show p + (i - 1 - p) = i - 1 by omega, List.getElem?_eq_getElem (by omega)]
    unfold inner
    simp only
    rw [hg]
    by_cases h13 : s[i - 1] = 13
    · rw [if_pos (by rw [h13]), if_pos h13]
      simp only
      congr 1
      rw [List.dropLast_eq_take, List.length_take, List.length_drop, List.take_take]
      congr 1
      omega
    · rw [if_neg (by simpa using h13), if_neg h13]
  · rw [dif_neg hlt]
    have : i - p = 0 := by omega
    rw [this]
    rfl
theorem lineS_end {s : List UInt8} {p : Nat} (hno : (10 : UInt8) ∉ s.drop p) (bad : Nat) : lineS bad (s.drop p) = .err 283 := by
  unfold lineS
  rw [cutL_not hno]
theorem no_step {s : List UInt8} {p i : Nat} (hp : p ≤ i) (hi : i < s.length) (h10 : s[i] ≠ 10) (hno : (10 : UInt8) ∉ (s.drop p).take (i - p)) : (10 : UInt8) ∉ (s.drop p).take (i + 1 - p) := by
  have e : (s.drop p).take (i + 1 - p) = (s.drop p).take (i - p) ++ [s[i]] := by
    rw [show i + 1 - p = i - p + 1 by omega, List.take_succ_eq_append_getElem (by rw [List.length_drop]; omega)]
    congr 2
    rw [List.getElem_drop]
    congr 1
    omega
  rw [e]
  simp only [List.mem_append, List.mem_singleton, not_or]
  exact ⟨hno, fun h => h10 h.symm⟩
/-- what cursor.line leaves -/
def LinePost (w : World) (g : Nat) (R : Option Addr) (c : Nat) (s : List UInt8) (more : Bool) (p : Nat) (r : Res Bytes) (e : Ending) (w' : World) : Prop :=
  w.grownBy w' (some g) ∧ match r with
  | .ok x b => e = .returned (.tuple #[.string ⟨x.toArray⟩, .int .i64 0]) ∧ Cur w' g R c s (s.length - b.length) more
  | .err er => e = .returned (.tuple #[.string ⟨#[]⟩, .int .i64 (errV more er : Nat)]) ∧ Cur w' g R c s p more

theorem cut_mid {ρ : Operand → Value} {w : World} {o : Oper} {x y z : Operand} {A : Option Addr} {n c l m : Nat} (ho : o.op = .slice 22 x (some y) (some z) none) (hx : ρ x = .slice A n c) (hy : ρ y = .int .i64 (l : Int)) (hz : ρ z = .int .i64 (m : Int)) (hl : l ≤ m) (hm : m ≤ c) :
    (execOp ρ o).run Tryd.prog w = .ok (.value (.slice (if c = l then A else A.map (·.add l)) (m - l) (c - l))) w := by
  have h := run_slice_lh (P := Tryd.prog) (w := w) 22 A n c (by rfl) .i64 .i64 (l : Int) (m : Int) (by omega) (by omega) (by omega)
  have hs : (sizeOf (Tryd.prog.elem 22)).run Tryd.prog w = .ok 1 w := by rfl
  rw [hs] at h
  have e : sliced A (l : Int).toNat (m : Int).toNat c 1 = .slice (if c = l then A else A.map (·.add l)) (m - l) (c - l) := by
    unfold sliced
    simp
  simp only [Result.andThen, e] at h
  simp [execOp, ho, hx, hy, hz, run_sliceAt_slice, h, Result.andThen, (show Tryd.prog.underlying 22 = some (.slice (Tryd.prog.elem 22)) from rfl)]
theorem rb_mid {w : World} {A : Option Addr} {s : List UInt8} {c l m : Nat} (h : RB w A s) (hl : l ≤ m) (hm : m ≤ s.length) (hc : s.length ≤ c) : RB w (if c = l then A else A.map (·.add l)) ((s.drop l).take (m - l)) := fun k hk => by
  rw [List.length_take, List.length_drop] at hk
  obtain ⟨ad, rfl, hcell⟩ := h (l + k) (by omega)
  refine ⟨ad.add l, ?_, ?_⟩
  · rw [if_neg (by omega)]; rfl
  · rw [add_of_add, List.getElem_take, List.getElem_drop]; exact hcell
theorem grown_of {w w' : World} {row : Option Nat} (h : Below w.heap.size w w') : w.grownBy w' row := ⟨h.os, h.tape, h.output, h.size, fun k hk _ => h.block k hk⟩

theorem grownBy_set (w : World) (g i : Nat) (v : Value) : w.grownBy (w.setCell ⟨g, i, none⟩ v) (some g) := ⟨rfl, rfl, rfl, by simp, fun k hk hne => Below.heap_setCell w _ v k (fun e => hne (by rw [e]))⟩

/-! ### The walks -/
set_option maxHeartbeats 1000000 in
theorem wants_any {w : World} {g : Nat} {R : Option Addr} {c p : Nat} {s : List UInt8} {more : Bool} (h : Cur w g R c s p more) :
    Calls Tryd.prog 58 #[.pointer (some ⟨g, 0, none⟩)] w fun e w' => e = .returned (.int .i64 (errV more 283 : Nat)) ∧ w = w' := by
  have hc2 := h.blk.cell 2
  simp only [List.getElem?_cons_succ, List.getElem?_cons_zero] at hc2
  clear h
  cases more
  · go_enter Tryd.func58, Tryd.ntmps58
    go_wp2
    go_ret
    exact ⟨rfl, rfl⟩
  · go_enter Tryd.func58, Tryd.ntmps58
    go_wp2
    go_ret
    exact ⟨rfl, rfl⟩

set_option maxHeartbeats 4000000 in
theorem line_any {w : World} {g : Nat} {R : Option Addr} {c p : Nat} {s : List UInt8} {more : Bool} (h : Cur w g R c s p more) (bad : Nat) (hbad : bad ≠ 283) :
    Calls Tryd.prog 47 #[.pointer (some ⟨g, 0, none⟩), .int .i64 (bad : Int)] w (LinePost w g R c s more p (lineS bad (s.drop p))) := by
  obtain ⟨n, hn⟩ : ∃ n, n = s.length := ⟨_, rfl⟩
  have hc0 := h.blk.cell 0
  have hc1 := h.blk.cell 1
  simp only [List.getElem?_cons_succ, List.getElem?_cons_zero] at hc0 hc1
  have hpn : p ≤ n := hn ▸ h.le
  have hni : (n : Int) ≤ 65536 := by have := h.len; omega
  rw [← hn] at hc0
  have HH := Lib.hid (And.intro h hn)
  have HB := Lib.hid hbad
  clear h hn hbad
  go_enter Tryd.func47, Tryd.ntmps47
  go_wp2
  go_loopw [6] (fun v wr => ∃ i : Nat, p ≤ i ∧ i ≤ n ∧ v = .int .i64 i ∧ (10 : UInt8) ∉ (s.drop p).take (i - p) ∧ wr = w) (fun v _ => n - (intOf v).toNat)
  case atStart => exact ⟨p, Nat.le_refl _, hpn, rfl, by simp, rfl⟩
  case round =>
    obtain ⟨i, hpi, hin, rfl, hno, rfl⟩ := hrel
    by_cases hlt : i < n
    · have hks : i < s.length := by have := HH.out.2; omega
      obtain ⟨x, hx⟩ : ∃ x, x = s[i] := ⟨_, rfl⟩
      obtain ⟨ad, hR, hcell⟩ := HH.out.1.rb i hks
      subst hR
      rw [← hx] at hcell
      unfold bv at hcell
      obtain ⟨xn, hxn⟩ : ∃ xn, xn = x.toNat := ⟨_, rfl⟩
      rw [← hxn] at hcell
      have hii : (i : Int) < (n : Int) := by omega
      have hi0 : (0 : Int) ≤ (i : Int) := by omega
      by_cases h10 : xn = 10
      · have h10' : s[i] = 10 := by rw [← hx]; exact UInt8.toNat_inj.1 (by rw [← hxn, h10]; rfl)
        have HT := Lib.hid (lineS_hit hpi hks h10' hno bad)
        have h10i : (xn : Int) = 10 := by omega
        clear hx hxn h10' hno
        by_cases hip : i = p
        · have hipi : ((i : Int) == (p : Int)) = true := by simp; omega
          have hW := Lib.hid (HH.out.1)
          have e : lineS bad (s.drop p) = .err bad := by rw [HT.out, dif_neg (by omega)]
          clear h10 hip
          go_wp2
          go_ret2
          unfold LinePost
          rw [e]
          exact ⟨World.grownBy.refl _ _, by rw [errV_ne HB.out]; rfl, HH.out.1⟩
        · have hpl : p < i := by omega
          have hks' : i - 1 < s.length := by omega
          obtain ⟨y, hy⟩ : ∃ y, y = s[i - 1] := ⟨_, rfl⟩
          obtain ⟨ad', hR', hcell'⟩ := HH.out.1.rb (i - 1) hks'
          injection hR' with hR'
          subst hR'
          rw [← hy] at hcell'
          unfold bv at hcell'
          obtain ⟨yn, hyn⟩ : ∃ yn, yn = y.toNat := ⟨_, rfl⟩
          rw [← hyn] at hcell'
          obtain ⟨j, hj⟩ : ∃ j, j = i - 1 := ⟨_, rfl⟩
          rw [← hj] at hcell'
          have hji : (i : Int) - 1 = (j : Int) := by omega
          have hjw : wrap64 ((i : Int) - 1) = (j : Int) := by rw [hji]; unfold wrap64; omega
          have hjn : (j : Int) < (n : Int) := by omega
          have hj0 : (0 : Int) ≤ (j : Int) := by omega
          have hipi : ((i : Int) == (p : Int)) = false := by simp; omega
          by_cases h13 : yn = 13
          · have h13i : (yn : Int) = 13 := by omega
            have e : lineS bad (s.drop p) = .ok ((s.drop p).take (j - p)) (s.drop (i + 1)) := by
              rw [HT.out, dif_pos hpl, if_pos, hj]
              rw [← hy]; exact UInt8.toNat_inj.1 (by rw [← hyn, h13]; rfl)
            have hpj : p ≤ j := by omega
            have hjs : j ≤ s.length := by omega
            have hjr : IntKind.i64.wrap (j : Int) = (j : Int) := by simp [IntKind.wrap, IntKind.bits, IntKind.signed]; omega
            have hnc : n ≤ c := by have := HH.out.1.cap; have := HH.out.2; omega
            have HE := Lib.hid (And.intro e (And.intro hpj hjs))
            obtain ⟨str, hstr⟩ : ∃ str, str = (s.drop p).take (j - p) := ⟨_, rfl⟩
            have hsl : str.length = j - p := by rw [hstr, List.length_take, List.length_drop]; omega
            clear HT h10 hip hy hyn hj h13 e hks' hks hlt hpl
            go_upto_region 7 with fail
            try simp only [Act.put, List.setIfInBounds_toArray, List.set_cons_succ, List.set_cons_zero]
            refine wp_region_qb (by kernel_rfl) (by kernel_rfl) ?_
            go_big_quiet_step (fail)
            refine wq_val (o := ⟨some 48, _, _, _, _, _⟩) (v := .pointer (some ⟨g, 0, none⟩)) rfl (fun w' hC => by go_simp) ?_
            simp only [Act.put, List.setIfInBounds_toArray, List.set_cons_succ, List.set_cons_zero]
            refine wq_val (o := ⟨some 49, _, _, _, _, _⟩) (v := .pointer (some ⟨g, 0, none⟩)) rfl (fun w' hC => by go_simp) ?_
            simp only [Act.put, List.setIfInBounds_toArray, List.set_cons_succ, List.set_cons_zero]
            refine wq_val (o := ⟨some 50, _, _, _, _, _⟩) (v := .slice (some ad) n c) rfl (fun w' hC => by have := cell_grow hc0 hC; go_simp) ?_
            simp only [Act.put, List.setIfInBounds_toArray, List.set_cons_succ, List.set_cons_zero]
            go_big_quiet_step (fail)
            refine wq_val (o := ⟨some 52, _, _, _, _, _⟩) (v := .pointer (some ⟨g, 0, none⟩)) rfl (fun w' hC => by go_simp) ?_
            simp only [Act.put, List.setIfInBounds_toArray, List.set_cons_succ, List.set_cons_zero]
            refine wq_val (o := ⟨some 53, _, _, _, _, _⟩) (v := .pointer (some ⟨g, 1, none⟩)) rfl (fun w' hC => by go_simp) ?_
            simp only [Act.put, List.setIfInBounds_toArray, List.set_cons_succ, List.set_cons_zero]
            refine wq_val (o := ⟨some 54, _, _, _, _, _⟩) (v := .int .i64 (p : Int)) rfl (fun w' hC => by have := cell_grow hc1 hC; go_simp) ?_
            simp only [Act.put, List.setIfInBounds_toArray, List.set_cons_succ, List.set_cons_zero]
            go_big_quiet_step (fail)
            refine wq_val (o := ⟨some 56, _, _, _, _, _⟩) (v := .int .i64 (j : Int)) rfl (fun w' hC => by go_simp) ?_
            simp only [Act.put, List.setIfInBounds_toArray, List.set_cons_succ, List.set_cons_zero]
            refine wq_val (o := ⟨some 57, _, _, _, _, _⟩) rfl (fun w' hC => cut_mid (l := p) (m := j) rfl rfl rfl rfl HE.out.2.1 (by omega)) ?_
            simp only [Act.put, List.setIfInBounds_toArray, List.set_cons_succ, List.set_cons_zero]
            refine wq_val (o := ⟨some 58, _, _, _, _, _⟩) (v := .string ⟨str.toArray⟩) rfl (fun w' hC => by
              have k := conv_rb (P := Tryd.prog) (src := 22) (dst := 9) Tryd.underlying22 Tryd.underlying5 Tryd.underlying9 (rb_mid (HH.out.1.rb.below hC) HE.out.2.1 HE.out.2.2 HH.out.1.cap) (c - p)
              rw [← hstr, hsl] at k
              simp only [Option.map_some] at k
              simp [execOp, Act.eval, k, Result.andThen]) ?_
            simp only [Act.put, List.setIfInBounds_toArray, List.set_cons_succ, List.set_cons_zero]
            go_big_quiet_step (fail)
            refine wpQuiet_nil ?_
            intro w5 h5
            have hB5 := HH.out.1.blk.grow h5
            have hc0' := cell_grow hc0 h5
            have hc1' := cell_grow hc1 h5
            have hfr := hB5.frozen 1
            have HF := Lib.hid (And.intro h5 (And.intro hB5 hstr))
            clear hc0 hc1 hcell hcell' h5 hB5 hstr hsl
            go_wp2
            go_ret2
            have hg2 : wr.grownBy (w5.setCell ⟨g, 1, none⟩ (.int .i64 ((i : Int) + 1))) (some g) := (grown_of HF.out.1).trans (grownBy_set w5 g 1 _)
            unfold LinePost
            rw [HE.out.1]
            refine ⟨hg2, by rw [← HF.out.2.2]; rfl, ?_⟩
            have hq : s.length - (s.drop (i + 1)).length = i + 1 := by rw [List.length_drop]; have := HH.out.2; omega
            rw [hq]
            exact HH.out.1.to hg2 (HF.out.2.1.set_ 1 _) (by have := HH.out.2; omega)
          · have h13i : ((yn : Int) == 13) = false := by simp; omega
            have e : lineS bad (s.drop p) = .err bad := by
              rw [HT.out, dif_pos hpl, if_neg]
              rw [← hy]; rintro rfl; exact h13 (by rw [hyn]; rfl)
            clear h10 hip hy hyn hj h13
            go_wp2
            go_ret2
            unfold LinePost
            rw [e]
            exact ⟨World.grownBy.refl _ _, by rw [errV_ne HB.out]; rfl, HH.out.1⟩
      · have h10i : ¬ (xn : Int) = 10 := by omega
        have hne : s[i] ≠ 10 := by rw [← hx]; rintro rfl; exact h10 (by rw [hxn]; rfl)
        have HN := Lib.hid (no_step hpi hks hne hno)
        clear hx hxn h10 hno hne
        go_wp2
        exact ⟨⟨i + 1, by omega, by omega, by go_num, HN.out, trivial⟩, by simp [intOf]; omega⟩
    · obtain rfl : i = n := by omega
      have hnil : (10 : UInt8) ∉ s.drop p := by rw [List.take_of_length_le (by rw [List.length_drop]; have := HH.out.2; omega)] at hno; exact hno
      have HL := Lib.hid (lineS_end hnil bad)
      have HW := Lib.hid (wants_any HH.out.1)
      clear hno hnil hlt
      go_wp2_with (first
        | (go_at_call 58; go_must (refine (HW.out).mono ?_); rintro e w' ⟨rfl, rfl⟩))
      go_ret2
      unfold LinePost
      rw [HL.out]
      exact ⟨World.grownBy.refl _ _, rfl, HH.out.1⟩
end Go.Proofs.YtojemdggbcklkaaDoor.WireR
