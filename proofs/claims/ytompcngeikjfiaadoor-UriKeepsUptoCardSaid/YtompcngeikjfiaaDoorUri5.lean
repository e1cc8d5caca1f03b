/- uri: Encode: the program's and the reference's. -/
import Derived.Test.YtompcngeikjfiaaDoorUri4
import Derived.Lib.AppendStr
namespace Go.Proofs.YtompcngeikjfiaaDoor.Uri
open Go.RowKit Go.Proofs.YtompcngeikjfiaaDoor.Mem Go.Proofs.YtompcngeikjfiaaDoor.Seal
set_option linter.unusedVariables false

def pair (p : PD) : List UInt8 := (esc p.1 ++ [61]) ++ esc p.2
def formF : Bool → List PD → List UInt8
  | _, [] => []
  | f, p :: r => (if f = true then [] else [38]) ++ pair p ++ formF false r
def form (ps : List PD) : List UInt8 := formF true ps
theorem formF_snoc : ∀ (l : List PD) (f : Bool) (p : PD), formF f (l ++ [p]) = formF f l ++ ((if l = [] ∧ f = true then [] else [38]) ++ pair p)
  | [], f, p => by cases f <;> simp [formF]
  | q :: r, f, p => by
    rw [List.cons_append, formF, formF, formF_snoc r false p]
    simp
theorem form_take {ps : List PD} {k : Nat} (h : k < ps.length) : form (ps.take (k + 1)) = form (ps.take k) ++ ((if 0 < k then [38] else []) ++ pair ps[k]) := by
  unfold form
  rw [take_succ_ h, formF_snoc]
  congr 2
  by_cases hk : 0 < k
  · rw [if_pos hk, if_neg]
    intro hh
    have := congrArg List.length hh.1
    rw [List.length_take, List.length_nil] at this
    omega
  · obtain rfl : k = 0 := by omega
    simp
theorem pair_len {p : PD} (h : PD.ok p) : (pair p).length ≤ 6291457 := by
  have h1 := esc_len p.1
  have h2 := esc_len p.2
  have h3 := h.1
  have h4 := h.2
  unfold pair
  rw [List.length_append, List.length_append]
  simp only [List.length_cons, List.length_nil]
  omega
theorem form_len {ps : List PD} (hok : ∀ p ∈ ps, PD.ok p) : ∀ k, k ≤ ps.length → (form (ps.take k)).length ≤ k * 6291458
  | 0, _ => by simp [form, formF]
  | k + 1, h => by
    rw [form_take (show k < ps.length by omega), List.length_append, List.length_append]
    have h1 := form_len hok k (by omega)
    have h2 := pair_len (hok (ps[k]'(by omega)) (List.getElem_mem _))
    have h3 : (if 0 < k then [38] else [] : List UInt8).length ≤ 1 := by split <;> simp
    omega
theorem wpList_pushS {w0 w : World} {ops : Array Oper} {rest : List Oper} {o : Oper} {a : Act} {Q : Exit → Act → World → Prop} (hgd : o.guard = none)
    (s x : Operand) (ho : o.op = .call { callee := .builtin .append, args := #[s, x], argTypes := #[53, 9] })
    {v : Value} {n : Nat} {l : List UInt8} (hlow : Below w0.heap.size w0 w) (hown : w.ownsRow w0.heap.size 5 1 v n (l.map bv)) (hs : a.eval s = v)
    (m : List UInt8) (hx : a.eval x = .string ⟨m.toArray⟩) (hn : n + m.length ≤ 140737488355328)
    (h : ∀ v' w', w'.ownsRow w0.heap.size 5 1 v' (n + m.length) ((l ++ m).map bv) → Below w0.heap.size w0 w' → wpList Tryd.prog ops Q rest (a.put o.dst v') w') : wpList Tryd.prog ops Q (o :: rest) a w := by
  obtain ⟨i0, hi, hz0, hz1, hz2⟩ := info_parts infoB
  have hsz : (⟨m.toArray⟩ : ByteArray).size = m.length := by simp [ByteArray.size]
  refine Lib.wpList_append_own_string _ hgd s x 53 9 ho w0.heap.size 5 i0 Tryd.underlying53 Tryd.underlying9 hi hz0 hz1 hz2 v n (l.map bv) hs hown ⟨m.toArray⟩ hx (by rw [hsz]; unfold maxLen; omega) (by rw [hsz]; omega) hlow.size ?_
  intro v' w' h2 h3 _
  rw [hsz, strCells_eq, ← List.map_append] at h2
  exact h v' w' h2 (below_own hlow hown h3 hlow.size)

set_option maxRecDepth 4000 in
set_option maxHeartbeats 3200000 in
theorem rencode_any (A : Option Addr) (n c : Nat) (ps : List PD) (w : World) (hA : RV w A (ps.flatMap PD.cells)) (hn : n = ps.length) (hl : n ≤ 1048576) (hok : ∀ p ∈ ps, PD.ok p) :
    Calls Tryd.prog 20 #[.slice A n c] w fun e w' => e = .returned (.string ⟨(form ps).toArray⟩) ∧ Below w.heap.size w w' := by
  have HA := Lib.hid (And.intro hA (And.intro hn hok))
  have hni : (n : Int) ≤ 1048576 := by omega
  clear hA hn hok
  go_enter Tryd.func20, Tryd.ntmps20
  go_wp2_with fail
  go_loopw [3, 4] (fun v3 v wr => ∃ k : Nat, k ≤ n ∧ v = .int .i64 k ∧ wr.ownsRow w.heap.size 5 1 v3 (form (ps.take k)).length ((form (ps.take k)).map bv) ∧ Below w.heap.size w wr) (fun _ v _ => n - (intOf v).toNat)
  case atStart => exact ⟨0, by omega, rfl, World.ownsRow_nil w _ _ _, gr w⟩
  case round =>
    obtain ⟨k, hk, rfl, hown, hb⟩ := hrel
    obtain ⟨A5, n5, c5, rfl, hn5⟩ := own_form hown
    by_cases hlt : k < n
    · have hkr : k < ps.length := by have := HA.out.2.1; omega
      have hpc := fun W (hW : Below w.heap.size w W) => pd_cells (HA.out.1.below hW) hkr
      have hft := form_take hkr
      have hfl := form_len HA.out.2.2 k (by omega)
      have hpo := HA.out.2.2 ps[k] (List.getElem_mem _)
      have hpl := pair_len hpo
      obtain ⟨hd, hhd⟩ : ∃ x, x = ps[k] := ⟨_, rfl⟩
      rw [← hhd] at hpc hft hpo hpl
      obtain ⟨ad, hA', hq1, hq2⟩ := hpc wr hb
      clear hq1 hq2
      subst hA'
      replace hpc := fun W hW => (fun (h : ∃ ad', some ad = some ad' ∧ _ ∧ _) => (by obtain ⟨ad', e, h1, h2⟩ := h; injection e with e; subst e; exact ⟨h1, h2⟩ : W.cell? (ad.add (k * 2)) = some (.string ⟨hd.1.toArray⟩) ∧ W.cell? ⟨(ad.add (k * 2)).block, (ad.add (k * 2)).off + 1, none⟩ = some (.string ⟨hd.2.toArray⟩))) (hpc W hW)
      have hki : (k : Int) < (n : Int) := by omega
      have hk0 : (0 : Int) ≤ (k : Int) := by omega
      obtain ⟨p1, p2⟩ := hd
      simp only at hpc
      have h1l := esc_len p1
      have h2l := esc_len p2
      have hp1 : p1.length ≤ 1048576 := hpo.1
      have hp2 : p2.length ≤ 1048576 := hpo.2
      have cE1 := Lib.hid (fun W => rescape_any p1 W (by omega))
      have cE2 := Lib.hid (fun W => rescape_any p2 W (by omega))
      obtain ⟨s1, hs1⟩ : ∃ x, x = (⟨p1.toArray⟩ : ByteArray) := ⟨_, rfl⟩
      obtain ⟨s2, hs2⟩ : ∃ x, x = (⟨p2.toArray⟩ : ByteArray) := ⟨_, rfl⟩
      rw [← hs1] at cE1
      rw [← hs2] at cE2
      simp only [← hs1, ← hs2] at hpc
      have HC := Lib.hid hpc
      obtain ⟨e1, he1⟩ : ∃ x, x = esc p1 := ⟨_, rfl⟩
      obtain ⟨e2, he2⟩ : ∃ x, x = esc p2 := ⟨_, rfl⟩
      rw [← he1] at cE1 h1l
      rw [← he2] at cE2 h2l
      have hpr : pair (p1, p2) = (e1 ++ [61]) ++ e2 := by unfold pair; rw [he1, he2]
      rw [hpr] at hft
      obtain ⟨fk, hfk⟩ : ∃ x, x = form (ps.take k) := ⟨_, rfl⟩
      rw [← hfk] at hft hfl hown
      have hflN : fk.length ≤ 6597069766656 := by
        have : k * 6291458 ≤ 1048576 * 6291458 := Nat.mul_le_mul_right _ (by omega)
        omega
      have he1N : e1.length ≤ 3145728 := by omega
      have he2N : e2.length ≤ 3145728 := by omega
      have HV := Lib.hid (And.intro hft (And.intro hown hb))
      clear hpc hft hown hb hlt hkr hhd hpo hpl hs1 hs2 he1 he2 hpr hfk hfl h1l h2l hp1 hp2 hn5
      by_cases hk1 : 0 < k
      · have hk1i : 0 < (k : Int) := by omega
        have hft := HV.out.1
        rw [if_pos hk1] at hft
        have HF := Lib.hid hft
        clear hft hk1
        go_upto_region 7 with (first
          | ((with_reducible show wpList _ _ _ (⟨some 14, _, _, _, _, _⟩ :: _) _ _); go_must (refine wpList_one E8 rfl _ rfl (by decide) [bv 38] rfl rfl wr.heap.size rfl ?_); intro w4 hB4 hb4)
          | ((with_reducible show wpList _ _ _ (⟨some 15, _, _, _, _, _⟩ :: _) _ _); go_must (refine wpList_pushB E8 rfl _ _ rfl (gt HV.out.2.2 hb4) (own_belowB HV.out.2.1 hb4) rfl wr.heap.size rfl 38 hB4 (by omega) ?_); intro v5 w5 hown5 hb5))
        obtain ⟨A7, n7, c7, rfl, hn7⟩ := own_form hown5
        clear hn7 hb4 hB4
        have hc7 := HC.out w5 hb5
        have a0 := hc7.1
        clear hc7
        have H7 := Lib.hid (And.intro hown5 hb5)
        clear hown5 hb5
        go_upto_region 8 with (first
          | (go_at_call 14; go_must (refine (cE1.out _).mono ?_); rintro e w6 ⟨rfl, hb6⟩)
          | ((with_reducible show wpList _ _ _ (⟨some 23, _, _, _, _, _⟩ :: _) _ _); go_must (refine wpList_pushS rfl _ _ rfl (gt H7.out.2 hb6) (own_belowB H7.out.1 hb6) rfl e1 rfl (by first | omega | (simp; omega)) ?_); intro v7 w7 hown7 hb7))
        have H8 := Lib.hid (And.intro hown7 hb7)
        obtain ⟨A8, n8, c8, rfl, hn8⟩ := own_form hown7
        clear hown7 hb7 hb6 a0 hn8
        go_upto_region 9 with (first
          | ((with_reducible show wpList _ _ _ (⟨some 25, _, _, _, _, _⟩ :: _) _ _); go_must (refine wpList_one E8 rfl _ rfl (by decide) [bv 61] rfl rfl w7.heap.size rfl ?_); intro w14 hB14 hb14)
          | ((with_reducible show wpList _ _ _ (⟨some 26, _, _, _, _, _⟩ :: _) _ _); go_must (refine wpList_pushB E8 rfl _ _ rfl (gt H8.out.2 hb14) (own_belowB H8.out.1 hb14) rfl w7.heap.size rfl 61 hB14 (by first | omega | (simp; omega)) ?_); intro v8 w8 hown8 hb8))
        have hc9 := HC.out w8 hb8
        have a1 := hc9.2
        have H9 := Lib.hid (And.intro hown8 hb8)
        obtain ⟨A9, n9, c9, rfl, hn9⟩ := own_form hown8
        clear hown8 hb8 hb14 hB14 hc9 hn9
        go_wp2_with (first
          | (go_at_call 14; go_must (refine (cE2.out _).mono ?_); rintro e w9 ⟨rfl, hb9⟩)
          | ((with_reducible show wpList _ _ _ (⟨some 34, _, _, _, _, _⟩ :: _) _ _); go_must (refine wpList_pushS rfl _ _ rfl (gt H9.out.2 hb9) (own_belowB H9.out.1 hb9) rfl e2 rfl (by first | omega | (simp; omega)) ?_); intro v10 w10 hown9 hb10))
        refine ⟨⟨k + 1, by omega, by go_num, ?_, hb10⟩, by simp [intOf]; omega⟩
        have hL : form (ps.take (k + 1)) = (((fk ++ [38]) ++ e1) ++ [61]) ++ e2 := by rw [HF.out]; simp
        have hE : ((((fk ++ [38]) ++ e1) ++ [61]) ++ e2).length = fk.length + 1 + e1.length + 1 + e2.length := by rw [List.length_append, List.length_append, List.length_append, List.length_append]; rfl
        rw [hL, hE]
        exact hown9
      · have hk1i : ¬ 0 < (k : Int) := by omega
        have hft := HV.out.1
        rw [if_neg hk1, List.nil_append] at hft
        have HF := Lib.hid hft
        clear hft hk1
        go_upto_region 7 with fail
        have hown5 := HV.out.2.1
        have hb5 := HV.out.2.2
        have hc7 := HC.out wr hb5
        have a0 := hc7.1
        clear hc7
        have H7 := Lib.hid (And.intro hown5 hb5)
        clear hown5 hb5
        go_upto_region 8 with (first
          | (go_at_call 14; go_must (refine (cE1.out _).mono ?_); rintro e w6 ⟨rfl, hb6⟩)
          | ((with_reducible show wpList _ _ _ (⟨some 23, _, _, _, _, _⟩ :: _) _ _); go_must (refine wpList_pushS rfl _ _ rfl (gt H7.out.2 hb6) (own_belowB H7.out.1 hb6) rfl e1 rfl (by first | omega | (simp; omega)) ?_); intro v7 w7 hown7 hb7))
        have H8 := Lib.hid (And.intro hown7 hb7)
        obtain ⟨A8, n8, c8, rfl, hn8⟩ := own_form hown7
        clear hown7 hb7 hb6 a0 hn8
        go_upto_region 9 with (first
          | ((with_reducible show wpList _ _ _ (⟨some 25, _, _, _, _, _⟩ :: _) _ _); go_must (refine wpList_one E8 rfl _ rfl (by decide) [bv 61] rfl rfl w7.heap.size rfl ?_); intro w14 hB14 hb14)
          | ((with_reducible show wpList _ _ _ (⟨some 26, _, _, _, _, _⟩ :: _) _ _); go_must (refine wpList_pushB E8 rfl _ _ rfl (gt H8.out.2 hb14) (own_belowB H8.out.1 hb14) rfl w7.heap.size rfl 61 hB14 (by first | omega | (simp; omega)) ?_); intro v8 w8 hown8 hb8))
        have hc9 := HC.out w8 hb8
        have a1 := hc9.2
        have H9 := Lib.hid (And.intro hown8 hb8)
        obtain ⟨A9, n9, c9, rfl, hn9⟩ := own_form hown8
        clear hown8 hb8 hb14 hB14 hc9 hn9
        go_wp2_with (first
          | (go_at_call 14; go_must (refine (cE2.out _).mono ?_); rintro e w9 ⟨rfl, hb9⟩)
          | ((with_reducible show wpList _ _ _ (⟨some 34, _, _, _, _, _⟩ :: _) _ _); go_must (refine wpList_pushS rfl _ _ rfl (gt H9.out.2 hb9) (own_belowB H9.out.1 hb9) rfl e2 rfl (by first | omega | (simp; omega)) ?_); intro v10 w10 hown9 hb10))
        refine ⟨⟨k + 1, by omega, by go_num, ?_, hb10⟩, by simp [intOf]; omega⟩
        have hL : form (ps.take (k + 1)) = ((fk ++ e1) ++ [61]) ++ e2 := by rw [HF.out]; simp
        have hE : (((fk ++ e1) ++ [61]) ++ e2).length = fk.length + e1.length + 1 + e2.length := by rw [List.length_append, List.length_append, List.length_append]; rfl
        rw [hL, hE]
        exact hown9
    · obtain rfl : k = n := by omega
      rw [List.take_of_length_le (by have := HA.out.2.1; omega)] at hown hn5
      have hcv := own_str hown hn5 (r := form ps) rfl
      have HF := Lib.hid hb
      have hkk : ¬ (k : Int) < (k : Int) := by omega
      clear hown hb hlt hn5
      go_wp2_with fail
      go_ret
      exact ⟨rfl, HF.out⟩
end Go.Proofs.YtompcngeikjfiaaDoor.Uri
