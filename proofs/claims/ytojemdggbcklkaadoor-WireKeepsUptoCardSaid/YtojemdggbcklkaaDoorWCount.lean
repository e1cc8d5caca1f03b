/- cursor.counted: a body of a told length. -/
import Derived.Test.YtojemdggbcklkaaDoorWLen
import Derived.Test.YtojemdggbcklkaaDoorWDec
import Derived.Test.YtojemdggbcklkaaDoorWRFirst
namespace Go.Proofs.YtojemdggbcklkaaDoor.WireR
open Go.RowKit Go.Proofs.YtojemdggbcklkaaDoor.Mem Go.Proofs.YtojemdggbcklkaaDoor.Wire Go.Proofs.YtojemdggbcklkaaDoor.Strs Go.Proofs.YtojemdggbcklkaaDoor.Heads
set_option linter.unusedVariables false
set_option linter.unusedSimpArgs false
set_option maxRecDepth 4000

theorem EB : Elt Tryd.prog 22 5 [.int .u8 0] 1 := Elt.mk1 Tryd.underlying22 (by kernel_rfl) rfl
/-- what the body's readers leave -/
def BodyPost (w : World) (g : Nat) (R : Option Addr) (c : Nat) (s : List UInt8) (more : Bool) (r : Res Bytes) (e : Ending) (w' : World) : Prop :=
  w.grownBy w' (some g) ∧ match r with
  | .ok x b => ∃ A k, e = .returned (.tuple #[.slice A x.length k, .int .i64 0]) ∧ w'.ownsRow w.heap.size 5 1 (.slice A x.length k) x.length (x.map bv) ∧ Cur w' g R c s (s.length - b.length) more
  | .err er => e = .returned (.tuple #[.slice none 0 0, .int .i64 (errV more er : Nat)])
theorem bp_err {w w' : World} {g : Nat} {R : Option Addr} {c : Nat} {s : List UInt8} {more : Bool} {r : Res Bytes} {er : Nat} {e : Ending} (h : r = .err er) (hg : w.grownBy w' (some g)) (he : e = .returned (.tuple #[.slice none 0 0, .int .i64 (errV more er : Nat)])) : BodyPost w g R c s more r e w' := by
  rw [h]; exact ⟨hg, he⟩
theorem bp_ok {w w' : World} {g : Nat} {R : Option Addr} {c : Nat} {s : List UInt8} {more : Bool} {r : Res Bytes} {x b : Bytes} {e : Ending} {A : Option Addr} {k : Nat} (h : r = .ok x b) (hg : w.grownBy w' (some g)) (he : e = .returned (.tuple #[.slice A x.length k, .int .i64 0])) (ho : w'.ownsRow w.heap.size 5 1 (.slice A x.length k) x.length (x.map bv)) (hc : Cur w' g R c s (s.length - b.length) more) : BodyPost w g R c s more r e w' := by
  rw [h]; exact ⟨hg, A, k, he, ho, hc⟩
set_option maxHeartbeats 8000000 in
theorem counted_any {w : World} {g : Nat} {R : Option Addr} {c p : Nat} {s : List UInt8} {more : Bool} (h : Cur w g R c s p more) (l : Bytes) (hd : l.all digB = true) (hl : l.length ≤ 1048576) :
    Calls Tryd.prog 36 #[.pointer (some ⟨g, 0, none⟩), .string ⟨l.toArray⟩] w (BodyPost w g R c s more (bodyS (.long (numS l)) p (s.drop p))) := by
  obtain ⟨n, hn⟩ : ∃ n, n = l.length := ⟨_, rfl⟩
  obtain ⟨S, hs⟩ : ∃ s, s = (⟨l.toArray⟩ : ByteArray) := ⟨_, rfl⟩
  have hsz : S.size = n := by rw [hs, hn]; simp [ByteArray.size]
  have hni : (n : Int) ≤ 1048576 := by omega
  obtain ⟨sn, hsn⟩ : ∃ sn, sn = s.length := ⟨_, rfl⟩
  have hc0 := h.blk.cell 0
  have hc1 := h.blk.cell 1
  simp only [List.getElem?_cons_succ, List.getElem?_cons_zero] at hc0 hc1
  rw [← hsn] at hc0
  have hp16 : (p : Int) ≤ 65536 := by have := h.le; have := h.len; omega
  have hp0 : (0 : Int) ≤ (p : Int) := by omega
  have HC := Lib.hid (And.intro h hsn)
  have HD := Lib.hid (And.intro hn (And.intro hs (And.intro hd hl)))
  rw [← hs]
  clear hn hs hl hd h hsn
  go_enter Tryd.func36, Tryd.ntmps36
  go_wp2
  go_loopw [6, 7] (fun a v wr => ∃ k M : Nat, k ≤ n ∧ v = .int .i64 k ∧ a = .int .i64 M ∧ M = numS (l.take k) ∧ p + M ≤ 65536 ∧ wr = w) (fun _ v _ => n - (intOf v).toNat)
  case atStart => exact ⟨0, 0, by omega, rfl, rfl, by simp [numS], by omega, rfl⟩
  case round =>
    obtain ⟨k, M, hk, rfl, rfl, hM, hpM, rfl⟩ := hrel
    have hk0 : (0 : Int) ≤ (k : Int) := by omega
    by_cases hlt : k < n
    · have hkl : k < l.length := by have := HD.out.1; omega
      obtain ⟨x, hx⟩ : ∃ x, x = l[k] := ⟨_, rfl⟩
      have hks : k < S.size := by omega
      have hsx : S[k] = x := by
        have : ∀ s' : ByteArray, s' = (⟨l.toArray⟩ : ByteArray) → ∀ h, s'[k]'h = l[k] := fun s' e h => by subst e; rfl
        rw [hx]; exact this S HD.out.2.1 hks
      have hki : (k : Int) < (n : Int) := by omega
      have hsum := numS_step hkl
      have hdx : digB x = true := by rw [hx]; exact List.all_eq_true.1 HD.out.2.2.1 _ (List.getElem_mem hkl)
      rw [← hx] at hsum
      have hx48 : 48 ≤ x.toNat ∧ x.toNat ≤ 57 := by
        unfold digB digN at hdx
        simpa using hdx
      have hx256 : x.toNat < 256 := x.toNat_lt
      obtain ⟨z, hz⟩ : ∃ z, z = x.toNat - 48 := ⟨_, rfl⟩
      have hzy : x.toNat = z + 48 := by omega
      rw [← hz] at hsum
      have hz9 : z ≤ 9 := by omega
      obtain ⟨M10, hM10⟩ : ∃ M10, M10 = M * 10 := ⟨_, rfl⟩
      obtain ⟨M2, hM2⟩ : ∃ M2, M2 = M10 + z := ⟨_, rfl⟩
      have e10 : (M : Int) * 10 = (M10 : Int) := by omega
      have b10 : (0 : Int) ≤ (M10 : Int) := by omega
      have b11 : (M10 : Int) ≤ 1152921504606846976 := by omega
      have e2 : (M10 : Int) + (z : Int) = (M2 : Int) := by omega
      have b20 : (0 : Int) ≤ (M2 : Int) := by omega
      have b21 : (M2 : Int) ≤ 1152921504606846976 := by omega
      obtain ⟨P2, hP2⟩ : ∃ P2, P2 = p + M2 := ⟨_, rfl⟩
      have e5 : (p : Int) + (M2 : Int) = (P2 : Int) := by omega
      have b50 : (0 : Int) ≤ (P2 : Int) := by omega
      have b51 : (P2 : Int) ≤ 1152921504606846976 := by omega
      have hM2k : M2 = numS (l.take (k + 1)) := by rw [hsum, hM2, hM10, hM]
      by_cases hov : 65536 < P2
      · have b6 : decide ((65536 : Int) < (P2 : Int)) = true := by rw [decide_eq_true_iff]; omega
        have HE := Lib.hid (show bodyS (.long (numS l)) p (s.drop p) = .err 284 by
          have h1 := numS_whole (l := l) (k := k + 1) (by omega)
          unfold bodyS
          simp only
          rw [if_pos (by omega)])
        have q1 := w64b e10 b10 b11
        have q2 := w64b e2 b20 b21
        have q5 := w64b e5 b50 b51
        have q3 : IntKind.u8.wrap ((x.toNat : Int) - 48) = (z : Int) := u8sub (m := 48) hzy hx256
        have q4 : ((x.toNat : Int) - 48) % 256 = (z : Int) := size_mod (m := 48) hzy hx256
        clear hz hzy hz9 hM10 hM2 e10 b10 b11 e2 b20 b21 hsum hx256 hM hlt hkl hx hP2 e5 b50 b51 hM2k hov hpM hx48 hdx
        go_wp2
        go_ret2
        exact bp_err HE.out (World.grownBy.refl _ _) (by rw [errV_ne (by decide)]; rfl)
      · have b6 : decide ((65536 : Int) < (P2 : Int)) = false := by rw [decide_eq_false_iff_not]; omega
        have HM := Lib.hid (And.intro hM2k (And.intro hlt (show p + M2 ≤ 65536 by omega)))
        have q1 := w64b e10 b10 b11
        have q2 := w64b e2 b20 b21
        have q5 := w64b e5 b50 b51
        have q3 : IntKind.u8.wrap ((x.toNat : Int) - 48) = (z : Int) := u8sub (m := 48) hzy hx256
        have q4 : ((x.toNat : Int) - 48) % 256 = (z : Int) := size_mod (m := 48) hzy hx256
        clear hz hzy hz9 hM10 hM2 e10 b10 b11 e2 b20 b21 hsum hx256 hM hlt hkl hx hP2 e5 b50 b51 hM2k hov hpM hx48 hdx
        go_wp2
        exact ⟨⟨k + 1, M2, by have := HM.out.2.1; omega, by go_num, by rw [q2], HM.out.1, HM.out.2.2, trivial⟩, by simp [intOf]; try omega⟩
    · obtain rfl : k = n := by omega
      have ht : l.take k = l := List.take_of_length_le (by have := HD.out.1; omega)
      rw [ht] at hM
      obtain ⟨q, hq⟩ : ∃ q, q = p + M := ⟨_, rfl⟩
      have e5 : (p : Int) + (M : Int) = (q : Int) := by omega
      have b50 : (0 : Int) ≤ (q : Int) := by omega
      have b51 : (q : Int) ≤ 1152921504606846976 := by omega
      have HQ := Lib.hid (And.intro hq (And.intro hM hpM))
      have hqw := w64b e5 b50 b51
      have hqi := w64j e5 b50 (by omega)
      have HQW := Lib.hid (And.intro hqw hqi)
      clear hlt ht hM hq e5 b50 b51 hpM hqw hqi
      obtain ⟨bt, hbt⟩ : ∃ b, b = decide (sn < q) := ⟨_, rfl⟩
      have HBT := Lib.hid (And.intro (show decide ((sn : Int) < (q : Int)) = bt by rw [hbt]; congr 1; exact propext (by omega)) hbt.symm)
      clear hbt
      go_upto_region 8 with fail
      try simp only [Act.put, List.setIfInBounds_toArray, List.set_cons_succ, List.set_cons_zero]
      refine wp_region_qb (by kernel_rfl) (by kernel_rfl) ?_
      refine wq_val (o := ⟨some 30, _, _, _, _, _⟩) (v := .pointer (some ⟨g, 0, none⟩)) rfl (fun w' hC => by go_simp) ?_
      simp only [Act.put, List.setIfInBounds_toArray, List.set_cons_succ, List.set_cons_zero]
      refine wq_val (o := ⟨some 31, _, _, _, _, _⟩) (v := .pointer (some ⟨g, 0, none⟩)) rfl (fun w' hC => by go_simp) ?_
      simp only [Act.put, List.setIfInBounds_toArray, List.set_cons_succ, List.set_cons_zero]
      refine wq_val (o := ⟨some 32, _, _, _, _, _⟩) (v := .pointer (some ⟨g, 1, none⟩)) rfl (fun w' hC => by go_simp) ?_
      simp only [Act.put, List.setIfInBounds_toArray, List.set_cons_succ, List.set_cons_zero]
      refine wq_val (o := ⟨some 33, _, _, _, _, _⟩) (v := .int .i64 (p : Int)) rfl (fun w' hC => by have := cell_grow hc1 hC; go_simp) ?_
      simp only [Act.put, List.setIfInBounds_toArray, List.set_cons_succ, List.set_cons_zero]
      refine wq_val (o := ⟨some 34, _, _, _, _, _⟩) (v := .int .i64 (M : Int)) rfl (fun w' hC => by go_simp) ?_
      simp only [Act.put, List.setIfInBounds_toArray, List.set_cons_succ, List.set_cons_zero]
      refine wq_val (o := ⟨some 35, _, _, _, _, _⟩) (v := .int .i64 (q : Int)) rfl (fun w' hC => by go_simp; exact HQW.out.2) ?_
      simp only [Act.put, List.setIfInBounds_toArray, List.set_cons_succ, List.set_cons_zero]
      refine wq_val (o := ⟨some 36, _, _, _, _, _⟩) (v := .pointer (some ⟨g, 0, none⟩)) rfl (fun w' hC => by go_simp) ?_
      simp only [Act.put, List.setIfInBounds_toArray, List.set_cons_succ, List.set_cons_zero]
      refine wq_val (o := ⟨some 37, _, _, _, _, _⟩) (v := .pointer (some ⟨g, 0, none⟩)) rfl (fun w' hC => by go_simp) ?_
      simp only [Act.put, List.setIfInBounds_toArray, List.set_cons_succ, List.set_cons_zero]
      refine wq_val (o := ⟨some 38, _, _, _, _, _⟩) (v := .pointer (some ⟨g, 0, none⟩)) rfl (fun w' hC => by go_simp) ?_
      simp only [Act.put, List.setIfInBounds_toArray, List.set_cons_succ, List.set_cons_zero]
      refine wq_val (o := ⟨some 39, _, _, _, _, _⟩) (v := .slice R sn c) rfl (fun w' hC => by have := cell_grow hc0 hC; go_simp) ?_
      simp only [Act.put, List.setIfInBounds_toArray, List.set_cons_succ, List.set_cons_zero]
      refine wq_val (o := ⟨some 40, _, _, _, _, _⟩) (v := .int .i64 (sn : Int)) rfl (fun w' hC => by go_simp) ?_
      simp only [Act.put, List.setIfInBounds_toArray, List.set_cons_succ, List.set_cons_zero]
      refine wq_val (o := ⟨some 41, _, _, _, _, _⟩) (v := .bool bt) rfl (fun w' hC => by go_simp; first | exact HBT.out.1 | exact HBT.out.2 | (rw [← HBT.out.2]; rfl)) ?_
      simp only [Act.put, List.setIfInBounds_toArray, List.set_cons_succ, List.set_cons_zero]
      refine wpQuiet_nil ?_
      intro w5 h5
      have HC5 := HC.out.1.grow h5
      have H5 := Lib.hid (And.intro h5 HC5)
      have hc0' := cell_grow hc0 h5
      have hc1' := cell_grow hc1 h5
      clear hc0 hc1 h5 HC5
      cases bt
      · have hshort := of_decide_eq_false HBT.out.2
        have hqs : q ≤ s.length := by have := HC.out.2; omega
        have hpq : p ≤ q := by have := HQ.out.1; omega
        have hqc : q ≤ c := by have := HC.out.1.cap; omega
        have hml : ((s.drop p).take (q - p)).length = q - p := by rw [List.length_take, List.length_drop]; omega
        have HE := Lib.hid (show bodyS (.long (numS l)) p (s.drop p) = .ok ((s.drop p).take (q - p)) (s.drop q) by
          have h1 := HC.out.2
          have h2 := HQ.out
          unfold bodyS
          simp only
          rw [show q - p = M by omega, if_neg (by omega), if_neg (by rw [List.length_drop]; omega), ← h2.2.1, List.drop_drop, ← h2.1])
        have HX := Lib.hid (And.intro hqs (And.intro hpq (And.intro hqc hml)))
        obtain ⟨AA, hAA⟩ : ∃ A, A = (if c = p then R else R.map (·.add p)) := ⟨_, rfl⟩
        have HA := Lib.hid hAA
        clear hshort hqs hpq hqc hml hAA
        go_upto_region 10 with fail
        try simp only [Act.put, List.setIfInBounds_toArray, List.set_cons_succ, List.set_cons_zero]
        refine wp_region_qbT 15 (by kernel_rfl) (by kernel_rfl) ?_
        simp only [List.take_succ_cons, List.take_zero, List.drop_succ_cons, List.drop_zero]
        refine wq_val (o := ⟨some 44, _, _, _, _, _⟩) (v := .pointer (some ⟨g, 0, none⟩)) rfl (fun w' hC => by go_simp) ?_
        simp only [Act.put, List.setIfInBounds_toArray, List.set_cons_succ, List.set_cons_zero]
        refine wq_val (o := ⟨some 45, _, _, _, _, _⟩) (v := .pointer (some ⟨g, 0, none⟩)) rfl (fun w' hC => by go_simp) ?_
        simp only [Act.put, List.setIfInBounds_toArray, List.set_cons_succ, List.set_cons_zero]
        refine wq_val (o := ⟨some 46, _, _, _, _, _⟩) (v := .pointer (some ⟨g, 0, none⟩)) rfl (fun w' hC => by go_simp) ?_
        simp only [Act.put, List.setIfInBounds_toArray, List.set_cons_succ, List.set_cons_zero]
        refine wq_val (o := ⟨some 47, _, _, _, _, _⟩) (v := .slice R sn c) rfl (fun w' hC => by have := cell_grow hc0' hC; go_simp) ?_
        simp only [Act.put, List.setIfInBounds_toArray, List.set_cons_succ, List.set_cons_zero]
        refine wq_val (o := ⟨some 48, _, _, _, _, _⟩) (v := .pointer (some ⟨g, 0, none⟩)) rfl (fun w' hC => by go_simp) ?_
        simp only [Act.put, List.setIfInBounds_toArray, List.set_cons_succ, List.set_cons_zero]
        refine wq_val (o := ⟨some 49, _, _, _, _, _⟩) (v := .pointer (some ⟨g, 0, none⟩)) rfl (fun w' hC => by go_simp) ?_
        simp only [Act.put, List.setIfInBounds_toArray, List.set_cons_succ, List.set_cons_zero]
        refine wq_val (o := ⟨some 50, _, _, _, _, _⟩) (v := .pointer (some ⟨g, 1, none⟩)) rfl (fun w' hC => by go_simp) ?_
        simp only [Act.put, List.setIfInBounds_toArray, List.set_cons_succ, List.set_cons_zero]
        refine wq_val (o := ⟨some 51, _, _, _, _, _⟩) (v := .int .i64 (p : Int)) rfl (fun w' hC => by have := cell_grow hc1' hC; go_simp) ?_
        simp only [Act.put, List.setIfInBounds_toArray, List.set_cons_succ, List.set_cons_zero]
        refine wq_val (o := ⟨some 52, _, _, _, _, _⟩) (v := .pointer (some ⟨g, 0, none⟩)) rfl (fun w' hC => by go_simp) ?_
        simp only [Act.put, List.setIfInBounds_toArray, List.set_cons_succ, List.set_cons_zero]
        refine wq_val (o := ⟨some 53, _, _, _, _, _⟩) (v := .pointer (some ⟨g, 0, none⟩)) rfl (fun w' hC => by go_simp) ?_
        simp only [Act.put, List.setIfInBounds_toArray, List.set_cons_succ, List.set_cons_zero]
        refine wq_val (o := ⟨some 54, _, _, _, _, _⟩) (v := .pointer (some ⟨g, 1, none⟩)) rfl (fun w' hC => by go_simp) ?_
        simp only [Act.put, List.setIfInBounds_toArray, List.set_cons_succ, List.set_cons_zero]
        refine wq_val (o := ⟨some 55, _, _, _, _, _⟩) (v := .int .i64 (p : Int)) rfl (fun w' hC => by have := cell_grow hc1' hC; go_simp) ?_
        simp only [Act.put, List.setIfInBounds_toArray, List.set_cons_succ, List.set_cons_zero]
        refine wq_val (o := ⟨some 56, _, _, _, _, _⟩) (v := .int .i64 (M : Int)) rfl (fun w' hC => by go_simp) ?_
        simp only [Act.put, List.setIfInBounds_toArray, List.set_cons_succ, List.set_cons_zero]
        refine wq_val (o := ⟨some 57, _, _, _, _, _⟩) (v := .int .i64 (q : Int)) rfl (fun w' hC => by go_simp; exact HQW.out.2) ?_
        simp only [Act.put, List.setIfInBounds_toArray, List.set_cons_succ, List.set_cons_zero]
        refine wq_val (o := ⟨some 58, _, _, _, _, _⟩) (v := .slice AA (q - p) (c - p)) rfl (fun w' hC => by rw [HA.out]; exact cut_mid (l := p) (m := q) rfl rfl rfl rfl HX.out.2.1 HX.out.2.2.1) ?_
        simp only [Act.put, List.setIfInBounds_toArray, List.set_cons_succ, List.set_cons_zero]
        refine wpQuiet_nil ?_
        intro w6 h6
        have HC6 := H5.out.2.grow h6
        have H6 := Lib.hid (And.intro (gt H5.out.1 h6) HC6)
        clear h6 HC6 hc0' hc1'
        refine wpList_app EB rfl (.const (.slice none 0 0)) (.tmp 58) rfl wr.heap.size (.slice none 0 0) 0 [] rfl ⟨rfl, .inl ⟨rfl, rfl⟩⟩ _ _ _ (((s.drop p).take (q - p)).map bv) rfl (by rw [HA.out]; exact (rb_mid H6.out.2.rb HX.out.2.1 HX.out.1 H6.out.2.cap).rv) (by rw [List.length_map, HX.out.2.2.2]; simp) (by intro u hu; rw [List.mem_map] at hu; obtain ⟨_, _, rfl⟩ := hu; rfl) (by unfold maxLen; have := HQ.out; omega) (by have := HQ.out; omega) H6.out.1.size ?_
        intro v' w7 hown hg7 hb
        have hb7 : Below w6.heap.size w6 w7 := (Below.refl _ _).grown hg7 (Nat.le_refl _) (fun k hk => by cases hk)
        obtain ⟨x, hx⟩ : ∃ x, x = (s.drop p).take (q - p) := ⟨_, rfl⟩
        have hxl : x.length = q - p := by rw [hx]; exact HX.out.2.2.2
        rw [← hx, List.nil_append, Nat.zero_add, ← hxl] at hown
        have hE := HE.out
        rw [← hx] at hE
        have HE2 := Lib.hid (And.intro hE hxl)
        obtain ⟨A2, k2, hv2, _⟩ := own_slice hown
        subst hv2
        clear hx hE hxl
        have hc7 := H6.out.2.grow hb7
        have d1 := hc7.blk.cell 1
        have f1 := hc7.blk.frozen 1
        simp only [List.getElem?_cons_succ, List.getElem?_cons_zero] at d1
        have H7 := Lib.hid (And.intro hown (And.intro (gt H6.out.1 hb7) hc7))
        have hqw := HQW.out.1
        clear hown hg7 hb7 hc7 hb
        try simp only [Act.put, List.setIfInBounds_toArray, List.set_cons_succ, List.set_cons_zero]
        go_wp2
        go_ret2
        have hg2 : wr.grownBy (w7.setCell ⟨g, 1, none⟩ (.int .i64 (q : Int))) (some g) := (grown_of H7.out.2.1).trans (grownBy_set w7 g 1 _)
        have hown9 := own_line H7.out.1 (grownBy_set w7 g 1 (.int .i64 (q : Int))) (by exact HC.out.1.blk.lt)
        have hq9 : s.length - (s.drop q).length = q := by rw [List.length_drop]; have := HX.out.1; omega
        exact bp_ok HE2.out.1 hg2 rfl hown9 (by rw [hq9]; exact H7.out.2.2.to (grownBy_set w7 g 1 _) (H7.out.2.2.blk.set_ 1 _) HX.out.1)
      · have hshort := of_decide_eq_true HBT.out.2
        have HE := Lib.hid (show bodyS (.long (numS l)) p (s.drop p) = .err 283 by
          have h1 := HC.out.2
          have h2 := HQ.out
          have h3 := HC.out.1.le
          unfold bodyS
          simp only
          rw [if_neg (by omega), if_pos (by rw [List.length_drop]; omega)])
        have HW := Lib.hid (wants_any H5.out.2)
        clear hshort
        go_wp2_with (first
          | (go_at_call 58; go_must (refine (HW.out).mono ?_); rintro e w' ⟨rfl, hw'⟩; rw [← hw']; clear hw' w'))
        go_ret2
        exact bp_err HE.out (grown_of H5.out.1) rfl
end Go.Proofs.YtojemdggbcklkaaDoor.WireR
