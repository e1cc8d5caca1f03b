/- weirref28.connection: is a piece among the Connection headers? -/
import Derived.Test.YtojemdggbcklkaaDoorWCloses
namespace Go.Proofs.YtojemdggbcklkaaDoor.WireR
open Go.RowKit Go.Proofs.YtojemdggbcklkaaDoor.Mem Go.Proofs.YtojemdggbcklkaaDoor.Wire Go.Proofs.YtojemdggbcklkaaDoor.Strs Go.Proofs.YtojemdggbcklkaaDoor.Split Go.Proofs.YtojemdggbcklkaaDoor.Heads
set_option linter.unusedVariables false
set_option linter.unusedSimpArgs false
set_option maxRecDepth 4000

/-- what is left of a value and its comma -/
def restAny (name r : Bytes) : Bool := if r = [] then false else (splitL 44 r.dropLast).any (isP name)
def Tailed (r : Bytes) : Prop := r = [] ∨ ∃ t, r = t ++ [44]
theorem rest_full (name v : Bytes) : restAny name (v ++ [44]) = inV name v := by
  unfold restAny inV
  rw [if_neg (by simp), List.dropLast_concat]
theorem rest_step {name r : Bytes} (h : Tailed r) (hne : r ≠ []) : ∃ a r', cutL 44 r = some (a, r') ∧ restAny name r = (isP name a || restAny name r') ∧ Tailed r' := by
  rcases h with h | ⟨t, rfl⟩
  · exact absurd h hne
  · cases hc : cutL 44 t with
    | none =>
      refine ⟨t, [], cutL_of (cutL_none hc), ?_, .inl rfl⟩
      unfold restAny
      rw [if_neg hne, if_pos rfl, List.dropLast_concat, splitL_none hc]
      simp
    | some p =>
      obtain ⟨a, b⟩ := p
      obtain ⟨e, hn⟩ := cutL_some hc
      refine ⟨a, b ++ [44], ?_, ?_, .inr ⟨b, rfl⟩⟩
      · rw [e, List.append_assoc, List.cons_append]; exact cutL_of hn
      · unfold restAny
        rw [if_neg hne, if_neg (by simp), List.dropLast_concat, List.dropLast_concat, splitL_some hc]
        simp
set_option maxHeartbeats 16000000 in
theorem connection_any (A : Option Addr) (n c : Nat) (hs : List HD) (name : Bytes) (w : World) (hA : RV w A (hs.flatMap HD.cells)) (hn : n = hs.length) (hok : ∀ h ∈ hs, HD.ok h) (hl : n ≤ 1048576) (hlow : low name = name) (hnl : name.length ≤ 1048576) :
    Calls Tryd.prog 46 #[.slice A n c, .string ⟨name.toArray⟩] w fun e w' => e = .returned (.bool (connS hs name)) ∧ Below w.heap.size w w' := by
  obtain ⟨V, hV⟩ : ∃ V, V = vals hs nConn := ⟨_, rfl⟩
  have n1 := values_any A n c hs nConn w hA hn hok hl (by decide)
  have hVm : ∀ d ∈ V, d.length ≤ 1048576 := fun d hd => vals_mem (by rw [← hV]; exact hd) hok
  have hVn : V.length ≤ n := by rw [hV, hn]; exact vals_len _ _
  rw [← hV] at n1
  obtain ⟨m, hm⟩ : ∃ m, m = V.length := ⟨_, rfl⟩
  rw [← hm] at n1
  have hmi : (m : Int) ≤ 1048576 := by omega
  have HE := Lib.hid (show connS hs name = V.any (inV name) by rw [conn_eq, hV])
  have N1 := Lib.hid n1
  have HV := Lib.hid (And.intro hm (And.intro hVm (And.intro hVn (And.intro hlow hnl))))
  obtain ⟨sn, hsn⟩ : ∃ x, x = (⟨name.toArray⟩ : ByteArray) := ⟨_, rfl⟩
  rw [← hsn]
  have HN := Lib.hid hsn
  clear n1 hA hn hok hl hVm hVn hV hm hsn hlow hnl
  go_enter Tryd.func46, Tryd.ntmps46
  go_wp2_with (first
    | (go_at_call 42; go_must (refine (N1.out).mono ?_); rintro e w2 hpost; obtain ⟨v2, rfl, ho, hb⟩ := hpost; obtain ⟨A2, c2, rfl, hc2⟩ := own_slice ho; clear hc2))
  have hrv2 := own_rv ho
  have HO := Lib.hid (And.intro hrv2 hb)
  clear ho hb hrv2
  go_loopw [6] (fun v wr => ∃ (k : Nat), k ≤ m ∧ v = .int .i64 k ∧ (V.take k).any (inV name) = false ∧ RV wr A2 (V.map Heads.strV) ∧ Below w.heap.size w wr) (fun v _ => m - (intOf v).toNat)
  case atStart => exact ⟨0, by omega, rfl, rfl, HO.out.1, HO.out.2⟩
  case round =>
    obtain ⟨k, hk, rfl, hcl, hrv, hbel⟩ := hrel
    have hk0 : (0 : Int) ≤ (k : Int) := by omega
    by_cases hlt : k < m
    · have hkm : (k : Int) < (m : Int) := by omega
      have hkV : k < V.length := by have := HV.out.1; omega
      obtain ⟨ad, hA2, hcell⟩ := str_cell hrv hkV
      subst hA2
      obtain ⟨d, hd⟩ : ∃ d, d = V[k] := ⟨_, rfl⟩
      rw [← hd] at hcell
      have hdl := HV.out.2.1 d (by rw [hd]; exact List.getElem_mem _)
      have hs2 := any_step (p := inV name) hkV
      rw [← hd] at hs2
      obtain ⟨sd, hsd⟩ : ∃ x, x = (⟨d.toArray⟩ : ByteArray) := ⟨_, rfl⟩
      obtain ⟨sx, hsx⟩ : ∃ x, x = (⟨(d ++ [44]).toArray⟩ : ByteArray) := ⟨_, rfl⟩
      have happ : (sd ++ (⟨#[44]⟩ : ByteArray) : ByteArray) = sx := by rw [hsd, hsx]; apply ByteArray.ext; simp
      have hsds : sd.size = d.length := by rw [hsd]; simp [ByteArray.size]
      have hsdi : sd.size ≤ 1048576 := by omega
      rw [← hsd] at hcell
      have HK := Lib.hid (And.intro hdl (And.intro hcl (And.intro hrv (And.intro hbel (And.intro hs2 (And.intro hlt (And.intro hsx (show inV name d = true → V.any (inV name) = true from fun h => any_yes hkV (by rw [← hd]; exact h)))))))))
      clear hcl hrv hbel hs2 hlt hkV hd hdl hsd hsds hsx
      go_wp2
      go_loopw [7] (fun v wr2 => ∃ (r : Bytes), v = .string ⟨r.toArray⟩ ∧ Tailed r ∧ inV name d = restAny name r ∧ r.length ≤ 1048577 ∧ Below wr.heap.size wr wr2) (fun v _ => strLen v)
      case atStart => exact ⟨d ++ [44], by rw [HK.out.2.2.2.2.2.2.1], .inr ⟨d, rfl⟩, (rest_full name d).symm, by rw [List.length_append]; have := HK.out.1; simp; omega, gr _⟩
      case round =>
        rename World => wi
        obtain ⟨r, rfl, hT, heq, hrl, hb3⟩ := hrel
        obtain ⟨sr, hsr⟩ : ∃ x, x = (⟨r.toArray⟩ : ByteArray) := ⟨_, rfl⟩
        rw [← hsr]
        by_cases hr0 : r = []
        · have k0 : sr.toList.isEmpty = true := by rw [hsr, hr0, ByteArray.toList_eq]; rfl
          have HJ := Lib.hid (And.intro (show (V.take (k + 1)).any (inV name) = false by rw [HK.out.2.2.2.2.1, HK.out.2.1, heq, hr0]; rfl) hb3)
          clear hT heq hrl hb3 hr0 hsr
          go_wp2
          exact ⟨⟨k + 1, by have := HK.out.2.2.2.2.2.1; omega, by go_num, HJ.out.1, HK.out.2.2.1.below HJ.out.2, gt HK.out.2.2.2.1 HJ.out.2⟩, by simp [intOf]; have := HK.out.2.2.2.2.2.1; omega⟩
        · have k0 : sr.toList.isEmpty = false := by rw [hsr, ByteArray.toList_eq]; cases r with | nil => exact absurd rfl hr0 | cons a t => rfl
          obtain ⟨a, r', hcut, hst, hT'⟩ := rest_step (name := name) hT hr0
          have hix := idx_t hcut
          have fi := fun W => find_any r 44 W (by omega)
          obtain ⟨e1, e2⟩ := ext_two hcut
          have hlen := cutL_len hcut
          obtain ⟨an, han⟩ : ∃ x, x = a.length := ⟨_, rfl⟩
          obtain ⟨rn, hrn⟩ : ∃ x, x = r.length := ⟨_, rfl⟩
          have hsz : sr.size = rn := by rw [hsr, hrn]; simp [ByteArray.size]
          have tr := fun (W : World) => rtrim_any a W (by omega)
          have htl := trim_len a
          have s1 := fun (W : World) => rsame_any (trimL a) name W (by omega) (by have := HV.out.2.2.2.2; omega)
          rw [HV.out.2.2.2.1] at s1
          obtain ⟨sa, hsa⟩ : ∃ x, x = (⟨a.toArray⟩ : ByteArray) := ⟨_, rfl⟩
          obtain ⟨sb, hsb⟩ : ∃ x, x = (⟨r'.toArray⟩ : ByteArray) := ⟨_, rfl⟩
          obtain ⟨st, hst'⟩ : ∃ x, x = (⟨(trimL a).toArray⟩ : ByteArray) := ⟨_, rfl⟩
          obtain ⟨bc, hbc⟩ : ∃ x, x = decide (low (trimL a) = name) := ⟨_, rfl⟩
          rw [hix, ← han, ← hsr] at fi
          rw [← hsr, ← han, ← hsa] at e1
          rw [← hsr, ← han, ← hsb, ← hrn] at e2
          rw [← hsa, ← hst'] at tr
          rw [← hst', ← HN.out, ← hbc] at s1
          rw [show isP name a = bc from hbc.symm] at hst
          have FI := Lib.hid fi
          have TR := Lib.hid tr
          have S1 := Lib.hid s1
          have i1 : (an : Int) + 1 ≤ (rn : Int) := by omega
          have i2 : ¬ rn < an + 1 := by omega
          have i3 : ¬ rn < an := by omega
          have i4 : (rn : Int) ≤ 1048577 := by omega
          have HJ := Lib.hid (And.intro (heq.trans hst) (And.intro hT' (And.intro hsb (show r'.length < rn ∧ r'.length ≤ 1048577 by omega))))
          have HT := Lib.hid hb3
          clear fi tr s1 hT heq hrl hb3 hr0 hsr hcut hst hT' hix hlen han hrn htl hsa hsb hst' hbc
          cases bc
          · go_wp2_with (first
              | (go_at_call 62; go_must (refine (FI.out _).mono ?_); rintro e wt ⟨rfl, hwt⟩; rw [← hwt]; clear hwt wt)
              | (go_at_call 67; go_must (refine (TR.out _).mono ?_); rintro e wt ⟨rfl, hwt⟩; rw [← hwt]; clear hwt wt)
              | (go_at_call 43; go_must (refine (S1.out _).mono ?_); rintro e wt ⟨rfl, hbt⟩; replace HT := Lib.hid (gt HT.out hbt); clear hbt))
            exact ⟨⟨r', by rw [HJ.out.2.2.1], HJ.out.2.1, by rw [HJ.out.1]; rfl, HJ.out.2.2.2.2, HT.out⟩, by exact str_less HJ.out.2.2.1 hsz HJ.out.2.2.2.1⟩
          · go_wp2_with (first
              | (go_at_call 62; go_must (refine (FI.out _).mono ?_); rintro e wt ⟨rfl, hwt⟩; rw [← hwt]; clear hwt wt)
              | (go_at_call 67; go_must (refine (TR.out _).mono ?_); rintro e wt ⟨rfl, hwt⟩; rw [← hwt]; clear hwt wt)
              | (go_at_call 43; go_must (refine (S1.out _).mono ?_); rintro e wt ⟨rfl, hbt⟩; replace HT := Lib.hid (gt HT.out hbt); clear hbt))
            go_ret
            exact ⟨by rw [HE.out, HK.out.2.2.2.2.2.2.2 (by rw [HJ.out.1]; rfl)]; rfl, gt HK.out.2.2.2.1 HT.out⟩
    · obtain rfl : k = m := by omega
      have ht : V.take k = V := List.take_of_length_le (by have := HV.out.1; omega)
      rw [ht] at hcl
      have HF := Lib.hid (And.intro hcl hbel)
      clear hcl hbel ht hlt hrv
      go_wp2
      go_ret
      exact ⟨by rw [HE.out, HF.out.1]; rfl, HF.out.2⟩
end Go.Proofs.YtojemdggbcklkaaDoor.WireR
