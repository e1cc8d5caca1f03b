/- A claim's token: the program's Mint, the reference's Tag and Mint. -/
import Derived.Test.YtoemceehmiaigaaDoorPackU
import Derived.Test.YtoemceehmiaigaaDoorStrs
import Derived.Test.YtoemceehmiaigaaDoorQuiet
import Derived.Test.YtoemceehmiaigaaDoorRowsAid
import Derived.Test.YtoemceehmiaigaaDoorShaMac5
namespace Go.Proofs.YtoemceehmiaigaaDoor.Seal
open Go.RowKit Go.Proofs.YtoemceehmiaigaaDoor.Mem Go.Proofs.YtoemceehmiaigaaDoor.Loan Go.Proofs.YtoemceehmiaigaaDoor.Sha
set_option linter.unusedVariables false

def mintB (k : List UInt8) (z : Int) (p : List UInt8) : List UInt8 := enc (pack z p) ++ 46 :: enc (hmacf k (pack z p))
def mintR (k : List UInt8) (z : Int) (p : List UInt8) : List UInt8 := if 1024 < p.length then [] else mintB k z p
theorem hmacf_length (k m : List UInt8) : (hmacf k m).length = 32 := by rw [hmac_eq, sumf_length]

set_option maxRecDepth 40000 in
set_option maxHeartbeats 1600000 in
theorem mint_any (k : List UInt8) (z : Int) (p : List UInt8) (A : Option Addr) (n c : Nat) (w : World) (hn : n = k.length) (ha : RB w A k) (hc : n ≤ c) (hl : n ≤ 17592186044416)
    (hz : -9223372036854775808 ≤ z ∧ z ≤ 9223372036854775807) (hp : p.length ≤ 1048576) (hG : GB w) :
    Calls Tryd.prog 35 #[.slice A n c, .agg #[.int .i64 z, .string ⟨p.toArray⟩]] w fun e w' => e = .returned (.tuple #[.string ⟨(mintR k z p).toArray⟩, .int .i64 (packE p)]) ∧ Below w.heap.size w w' := by
  have HA := Lib.hid (And.intro hn (And.intro ha (And.intro hc (And.intro hl (And.intro hz (And.intro hp hG))))))
  obtain ⟨W1, hW1⟩ : ∃ x, x = w.alloc (.cells #[.int .i64 z, .string ⟨p.toArray⟩] 72) := ⟨_, rfl⟩
  have hw1 : Below w.heap.size w W1 := hW1 ▸ ga (gr w) _
  have HW1 := Lib.hid hw1
  by_cases hlong : 1024 < p.length
  · have hr : mintR k z p = [] ∧ packE p = 1 := by unfold mintR packE; rw [if_pos hlong, if_pos hlong]; exact ⟨rfl, rfl⟩
    have cP := Lib.hid (show ∀ W, Calls Tryd.prog 45 #[.agg #[.int .i64 z, .string ⟨p.toArray⟩]] W (fun e w' => e = .returned (.tuple #[.slice none 0 0, .int .i64 1]) ∧ Below W.heap.size W w') from fun W => by
      have := pack_any z p W hz (by omega)
      unfold PackPost at this
      simp only [if_pos hlong] at this
      exact this)
    rw [hr.1, hr.2]
    clear hn ha hc hl hz hp hG hlong hr hw1
    go_enter Tryd.func35, Tryd.ntmps35
    go_wp2_with (first
      | (go_at_call 45; go_must (rw [← hW1]; refine (cP.out _).mono ?_); rintro e w2 ⟨rfl, hb2⟩))
    go_ret2
    exact ⟨rfl, gt HW1.out hb2⟩
  · obtain ⟨pb, hpb⟩ : ∃ x, x = pack z p := ⟨_, rfl⟩
    obtain ⟨np, hnp⟩ : ∃ x, x = pb.length := ⟨_, rfl⟩
    have hpl : np ≤ 1032 := by rw [hnp, hpb, pack_length]; omega
    obtain ⟨d, hd⟩ : ∃ x, x = hmacf k pb := ⟨_, rfl⟩
    have hdl : d.length = 32 := by rw [hd]; exact hmacf_length _ _
    obtain ⟨s1, hs1⟩ : ∃ x, x = enc pb := ⟨_, rfl⟩
    obtain ⟨s2, hs2⟩ : ∃ x, x = enc d := ⟨_, rfl⟩
    have hr : mintR k z p = (s1 ++ [46]) ++ s2 ∧ packE p = 0 := by
      unfold mintR packE mintB
      rw [if_neg hlong, if_neg hlong, hs1, hs2, hd, hpb]
      simp
    have hs1l : s1.length ≤ 2000 := by rw [hs1, enc_length, ← hnp]; omega
    have hs2l : s2.length ≤ 2000 := by rw [hs2, enc_length, hdl]; omega
    have cP := Lib.hid (show ∀ W, Calls Tryd.prog 45 #[.agg #[.int .i64 z, .string ⟨p.toArray⟩]] W (fun e w' => (∃ A c, e = .returned (.tuple #[.slice A np c, .int .i64 0]) ∧ RB w' A pb ∧ np ≤ c ∧ c ≤ maxLen) ∧ Below W.heap.size W w') from fun W => by
      have := (pack_any z p W hz (by omega)).mono fun _ _ h => packU_of h
      unfold PackU packB packE at this
      simp only [if_neg hlong] at this
      rw [hnp, hpb]; exact this)
    have cH := Lib.hid (show ∀ W A2 c2, Below w.heap.size w W → RB W A2 pb → np ≤ c2 → Calls Tryd.prog 34 #[.slice A n c, .slice A2 np c2] W (fun e w' => e = .returned (.agg (d.map bv).toArray) ∧ Below W.heap.size W w') from fun W A2 c2 hb hr2 hc2 => by
      rw [hd]; exact phmac_any k pb A A2 n np c c2 W hn hnp (ha.below hb) hr2 hc hc2 hl (by omega) (hG.below hb hG.2))
    have cE1 := Lib.hid (show ∀ W A2 c2, RB W A2 pb → Calls Tryd.prog 42 #[.slice A2 np c2] W (fun e w' => e = .returned (.string ⟨s1.toArray⟩) ∧ Below W.heap.size W w') from fun W A2 c2 hr2 => by
      rw [hs1, hnp]; exact encode_any A2 c2 pb W hr2 (by omega))
    have cE2 := Lib.hid (show ∀ W A2 c2, RB W A2 d → Calls Tryd.prog 42 #[.slice A2 32 c2] W (fun e w' => e = .returned (.string ⟨s2.toArray⟩) ∧ Below W.heap.size W w') from fun W A2 c2 hr2 => by
      rw [hs2, ← hdl]; exact encode_any A2 c2 d W hr2 (by omega))
    have k1 : (d.map bv).length = (List.replicate 32 (bv 0)).length := by rw [List.length_map, hdl]; simp
    have p1 : ∀ v ∈ d.map bv, v.oneCell' = true := bytes_oneCell _
    obtain ⟨s3, hs3⟩ : ∃ x, x = s1 ++ [46] := ⟨_, rfl⟩
    obtain ⟨s4, hs4⟩ : ∃ x, x = s3 ++ s2 := ⟨_, rfl⟩
    rw [hr.1, hr.2, ← hs3, ← hs4]
    have HS := Lib.hid (And.intro hs3 hs4)
    have HD := Lib.hid (And.intro hdl (And.intro hs1l hs2l))
    clear hn ha hc hl hz hp hG hlong hr hw1 hpb hd hs3 hs4 hs1 hs2 hnp hdl hs1l hs2l
    go_enter Tryd.func35, Tryd.ntmps35
    go_upto_region 5 with (first
      | (go_at_call 45; go_must (rw [← hW1]; refine (cP.out _).mono ?_); rintro e w2 ⟨⟨A2, c2, rfl, hr2, hc2, hm2⟩, hb2⟩)
      | (go_at_call 34; go_must (refine (cH.out _ A2 c2 (gt HW1.out hb2) hr2 hc2).mono ?_); rintro e w3 ⟨rfl, hb3⟩)
      | ((with_reducible show wpList _ _ _ (⟨some 8, _, _, _, _, _⟩ :: _) _ _); go_must (refine wpList_allocB (op := ⟨some 8, _, _, _, _, _⟩) A30 rfl rfl w3.heap.size rfl ?_); intro w4 hB4 hb4 hz4)
      | ((with_reducible show wpList _ _ _ (⟨none, .store 30 (.tmp 8) _, _, _, _, _⟩ :: _) _ _); go_must (refine wpList_storeB (op := ⟨none, _, _, _, _, _⟩) A30 rfl _ _ rfl w3.heap.size 0 rfl (d.map bv) rfl k1 _ _ hB4 (Nat.le_of_eq ((Nat.zero_add _).trans k1)) p1 ?_); intro w5 hB5 hg5 hz5))
    rw [splice_all _ _ k1] at hB5
    have hb25 : Below w2.heap.size w2 w5 := (hb3.trans (hb4.mono hb3.size)).grown hg5 (by have := hb3.size; omega) (fun j hj => by simp at hj; have := hb3.size; omega)
    have hw5 := gt (gt HW1.out hb2) hb25
    have hr5 := hr2.below hb25
    have hd5 : RB w5 (some ⟨w3.heap.size, 0, none⟩) d := by
      have := hB5.rb 0 32
      rw [List.drop_zero, List.take_of_length_le (by have := HD.out.1; omega)] at this
      exact this
    have HX := Lib.hid (And.intro hw5 (And.intro hr5 hd5))
    generalize w3.heap.size = g8 at *
    clear hb25 hw5 hr5 hd5 hB4 hb4 hz4 hB5 hg5 hz5 hb3 hb2 hr2
    have q1 : ((⟨s1.toArray⟩ : ByteArray) ++ ⟨#[46]⟩) = ⟨s3.toArray⟩ := by rw [HS.out.1, ByteArray.mk_append_mk]; try rfl
    have q2 : ((⟨s3.toArray⟩ : ByteArray) ++ ⟨s2.toArray⟩) = ⟨s4.toArray⟩ := by rw [HS.out.2, ByteArray.mk_append_mk]; try rfl
    have l1 : s1.length + 1 ≤ 9223372036854775807 := by have := HD.out.2.1; omega
    have l2 : s3.length + s2.length ≤ 9223372036854775807 := by have := HD.out.2.1; have := HD.out.2.2; rw [HS.out.1]; simp; omega
    try simp only [Act.put, List.setIfInBounds_toArray, List.set_cons_succ, List.set_cons_zero]
    refine wp_region_qb (by kernel_rfl) (by kernel_rfl) ?_
    go_big_quiet_step (fail)
    refine wq_call (f := 42) (args := #[.slice A2 np c2]) (v := .string ⟨s1.toArray⟩) rfl (fun w' _ => by go_simp) (fun w' hC => cE1.out _ A2 c2 (HX.out.2.1.below hC)) ?_
    simp only [Act.put, List.setIfInBounds_toArray, List.set_cons_succ, List.set_cons_zero]
    refine wq_val (o := ⟨some 22, _, _, _, _, _⟩) (v := .string ⟨s3.toArray⟩) rfl (fun w' hC => by go_simp) ?_
    simp only [Act.put, List.setIfInBounds_toArray, List.set_cons_succ, List.set_cons_zero]
    refine wq_val (o := ⟨some 23, _, _, _, _, _⟩) (v := .slice (some ⟨g8, 0, none⟩) 32 32) rfl (fun w' hC => by go_simp) ?_
    simp only [Act.put, List.setIfInBounds_toArray, List.set_cons_succ, List.set_cons_zero]
    refine wq_call (f := 42) (args := #[.slice (some ⟨g8, 0, none⟩) 32 32]) (v := .string ⟨s2.toArray⟩) rfl (fun w' _ => by go_simp) (fun w' hC => cE2.out _ _ 32 (HX.out.2.2.below hC)) ?_
    simp only [Act.put, List.setIfInBounds_toArray, List.set_cons_succ, List.set_cons_zero]
    refine wq_val (o := ⟨some 25, _, _, _, _, _⟩) (v := .string ⟨s4.toArray⟩) rfl (fun w' hC => by go_simp) ?_
    simp only [Act.put, List.setIfInBounds_toArray, List.set_cons_succ, List.set_cons_zero]
    go_big_quiet_step (fail)
    go_big_quiet_step (fail)
    refine wpQuiet_nil ?_
    intro w6 h6
    go_wp2_with fail
    go_ret2
    exact ⟨rfl, gt HX.out.1 h6⟩
end Go.Proofs.YtoemceehmiaigaaDoor.Seal
