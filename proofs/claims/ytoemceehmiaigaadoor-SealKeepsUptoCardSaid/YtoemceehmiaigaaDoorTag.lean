/- A claim's token: the reference's Tag and Mint. -/
import Derived.Test.YtoemceehmiaigaaDoorMint
namespace Go.Proofs.YtoemceehmiaigaaDoor.Seal
open Go.RowKit Go.Proofs.YtoemceehmiaigaaDoor.Mem Go.Proofs.YtoemceehmiaigaaDoor.Loan Go.Proofs.YtoemceehmiaigaaDoor.Sha
set_option linter.unusedVariables false

set_option maxRecDepth 40000 in
set_option maxHeartbeats 1600000 in
theorem rtag_any (k m : List UInt8) (A B : Option Addr) (na nb ca cb : Nat) (w : World) (hna : na = k.length) (hnb : nb = m.length) (ha : RB w A k) (hb : RB w B m) (hla : na ≤ 17592186044416) (hlb : nb ≤ 17592186044416) :
    Calls Tryd.prog 64 #[.slice A na ca, .slice B nb cb] w fun e w' => e = .returned (.string ⟨(enc (hmacf k m)).toArray⟩) ∧ Below w.heap.size w w' := by
  obtain ⟨d, hd⟩ : ∃ x, x = hmacf k m := ⟨_, rfl⟩
  have hdl : d.length = 32 := by rw [hd]; exact hmacf_length _ _
  have cH := Lib.hid (show Calls Tryd.prog 33 #[.slice A na ca, .slice B nb cb] w (fun e w' => e = .returned (.agg (d.map bv).toArray) ∧ Below w.heap.size w w') from by
    rw [hd]; exact rhmac_any k m A B na nb ca cb w hna hnb ha hb hla hlb)
  rw [← hd]
  have k1 : (d.map bv).length = (List.replicate 32 (bv 0)).length := by rw [List.length_map, hdl]; simp
  have p1 : ∀ v ∈ d.map bv, v.oneCell' = true := bytes_oneCell _
  have HD := Lib.hid hdl
  clear hd hdl hna hnb ha hb hla hlb
  go_enter Tryd.func64, Tryd.ntmps64
  go_upto_region 2 with (first
    | (go_at_call 33; go_must (refine (cH.out).mono ?_); rintro e w3 ⟨rfl, hb3⟩)
    | ((with_reducible show wpList _ _ _ (⟨some 5, _, _, _, _, _⟩ :: _) _ _); go_must (refine wpList_allocB (op := ⟨some 5, _, _, _, _, _⟩) A30 rfl rfl w3.heap.size rfl ?_); intro w4 hB4 hb4 hz4)
    | ((with_reducible show wpList _ _ _ (⟨none, .store 30 (.tmp 5) _, _, _, _, _⟩ :: _) _ _); go_must (refine wpList_storeB (op := ⟨none, _, _, _, _, _⟩) A30 rfl _ _ rfl w3.heap.size 0 rfl (d.map bv) rfl k1 _ _ hB4 (Nat.le_of_eq ((Nat.zero_add _).trans k1)) p1 ?_); intro w5 hB5 hg5 hz5))
  rw [splice_all _ _ k1] at hB5
  have hb25 : Below w.heap.size w w5 := (hb3.trans (hb4.mono hb3.size)).grown hg5 (by have := hb3.size; omega) (fun j hj => by simp at hj; have := hb3.size; omega)
  generalize w3.heap.size = g5 at *
  have HX := Lib.hid (And.intro hB5 hb25)
  clear hb25 hB4 hb4 hz4 hB5 hg5 hz5 hb3
  try simp only [Act.put, List.setIfInBounds_toArray, List.set_cons_succ, List.set_cons_zero]
  go_wp2_with (first
    | (at_make; go_must (refine wpList_make0 E8 rfl _ _ rfl .i64 .i64 _ 32 rfl rfl (by rfl) (by omega) (by unfold maxLen; omega) w5.heap.size (Nat.le_refl _) ?_); intro v w6 hown hv hb6 hz6 hcap))
  have HY := Lib.hid (And.intro hown hb6)
  clear hown hv hb6 hz6 hcap
  go_loopw [6, 7] (fun v6 v7 wr => ∃ i : Nat, i ≤ 32 ∧ v7 = .int .i64 i ∧ wr.ownsRow w5.heap.size 5 1 v6 i ((d.take i).map bv) ∧ Below w5.heap.size w5 wr) (fun _ v _ => 32 - (intOf v).toNat)
  case atStart => exact ⟨0, by omega, rfl, HY.out.1, HY.out.2⟩
  case round =>
    clear HY
    obtain ⟨i, hi, rfl, hown, hb⟩ := hrel
    obtain ⟨A6, n6, c6, rfl, hn6⟩ := own_form hown
    by_cases hlt : i < 32
    · have hid : i < d.length := by rw [HD.out]; exact hlt
      have hii : (i : Int) < 32 := by omega
      have hi0 : (0 : Int) ≤ (i : Int) := by omega
      obtain ⟨y, hy⟩ : ∃ y, y = d[i] := ⟨_, rfl⟩
      have cc := (HX.out.1.grow hb).cell i
      rw [List.getElem?_map, List.getElem?_eq_getElem hid, ← hy] at cc
      simp only [Option.map_some] at cc
      have htk : d.take i ++ [y] = d.take (i + 1) := by rw [take_succ_ hid, hy]
      have HZ := Lib.hid (And.intro hown (And.intro hb htk))
      clear hown hb htk hy hlt
      go_wp2_with (first
        | ((with_reducible show wpList _ _ _ (⟨some 20, _, _, _, _, _⟩ :: _) _ _); go_must (refine wpList_one E8 rfl (.tmp 19) rfl (by decide) [bv y] rfl rfl wr.heap.size rfl ?_); intro w7 hB7 hb7)
        | ((with_reducible show wpList _ _ _ (⟨some 21, _, _, _, _, _⟩ :: _) _ _); go_must (refine wpList_pushB E8 rfl (.tmp 16) (.tmp 20) rfl (gt HZ.out.2.1 hb7) (own_belowB HZ.out.1 hb7) rfl wr.heap.size rfl y hB7 (by omega) ?_); intro v8 w8 hown8 hb8))
      refine ⟨⟨i + 1, by omega, by go_num, ?_, hb8⟩, by simp [intOf]; omega⟩
      rw [← HZ.out.2.2]
      exact hown8
    · obtain rfl : i = 32 := by omega
      rw [List.take_of_length_le (by rw [HD.out]; exact Nat.le_refl _)] at hown
      have hr := own_rb' hown
      have hn : n6 = d.length := by rw [HD.out]; exact hn6
      have HZ := Lib.hid (And.intro hr (And.intro hn (HX.out.2.trans (hb.mono HX.out.2.size))))
      clear hown hb hlt hn6 hr hn hi
      go_wp2_with (first
        | (go_at_call 63; go_must (refine (rencode_any A6 c6 n6 d _ HZ.out.1 HZ.out.2.1 (by rw [HZ.out.2.1, HD.out]; omega)).mono ?_); rintro e w7 ⟨rfl, hb7⟩))
      go_ret
      exact ⟨rfl, gt HZ.out.2.2 hb7⟩

set_option maxRecDepth 40000 in
set_option maxHeartbeats 1600000 in
theorem rmint_any (k : List UInt8) (z : Int) (p : List UInt8) (A : Option Addr) (n c : Nat) (w : World) (hn : n = k.length) (ha : RB w A k) (hl : n ≤ 17592186044416)
    (hz : -9223372036854775808 ≤ z ∧ z ≤ 9223372036854775807) (hp : p.length ≤ 1048576) :
    Calls Tryd.prog 38 #[.slice A n c, .agg #[.int .i64 z, .string ⟨p.toArray⟩]] w fun e w' => e = .returned (.tuple #[.string ⟨(mintR k z p).toArray⟩, .int .i64 (packE p)]) ∧ Below w.heap.size w w' := by
  obtain ⟨W1, hW1⟩ : ∃ x, x = w.alloc (.cells #[.int .i64 z, .string ⟨p.toArray⟩] 72) := ⟨_, rfl⟩
  have hw1 : Below w.heap.size w W1 := hW1 ▸ ga (gr w) _
  have HW1 := Lib.hid hw1
  by_cases hlong : 1024 < p.length
  · have hr : mintR k z p = [] ∧ packE p = 1 := by unfold mintR packE; rw [if_pos hlong, if_pos hlong]; exact ⟨rfl, rfl⟩
    have cP := Lib.hid (show ∀ W, Calls Tryd.prog 62 #[.agg #[.int .i64 z, .string ⟨p.toArray⟩]] W (fun e w' => e = .returned (.tuple #[.slice none 0 0, .int .i64 1]) ∧ Below W.heap.size W w') from fun W => by
      have := rpack_any z p W hz (by omega)
      unfold PackPost at this
      simp only [if_pos hlong] at this
      exact this)
    rw [hr.1, hr.2]
    clear hn ha hl hz hp hlong hr hw1
    go_enter Tryd.func38, Tryd.ntmps38
    go_wp2_with (first
      | (go_at_call 62; go_must (rw [← hW1]; refine (cP.out _).mono ?_); rintro e w2 ⟨rfl, hb2⟩))
    go_ret2
    exact ⟨rfl, gt HW1.out hb2⟩
  · obtain ⟨pb, hpb⟩ : ∃ x, x = pack z p := ⟨_, rfl⟩
    obtain ⟨np, hnp⟩ : ∃ x, x = pb.length := ⟨_, rfl⟩
    have hpl : np ≤ 1032 := by rw [hnp, hpb, pack_length]; omega
    obtain ⟨s1, hs1⟩ : ∃ x, x = enc pb := ⟨_, rfl⟩
    obtain ⟨s2, hs2⟩ : ∃ x, x = enc (hmacf k pb) := ⟨_, rfl⟩
    have hr : mintR k z p = (s1 ++ [46]) ++ s2 ∧ packE p = 0 := by
      unfold mintR packE mintB
      rw [if_neg hlong, if_neg hlong, hs1, hs2, hpb]
      simp
    have hs1l : s1.length ≤ 2000 := by rw [hs1, enc_length, ← hnp]; omega
    have hs2l : s2.length ≤ 2000 := by rw [hs2, enc_length, hmacf_length]; omega
    have cP := Lib.hid (show ∀ W, Calls Tryd.prog 62 #[.agg #[.int .i64 z, .string ⟨p.toArray⟩]] W (fun e w' => (∃ A c, e = .returned (.tuple #[.slice A np c, .int .i64 0]) ∧ RB w' A pb ∧ np ≤ c ∧ c ≤ maxLen) ∧ Below W.heap.size W w') from fun W => by
      have := (rpack_any z p W hz (by omega)).mono fun _ _ h => packU_of h
      unfold PackU packB packE at this
      simp only [if_neg hlong] at this
      rw [hnp, hpb]; exact this)
    have cH := Lib.hid (show ∀ W A2 c2, Below w.heap.size w W → RB W A2 pb → Calls Tryd.prog 64 #[.slice A n c, .slice A2 np c2] W (fun e w' => e = .returned (.string ⟨s2.toArray⟩) ∧ Below W.heap.size W w') from fun W A2 c2 hb hr2 => by
      rw [hs2]; exact rtag_any k pb A A2 n np c c2 W hn hnp (ha.below hb) hr2 hl (by omega))
    have cE1 := Lib.hid (show ∀ W A2 c2, RB W A2 pb → Calls Tryd.prog 63 #[.slice A2 np c2] W (fun e w' => e = .returned (.string ⟨s1.toArray⟩) ∧ Below W.heap.size W w') from fun W A2 c2 hr2 => by
      rw [hs1]; exact rencode_any A2 c2 np pb W hr2 hnp (by omega))
    obtain ⟨s3, hs3⟩ : ∃ x, x = s1 ++ [46] := ⟨_, rfl⟩
    obtain ⟨s4, hs4⟩ : ∃ x, x = s3 ++ s2 := ⟨_, rfl⟩
    rw [hr.1, hr.2, ← hs3, ← hs4]
    have q1 : ((⟨s1.toArray⟩ : ByteArray) ++ ⟨#[46]⟩) = ⟨s3.toArray⟩ := by rw [hs3, ByteArray.mk_append_mk]; try rfl
    have q2 : ((⟨s3.toArray⟩ : ByteArray) ++ ⟨s2.toArray⟩) = ⟨s4.toArray⟩ := by rw [hs4, ByteArray.mk_append_mk]; try rfl
    have l1 : s1.length + 1 ≤ 9223372036854775807 := by omega
    have l2 : s3.length + s2.length ≤ 9223372036854775807 := by rw [hs3]; simp; omega
    clear hn ha hl hz hp hlong hr hw1 hpb hs3 hs4 hs1 hs2 hnp hs1l hs2l
    go_enter Tryd.func38, Tryd.ntmps38
    go_wp2_with (first
      | (go_at_call 62; go_must (rw [← hW1]; refine (cP.out _).mono ?_); rintro e w2 ⟨⟨A2, c2, rfl, hr2, hc2, hm2⟩, hb2⟩)
      | (go_at_call 63; go_must (refine (cE1.out _ A2 c2 hr2).mono ?_); rintro e w3 ⟨rfl, hb3⟩)
      | (go_at_call 64; go_must (refine (cH.out _ A2 c2 (gt (gt HW1.out hb2) hb3) (hr2.below hb3)).mono ?_); rintro e w4 ⟨rfl, hb4⟩))
    trace_state
    go_ret2
    exact ⟨rfl, gt (gt (gt HW1.out hb2) hb3) hb4⟩
end Go.Proofs.YtoemceehmiaigaaDoor.Seal
