/- weirlaw28.awake: a plain request is read. -/
import Derived.Test.YtojemdggbcklkaaDoorWRAll
import Derived.Test.YtojemdggbcklkaaDoorWSame
import Derived.Test.YtojemdggbcklkaaDoorLawWrites
namespace Go.Proofs.YtojemdggbcklkaaDoor.WireR
open Go.RowKit Go.Proofs.YtojemdggbcklkaaDoor.Mem Go.Proofs.YtojemdggbcklkaaDoor.Wire Go.Proofs.YtojemdggbcklkaaDoor.Strs Go.Proofs.YtojemdggbcklkaaDoor.Heads
set_option linter.unusedVariables false
set_option linter.unusedSimpArgs false
set_option maxRecDepth 8000

def plainB : Bytes := [71, 69, 84, 32, 47, 120, 32, 72, 84, 84, 80, 47, 49, 46, 49, 13, 10, 72, 111, 115, 116, 58, 32, 97, 13, 10, 13, 10]
theorem plain_read : readAll plainB = .ok (⟨[71, 69, 84], [47, 120], [([72, 111, 115, 116], [97])], [], false⟩, 28) := by rfl
set_option maxHeartbeats 8000000 in
theorem awake_any (w : World) : Calls Tryd.prog 14 #[] w fun e w' => e = .returned (.bool true) ∧ Below w.heap.size w w' := by
  have c1 := fun (W : World) (h : RB W (some ⟨w.heap.size, 0, none⟩) plainB) => read_any (some ⟨w.heap.size, 0, none⟩) 28 28 plainB W h rfl (by omega) (by omega)
  simp only [plain_read] at c1
  have C1 := Lib.hid c1
  clear c1
  go_enter Tryd.func14, Tryd.ntmps14
  go_upto_region 2 with (first
    | ((with_reducible show wpList _ _ _ (⟨some 6, _, _, _, _, _⟩ :: _) _ _); go_must (refine WireW.wpList_bconst (o := ⟨some 6, _, _, _, _, _⟩) rfl (.tmp 5) rfl (n := 28) (c := 28) (by simp [Act.eval]) plainB rfl ?_); intro w1 hr1 hb1; have H1 := Lib.hid (And.intro hr1 hb1); clear hr1 hb1)
    | (go_at_call 16; go_must (refine (C1.out _ H1.out.1).mono ?_); rintro e w2 hp2; obtain ⟨hb2, A5, k5, A7, k7, K, rfl, ho2, _, _, _⟩ := hp2; have H2 := Lib.hid (And.intro ho2 hb2); clear ho2 hb2)
    | ((with_reducible show wpList _ _ _ (⟨some 1, _, _, _, _, _⟩ :: _) _ _); go_must (refine wpList_allocB AR rfl rfl w2.heap.size rfl ?_); intro w3 hB3 hb3 hz3; have H3 := Lib.hid (And.intro hB3 hb3); clear hB3 hb3 hz3)
    | ((with_reducible show wpList _ _ _ (⟨none, .store _ (.tmp 1) _, _, _, _, _⟩ :: _) _ _); go_must (refine wpList_storeB AR rfl (.tmp 1) (.tmp 8) rfl w2.heap.size 0 rfl [.string ⟨#[71, 69, 84]⟩, .string ⟨#[47, 120]⟩, .slice A5 1 k5, .slice A7 0 k7, .bool false] rfl rfl _ _ H3.out.1 (by simp) (by simp [Value.oneCell']) ?_); intro w4 hB4 hg4 hz4
       simp only [splice, List.take_zero, List.nil_append, List.length_cons, List.length_nil, List.drop_succ_cons, List.drop_zero, List.append_nil, Nat.zero_add, List.drop_nil] at hB4
       have H4 := Lib.hid (And.intro hB4 hg4)
       clear hB4 hg4 hz4))
  have ho4 := (own_below' H2.out.1 H3.out.2).kept H4.out.2 (own_ne H2.out.1)
  have hbw : Below w.heap.size w w4 := gt' H1.out.2 ((gt' H2.out.2 ((H3.out.2).grown H4.out.2 H3.out.2.size (fun j hj => by injection hj with hj; omega))))
  have hrv := own_rv ho4
  have hB4 := H4.out.1
  rcases ho4.2 with ⟨_, h0⟩ | ⟨G, cap, cur, hv, _⟩
  · exact absurd h0 (by simp)
  injection hv with hv _ _
  subst hv
  obtain ⟨ad, had, hcell⟩ := hrv 1 (by simp [hdrV, HD.cells])
  injection had with had
  subst had
  rw [add_none] at hcell
  have hcell' : w4.cell? ⟨G, 1, none⟩ = some (.string ⟨#[97]⟩) := hcell
  obtain ⟨H, hH⟩ : ∃ x, x = w2.heap.size := ⟨_, rfl⟩
  rw [← hH] at hB4 ⊢
  have p0 := hB4.cell 0
  have p1 := hB4.cell 1
  have p2 := hB4.cell 2
  have p4 := hB4.cell 4
  simp only [List.getElem?_cons_succ, List.getElem?_cons_zero] at p0 p1 p2 p4
  have HB := Lib.hid hbw
  have s1 : ((⟨#[71, 69, 84]⟩ : ByteArray).toList == [71, 69, 84]) = true := by rw [ByteArray.toList_eq]; rfl
  have s2 : ((⟨#[47, 120]⟩ : ByteArray).toList == [47, 120]) = true := by rw [ByteArray.toList_eq]; rfl
  have s3 : ((⟨#[97]⟩ : ByteArray).toList == [97]) = true := by rw [ByteArray.toList_eq]; rfl
  clear ho4 hbw hrv hB4 hcell hH
  go_wp2
  go_ret
  exact ⟨rfl, HB.out⟩
end Go.Proofs.YtojemdggbcklkaaDoor.WireR
