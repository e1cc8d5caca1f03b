/- judge: the whole head. -/
import Derived.Test.YtojemdggbcklkaaDoorWAll
import Derived.Test.YtojemdggbcklkaaDoorWCount
import Derived.Deep.Cut

/- digits: judge's test of a length. -/
namespace Go.Proofs.YtojemdggbcklkaaDoor.WireR
open Go.RowKit Go.Proofs.YtojemdggbcklkaaDoor.Mem Go.Proofs.YtojemdggbcklkaaDoor.Wire Go.Proofs.YtojemdggbcklkaaDoor.Strs
set_option linter.unusedVariables false
set_option linter.unusedSimpArgs false
set_option maxRecDepth 4000

set_option maxHeartbeats 1000000 in
theorem digit_any (c : UInt8) (w : World) :
    Calls Tryd.prog 55 #[.int .u8 (c.toNat : Int)] w fun e w' => e = .returned (.bool (digB c)) ∧ w = w' := by
  unfold digB
  obtain ⟨x, hx⟩ : ∃ x, x = c.toNat := ⟨_, rfl⟩
  have hxl : x < 256 := hx ▸ c.toNat_lt
  rw [← hx]
  clear hx
  obtain ⟨y, hy⟩ : ∃ y : Int, y = (x : Int) := ⟨_, rfl⟩
  rw [← hy]
  obtain ⟨r, hr⟩ : ∃ r, r = digN x := ⟨_, rfl⟩
  rw [← hr]
  obtain ⟨b2, h2⟩ : ∃ b, decide ((48 : Int) ≤ y) = b := ⟨_, rfl⟩
  obtain ⟨b3, h3⟩ : ∃ b, decide (y ≤ 57) = b := ⟨_, rfl⟩
  have hb : r = (b2 && b3) := by
    rw [hr, ← h2, ← h3, hy]
    unfold digN
    rw [Bool.eq_iff_iff]
    simp
    omega
  rw [hb]
  clear hb hr hy hxl
  cases b2 <;> cases b3 <;>
  · go_enter Tryd.func55, Tryd.ntmps55
    go_wp2
    go_ret
    exact ⟨rfl, rfl⟩
set_option maxHeartbeats 2000000 in
theorem allOf_dig (l : List UInt8) (w : World) (hl : l.length ≤ 1073741824) :
    Calls Tryd.prog 50 #[.string ⟨l.toArray⟩, .func (.func 55) #[] #[]] w fun e w' => e = .returned (.bool (l.all digB)) ∧ w = w' := by
  obtain ⟨n, hn⟩ : ∃ n, n = l.length := ⟨_, rfl⟩
  obtain ⟨s, hs⟩ : ∃ s, s = (⟨l.toArray⟩ : ByteArray) := ⟨_, rfl⟩
  have hsz : s.size = n := by rw [hs, hn]; simp [ByteArray.size]
  have hni : (n : Int) ≤ 1073741824 := by omega
  have HA := Lib.hid (And.intro hn hs)
  rw [← hs]
  clear hn hs hl
  go_enter Tryd.func50, Tryd.ntmps50
  go_wp2
  go_loopw [5] (fun v wr => ∃ k : Nat, k ≤ n ∧ v = .int .i64 k ∧ (l.take k).all digB = true ∧ wr = w) (fun v _ => n - (intOf v).toNat)
  case atStart => exact ⟨0, by omega, rfl, rfl, rfl⟩
  case round =>
    obtain ⟨k, hk, rfl, hall, rfl⟩ := hrel
    by_cases hlt : k < n
    · have hka : k < l.length := by have := HA.out.1; omega
      obtain ⟨x, hx⟩ : ∃ x, x = l[k] := ⟨_, rfl⟩
      have hks : k < s.size := by omega
      have hsx : s[k] = x := by
        have : ∀ s' : ByteArray, s' = (⟨l.toArray⟩ : ByteArray) → ∀ h, s'[k]'h = l[k] := fun s' e h => by subst e; rfl
        rw [hx]; exact this s HA.out.2 hks
      have hst := all_step (p := digB) hka
      have hno := all_not (p := digB) hka
      rw [← hx] at hst hno
      rw [hall, Bool.true_and] at hst
      obtain ⟨b, hb⟩ : ∃ b, b = digB x := ⟨_, rfl⟩
      have c1 := fun W => digit_any x W
      rw [← hb] at c1 hst hno
      have C1 := Lib.hid c1
      have hki : (k : Int) < (n : Int) := by omega
      have hk0 : (0 : Int) ≤ (k : Int) := by omega
      have HS := Lib.hid (And.intro hst hno)
      clear hx hst hno hall c1 hb hlt hka
      cases b
      · go_wp2_with (first
          | (go_at_call 55; go_must (refine (C1.out _).mono ?_); rintro e w' ⟨rfl, rfl⟩))
        go_ret
        exact ⟨by rw [HS.out.2 trivial]; rfl, rfl⟩
      · go_wp2_with (first
          | (go_at_call 55; go_must (refine (C1.out _).mono ?_); rintro e w' ⟨rfl, rfl⟩))
        exact ⟨⟨k + 1, by omega, by go_num, HS.out.1, trivial⟩, by simp [intOf]; omega⟩
    · obtain rfl : k = n := by omega
      have hf : l.all digB = true := by rw [List.take_of_length_le (by have := HA.out.1; omega)] at hall; exact hall
      have HF := Lib.hid hf
      clear hall hf hlt
      go_wp2
      go_ret
      exact ⟨by rw [HF.out]; rfl, rfl⟩
end Go.Proofs.YtojemdggbcklkaaDoor.WireR
namespace Go.Proofs.YtojemdggbcklkaaDoor.WireR
open Go.RowKit Go.Proofs.YtojemdggbcklkaaDoor.Mem Go.Proofs.YtojemdggbcklkaaDoor.Wire Go.Proofs.YtojemdggbcklkaaDoor.Strs Go.Proofs.YtojemdggbcklkaaDoor.Heads
set_option linter.unusedVariables false
set_option linter.unusedSimpArgs false
set_option maxRecDepth 4000

theorem AS : Arr Tryd.prog 68 [.string ⟨#[]⟩, .bool false] := Arr.mk' Tryd.underlying68 rfl (by kernel_rfl)
def hostBad (h : Nat) (old : Bool) : Bool := decide (1 < h) || (decide (h = 0) && !old)
def longBad (L : List Bytes) : Bool := decide (1 < L.length) || (decide (L.length = 1) && (decide (headS L = []) || !(headS L).all digB))
def codeBad (C : List Bytes) : Bool := decide (1 < C.length) || (decide (C.length = 1) && !decide (low (headS C) = nChunked))
def bothBad (L C : List Bytes) (old : Bool) : Bool := decide (C.length = 1) && (decide (L.length = 1) || old)
def shapeOf (L C : List Bytes) : Shape := match L with
  | d :: _ => .long (numS d)
  | [] => if C.isEmpty = true then .none else .chunked
theorem shape_one {L : List Bytes} (C : List Bytes) (h : L.length = 1) : shapeOf L C = .long (numS (headS L)) := by
  rcases L with _ | ⟨d, r⟩
  · cases h
  · rfl
theorem judge_eq (hs : List HD) (old : Bool) : judgeS hs old = if (hostBad (vals hs nHost).length old || longBad (vals hs nLong) || codeBad (vals hs nCode) || bothBad (vals hs nLong) (vals hs nCode) old) = true then none else some (shapeOf (vals hs nLong) (vals hs nCode)) := by
  unfold judgeS headOk hostBad longBad codeBad bothBad shapeOf
  generalize vals hs nHost = H
  generalize vals hs nLong = L
  generalize vals hs nCode = C
  rcases H with _ | ⟨h1, _ | ⟨h2, H⟩⟩ <;> rcases L with _ | ⟨l1, _ | ⟨l2, L⟩⟩ <;> rcases C with _ | ⟨c1, _ | ⟨c2, C⟩⟩ <;> cases old <;> simp [headS] <;>
    (try (by_cases ha : low c1 = nChunked <;> simp [ha])) <;> (try (by_cases hb : l1 = [] <;> simp [hb]))
  all_goals
    by_cases hc : ∀ x, x ∈ l1 → digB x = true
    · rw [if_pos hc, if_neg (fun ⟨x, hx, h2⟩ => by rw [hc x hx] at h2; cases h2)]
    · rw [if_neg hc, if_pos (by simpa using hc)]
/-! the walk -/
def JudgePost (r : Option Shape) (e : Ending) : Prop :=
  match r with
  | none => e = .returned (.tuple #[.agg #[.string ⟨#[]⟩, .bool false], .int .i64 281])
  | some .none => e = .returned (.tuple #[.agg #[.string ⟨#[]⟩, .bool false], .int .i64 0])
  | some (.long n) => ∃ d : Bytes, d ≠ [] ∧ d.all digB = true ∧ n = numS d ∧ d.length ≤ 1048576 ∧ e = .returned (.tuple #[.agg #[.string ⟨d.toArray⟩, .bool false], .int .i64 0])
  | some .chunked => e = .returned (.tuple #[.agg #[.string ⟨#[]⟩, .bool true], .int .i64 0])
theorem jp_none {r : Option Shape} {e : Ending} (h : r = none) (he : e = .returned (.tuple #[.agg #[.string ⟨#[]⟩, .bool false], .int .i64 281])) : JudgePost r e := by rw [h]; exact he
theorem gt' {a b c : World} (h : Below a.heap.size a b) (k : Below b.heap.size b c) : Below a.heap.size a c := h.trans (k.mono h.size)
theorem vals_mem {hs : List HD} {name v : Bytes} (h : v ∈ vals hs name) (hok : ∀ h ∈ hs, HD.ok h) : v.length ≤ 1048576 := by
  unfold vals at h
  rw [List.mem_map] at h
  obtain ⟨x, hx, rfl⟩ := h
  exact (hok x (List.mem_filter.1 hx).1).2
theorem head_mem {L : List Bytes} (h : L.length = 1) : headS L ∈ L := by
  rcases L with _ | ⟨a, r⟩
  · cases h
  · exact List.mem_cons_self
theorem one_cell {w : World} {B : Nat} {A : Option Addr} {n c : Nat} {L : List Bytes} (h : w.ownsRow B 9 1 (.slice A n c) L.length (L.map Heads.strV)) (hl : L.length = 1) : ∃ ad, A = some ad ∧ w.cell? ad = some (.string ⟨(headS L).toArray⟩) ∧ n = 1 ∧ 1 ≤ c := by
  obtain ⟨A', c', e, hc⟩ := own_slice h
  injection e with e1 e2 e3
  subst e1 e2 e3
  obtain ⟨ad, ha, hcell⟩ := own_rv h 0 (by simp; omega)
  rcases L with _ | ⟨a, r⟩
  · cases hl
  · refine ⟨ad, ha, ?_, hl, by omega⟩
    rw [show ad.add 0 = ad by unfold Addr.add; simp] at hcell
    exact hcell
set_option maxHeartbeats 16000000 in
theorem judge_any (A : Option Addr) (n c : Nat) (hs : List HD) (old : Bool) (w : World) (hA : RV w A (hs.flatMap HD.cells)) (hn : n = hs.length) (hok : ∀ h ∈ hs, HD.ok h) (hl : n ≤ 1048576) :
    Calls Tryd.prog 34 #[.slice A n c, .bool old] w fun e w' => JudgePost (judgeS hs old) e ∧ Below w.heap.size w w' := by
  have HJ := Lib.hid (judge_eq hs old)
  obtain ⟨h, hh⟩ : ∃ h, h = (vals hs nHost).length := ⟨_, rfl⟩
  obtain ⟨L, hL⟩ : ∃ L, L = vals hs nLong := ⟨_, rfl⟩
  obtain ⟨C, hC⟩ : ∃ C, C = vals hs nCode := ⟨_, rfl⟩
  have hhn : h ≤ n := by rw [hh, hn]; exact vals_len _ _
  have hLn : L.length ≤ n := by rw [hL, hn]; exact vals_len _ _
  have hCn : C.length ≤ n := by rw [hC, hn]; exact vals_len _ _
  have n1 := fun (W : World) (hb : Below w.heap.size w W) => named_any A n c hs nHost W (hA.below hb) hn hok hl (by decide)
  have n2 := fun (W : World) (hb : Below w.heap.size w W) => named_any A n c hs nLong W (hA.below hb) hn hok hl (by decide)
  have n3 := fun (W : World) (hb : Below w.heap.size w W) => named_any A n c hs nCode W (hA.below hb) hn hok hl (by decide)
  have hLm : ∀ d ∈ L, d.length ≤ 1048576 := fun d hd => vals_mem (by rw [← hL]; exact hd) hok
  have hCm : ∀ d ∈ C, d.length ≤ 1048576 := fun d hd => vals_mem (by rw [← hC]; exact hd) hok
  rw [← hh] at n1
  rw [← hL] at n2
  rw [← hC] at n3
  have N1 := Lib.hid n1
  have N2 := Lib.hid n2
  have N3 := Lib.hid n3
  have HL := Lib.hid (And.intro hh (And.intro hL hC))
  have HM := Lib.hid (And.intro hLm hCm)
  have HN := Lib.hid (And.intro hhn (And.intro hLn (And.intro hCn hl)))
  clear n1 n2 n3 hA hn hok hh hL hC hhn hLn hCn hl hLm hCm
  go_enter Tryd.func34, Tryd.ntmps34
  go_upto_region 1 with fail
  obtain ⟨w1, hw1⟩ : ∃ x, x = w.alloc (.cells #[.string ⟨#[]⟩, .bool false] 68) := ⟨_, rfl⟩
  rw [← hw1]
  have hb1 : Below w.heap.size w w1 := hw1 ▸ ga (gr w) _
  have hB1 : Blk w1 w.heap.size 68 [.string ⟨#[]⟩, .bool false] := hw1 ▸ Blk.new w _ _
  obtain ⟨H, hH⟩ : ∃ H, H = w.heap.size := ⟨_, rfl⟩
  rw [← hH] at hB1 ⊢
  have HW := Lib.hid (And.intro hB1 (And.intro hb1 (And.intro hb1.size (by omega : w.heap.size ≤ H))))
  clear hb1 hB1 hw1 hH
  have k1 := N1.out w1 HW.out.2.1
  have K1 := Lib.hid k1
  clear k1
  go_upto_region 2 with (first
    | (go_at_call 54; go_must (refine (K1.out).mono ?_); rintro e w2 hpost; obtain ⟨vw2, rfl, ho, hb⟩ := hpost; obtain ⟨Aw2, cw2, rfl, hcw2⟩ := own_slice ho; clear hcw2))
  have HO1 := Lib.hid (And.intro ho hb)
  have B2 : Below w.heap.size w w2 := HW.out.2.1.trans (hb.mono HW.out.2.2.1)
  have HB2 := Lib.hid (And.intro (HW.out.1.grow hb) (And.intro B2 hb.size))
  clear ho hb B2
  go_cut [23] from 11 (fun v wc => v = .bool (hostBad h old) ∧ wc = w2)
  case first =>
    have hhi : (h : Int) ≤ 1048576 := by have := HN.out.1; have := HN.out.2.2.2; omega
    by_cases h1 : 1 < h
    · have b1 : decide ((1 : Int) < (h : Int)) = true := by rw [decide_eq_true_iff]; omega
      have hr := Lib.hid (show hostBad h old = true by unfold hostBad; simp [h1])
      clear h1
      go_wp2
      go_meet
      exact ⟨by rw [hr.out], rfl⟩
    · have b1 : decide ((1 : Int) < (h : Int)) = false := by rw [decide_eq_false_iff_not]; omega
      by_cases h0 : h = 0
      · have b2 : ((h : Int) == 0) = true := by simp; omega
        have hr := Lib.hid (show hostBad h old = !old by unfold hostBad; simp [h0])
        clear h1 h0
        cases old
        · go_wp2
          go_meet
          exact ⟨by rw [hr.out]; rfl, rfl⟩
        · go_wp2
          go_meet
          exact ⟨by rw [hr.out]; rfl, rfl⟩
      · have b2 : ((h : Int) == 0) = false := by rw [beq_eq_false_iff_ne]; omega
        have hr := Lib.hid (show hostBad h old = false by unfold hostBad; simp [h1, h0])
        clear h1 h0
        go_wp2
        go_meet
        exact ⟨by rw [hr.out], rfl⟩
  case rest =>
    obtain ⟨rfl, rfl⟩ := hcut
    obtain ⟨bh, hbh⟩ : ∃ b, b = hostBad h old := ⟨_, rfl⟩
    rw [← hbh]
    have HBH := Lib.hid hbh
    clear hbh
    cases bh
    case true =>
      go_wp2_with (first
        | ((with_reducible show wpList _ _ _ (⟨none, _, _, _, _, _⟩ :: _) _ _); go_must (refine wpList_storeB AS rfl (.tmp 4) (.tmp 24) rfl H 0 rfl [.string ⟨#[]⟩, .bool false] rfl rfl _ _ HB2.out.1 (by simp) (by simp [Value.oneCell']) ?_); intro w8 hB8 hg8 hz8
           have c0 := hB8.cell 0
           have c1 := hB8.cell 1
           simp only [splice, List.take_zero, List.nil_append, List.length_cons, List.length_nil, List.drop_succ_cons, List.drop_zero, List.append_nil, List.getElem?_cons_zero, List.getElem?_cons_succ, Nat.zero_add, List.drop_nil] at c0 c1
           clear hB8 hz8))
      refine bodyPost_ret (v := .tuple #[.agg #[.string ⟨#[]⟩, .bool false], .int .i64 281]) (by simp [results, Tryd.results34, go_sem, c0, c1]) rfl ?_
      exact ⟨jp_none (by rw [HJ.out, ← HL.out.1, ← HBH.out]; rfl) rfl, (HB2.out.2.1).grown hg8 (by have := HB2.out; have := HW.out.2.2.1; omega) (fun k hk => by injection hk with hk; have := HW.out.2.2.2; omega)⟩
    case false =>
      rename World => w2
      have k2 := N2.out w2 HB2.out.2.1
      obtain ⟨m, hm⟩ : ∃ m, m = L.length := ⟨_, rfl⟩
      rw [← hm] at k2
      have K2 := Lib.hid k2
      have HMM := Lib.hid hm
      clear k2 hm
      go_upto_region 6 with (first
        | (go_at_call 54; go_must (refine (K2.out).mono ?_); rintro e w3 hpost; obtain ⟨vw3, rfl, ho, hb⟩ := hpost; obtain ⟨Aw3, cw3, rfl, hcw3⟩ := own_slice ho; clear hcw3))
      have HO2 := Lib.hid ho
      have HB3 := Lib.hid (And.intro (HB2.out.1.grow hb) (And.intro (gt' HB2.out.2.1 hb) (Nat.le_trans HB2.out.2.2 hb.size)))
      clear ho hb
      have hmi : (m : Int) ≤ 1048576 := by have := HN.out.2.1; have := HN.out.2.2.2; have := HMM.out; omega
      go_cut [7, 48] from 11 (fun v7 v wc => v7 = .slice Aw3 m cw3 ∧ v = .bool (longBad L) ∧ wc = w3)
      case first =>
        by_cases h1 : 1 < m
        · have b1 : decide ((1 : Int) < (m : Int)) = true := by rw [decide_eq_true_iff]; omega
          have hr := Lib.hid (show longBad L = true by unfold longBad; rw [← HMM.out]; simp [h1])
          clear h1
          go_wp2
          go_meet
          exact ⟨rfl, by rw [hr.out], rfl⟩
        · have b1 : decide ((1 : Int) < (m : Int)) = false := by rw [decide_eq_false_iff_not]; omega
          by_cases h0 : m = 1
          · have b2 : ((m : Int) == 1) = true := by simp; omega
            obtain ⟨ad, rfl, hcell, _, hcw3⟩ := one_cell (n := m) (L := L) (by rw [← HMM.out]; exact HO2.out) (by rw [← HMM.out, h0])
            have hd := HM.out.1 _ (head_mem (L := L) (by rw [← HMM.out, h0]))
            have hlb : longBad L = (decide (headS L = []) || !(headS L).all digB) := by unfold longBad; rw [← HMM.out, h0]; simp
            obtain ⟨d, hdd⟩ : ∃ d, d = headS L := ⟨_, rfl⟩
            rw [← hdd] at hcell hd hlb
            have hm0 : (0 : Int) < (m : Int) := by omega
            have cd := fun W => allOf_dig d W (by omega)
            obtain ⟨sd, hsd⟩ : ∃ x, x = (⟨d.toArray⟩ : ByteArray) := ⟨_, rfl⟩
            obtain ⟨ba, hba⟩ : ∃ x, x = d.all digB := ⟨_, rfl⟩
            obtain ⟨be, hbe⟩ : ∃ x, x = decide (d = []) := ⟨_, rfl⟩
            have k0 : sd.toList.isEmpty = be := by rw [hsd, ByteArray.toList_eq, hbe]; cases d <;> rfl
            rw [← hsd] at hcell
            rw [← hsd, ← hba] at cd
            rw [← hba, ← hbe] at hlb
            have CD := Lib.hid cd
            have HR := Lib.hid hlb
            have HM1 := Lib.hid h0
            clear cd hlb hba hbe hdd hsd hd h1 h0
            cases be
            · cases ba
              · go_wp2_with (first
                | (go_at_call 50; go_must (refine (CD.out _).mono ?_); rintro e w6 ⟨rfl, hw6⟩; rw [← hw6]; clear hw6 w6))
                go_meet
                exact ⟨by rw [HM1.out], by rw [HR.out]; rfl, rfl⟩
              · go_wp2_with (first
                | (go_at_call 50; go_must (refine (CD.out _).mono ?_); rintro e w6 ⟨rfl, hw6⟩; rw [← hw6]; clear hw6 w6))
                go_meet
                exact ⟨by rw [HM1.out], by rw [HR.out]; rfl, rfl⟩
            · clear CD
              go_wp2
              go_meet
              exact ⟨by rw [HM1.out], by rw [HR.out]; rfl, rfl⟩
          · have b2 : ((m : Int) == 1) = false := by rw [beq_eq_false_iff_ne]; omega
            have hr := Lib.hid (show longBad L = false by unfold longBad; rw [← HMM.out]; simp [h1, h0])
            clear h1 h0
            go_wp2
            go_meet
            exact ⟨rfl, by rw [hr.out], rfl⟩
      case rest =>
        obtain ⟨rfl, rfl, rfl⟩ := hcut
        obtain ⟨bl, hbl⟩ : ∃ b, b = longBad L := ⟨_, rfl⟩
        rw [← hbl]
        have HBL := Lib.hid hbl
        clear hbl
        cases bl
        case true =>
          go_wp2_with (first
            | ((with_reducible show wpList _ _ _ (⟨none, _, _, _, _, _⟩ :: _) _ _); go_must (refine wpList_storeB AS rfl (.tmp 4) (.tmp 49) rfl H 0 rfl [.string ⟨#[]⟩, .bool false] rfl rfl _ _ HB3.out.1 (by simp) (by simp [Value.oneCell']) ?_); intro w8 hB8 hg8 hz8
               have c0 := hB8.cell 0
               have c1 := hB8.cell 1
               simp only [splice, List.take_zero, List.nil_append, List.length_cons, List.length_nil, List.drop_succ_cons, List.drop_zero, List.append_nil, List.getElem?_cons_zero, List.getElem?_cons_succ, Nat.zero_add, List.drop_nil] at c0 c1
               clear hB8 hz8))
          refine bodyPost_ret (v := .tuple #[.agg #[.string ⟨#[]⟩, .bool false], .int .i64 281]) (by simp [results, Tryd.results34, go_sem, c0, c1]) rfl ?_
          exact ⟨jp_none (by rw [HJ.out, ← HL.out.1, ← HL.out.2.1, ← HBH.out, ← HBL.out]; rfl) rfl, (HB3.out.2.1).grown hg8 (by have := HB3.out; have := HW.out.2.2.1; omega) (fun k hk => by injection hk with hk; have := HW.out.2.2.2; omega)⟩
        case false =>
          rename World => w3
          have k3 := N3.out w3 HB3.out.2.1
          obtain ⟨q, hq⟩ : ∃ q, q = C.length := ⟨_, rfl⟩
          rw [← hq] at k3
          have K3 := Lib.hid k3
          have HQ := Lib.hid hq
          clear k3 hq
          go_upto_region 9 with (first
            | (go_at_call 54; go_must (refine (K3.out).mono ?_); rintro e w4 hpost; obtain ⟨vw4, rfl, ho, hb⟩ := hpost; obtain ⟨Aw4, cw4, rfl, hcw4⟩ := own_slice ho; clear hcw4))
          have HO2' := Lib.hid (own_below' HO2.out hb)
          have HO3 := Lib.hid ho
          have HB4 := Lib.hid (And.intro (HB3.out.1.grow hb) (And.intro (gt' HB3.out.2.1 hb) (Nat.le_trans HB3.out.2.2 hb.size)))
          clear ho hb
          have hqi : (q : Int) ≤ 1048576 := by have := HN.out.2.2; have := HQ.out; omega
          go_cut [9, 66] from 11 (fun v9 v wc => v9 = .slice Aw4 q cw4 ∧ v = .bool (codeBad C) ∧ Below w4.heap.size w4 wc)
          case first =>
            by_cases h1 : 1 < q
            · have b1 : decide ((1 : Int) < (q : Int)) = true := by rw [decide_eq_true_iff]; omega
              have hr := Lib.hid (show codeBad C = true by unfold codeBad; rw [← HQ.out]; simp [h1])
              clear h1
              go_wp2
              go_meet
              exact ⟨rfl, by rw [hr.out], gr w4⟩
            · have b1 : decide ((1 : Int) < (q : Int)) = false := by rw [decide_eq_false_iff_not]; omega
              by_cases h0 : q = 1
              · have b2 : ((q : Int) == 1) = true := by simp; omega
                obtain ⟨ad, rfl, hcell, _, hcw4⟩ := one_cell (n := q) (L := C) (by rw [← HQ.out]; exact HO3.out) (by rw [← HQ.out, h0])
                have hd := HM.out.2 _ (head_mem (L := C) (by rw [← HQ.out, h0]))
                have hlb : codeBad C = !decide (low (headS C) = nChunked) := by unfold codeBad; rw [← HQ.out, h0]; simp
                obtain ⟨d, hdd⟩ : ∃ d, d = headS C := ⟨_, rfl⟩
                rw [← hdd] at hcell hd hlb
                have hm0 : (0 : Int) < (q : Int) := by omega
                have cs := fun W => same_any d nChunked W (by omega) (by decide)
                rw [show low nChunked = nChunked by decide] at cs
                obtain ⟨sd, hsd⟩ : ∃ x, x = (⟨d.toArray⟩ : ByteArray) := ⟨_, rfl⟩
                obtain ⟨ba, hba⟩ : ∃ x, x = decide (low d = nChunked) := ⟨_, rfl⟩
                rw [← hsd] at hcell
                rw [← hsd, ← hba] at cs
                rw [← hba] at hlb
                have CS := Lib.hid cs
                have HR := Lib.hid hlb
                have HM1 := Lib.hid h0
                clear cs hlb hba hdd hsd hd h1 h0
                cases ba
                · go_wp2_with (first
                    | (go_at_call 56; go_must (refine (CS.out _).mono ?_); rintro e w6 ⟨rfl, hb6⟩; have H6 := Lib.hid hb6; clear hb6))
                  go_meet
                  exact ⟨by rw [HM1.out], by rw [HR.out]; rfl, H6.out⟩
                · go_wp2_with (first
                    | (go_at_call 56; go_must (refine (CS.out _).mono ?_); rintro e w6 ⟨rfl, hb6⟩; have H6 := Lib.hid hb6; clear hb6))
                  go_meet
                  exact ⟨by rw [HM1.out], by rw [HR.out]; rfl, H6.out⟩
              · have b2 : ((q : Int) == 1) = false := by rw [beq_eq_false_iff_ne]; omega
                have hr := Lib.hid (show codeBad C = false by unfold codeBad; rw [← HQ.out]; simp [h1, h0])
                clear h1 h0
                go_wp2
                go_meet
                exact ⟨rfl, by rw [hr.out], gr w4⟩
          case rest =>
            obtain ⟨rfl, rfl, hbc⟩ := hcut
            have HB5 := Lib.hid (And.intro (HB4.out.1.grow hbc) (And.intro (gt' HB4.out.2.1 hbc) (Nat.le_trans HB4.out.2.2 hbc.size)))
            have HO5 := Lib.hid (own_below' HO2'.out hbc)
            clear hbc
            obtain ⟨bc, hbc⟩ : ∃ b, b = codeBad C := ⟨_, rfl⟩
            rw [← hbc]
            have HBC := Lib.hid hbc
            clear hbc
            cases bc
            case true =>
              go_wp2_with (first
                | ((with_reducible show wpList _ _ _ (⟨none, _, _, _, _, _⟩ :: _) _ _); go_must (refine wpList_storeB AS rfl (.tmp 4) (.tmp 67) rfl H 0 rfl [.string ⟨#[]⟩, .bool false] rfl rfl _ _ HB5.out.1 (by simp) (by simp [Value.oneCell']) ?_); intro w8 hB8 hg8 hz8
                   have c0 := hB8.cell 0
                   have c1 := hB8.cell 1
                   simp only [splice, List.take_zero, List.nil_append, List.length_cons, List.length_nil, List.drop_succ_cons, List.drop_zero, List.append_nil, List.getElem?_cons_zero, List.getElem?_cons_succ, Nat.zero_add, List.drop_nil] at c0 c1
                   clear hB8 hz8))
              refine bodyPost_ret (v := .tuple #[.agg #[.string ⟨#[]⟩, .bool false], .int .i64 281]) (by simp [results, Tryd.results34, go_sem, c0, c1]) rfl ?_
              exact ⟨jp_none (by rw [HJ.out, ← HL.out.1, ← HL.out.2.1, ← HL.out.2.2, ← HBH.out, ← HBL.out, ← HBC.out]; rfl) rfl, (HB5.out.2.1).grown hg8 (by have := HB5.out; have := HW.out.2.2.1; omega) (fun k hk => by injection hk with hk; have := HW.out.2.2.2; omega)⟩
            case false =>
              rename World => w5
              go_upto_region 11 with fail
              go_cut [7, 9, 78] from 11 (fun v7 v9 v wc => v7 = .slice Aw3 m cw3 ∧ v9 = .slice Aw4 q cw4 ∧ v = .bool (bothBad L C old) ∧ wc = w5)
              case first =>
                by_cases h1 : q = 1
                · have b1 : ((q : Int) == 1) = true := by simp; omega
                  have hr : bothBad L C old = (decide (m = 1) || old) := by unfold bothBad; rw [← HQ.out, ← HMM.out, h1]; simp
                  have HM1 := Lib.hid h1
                  clear h1
                  by_cases h0 : m = 1
                  · have b2 : ((m : Int) == 1) = true := by simp; omega
                    have HR := Lib.hid (show bothBad L C old = true by rw [hr, h0]; simp)
                    have HM2 := Lib.hid h0
                    clear h0 hr
                    go_wp2
                    go_meet
                    exact ⟨by rw [HM2.out], by rw [HM1.out], by rw [HR.out], rfl⟩
                  · have b2 : ((m : Int) == 1) = false := by rw [beq_eq_false_iff_ne]; omega
                    have HR := Lib.hid (show bothBad L C old = old by rw [hr]; simp [h0])
                    clear h0 hr
                    go_wp2
                    go_meet
                    exact ⟨rfl, by rw [HM1.out], by rw [HR.out], rfl⟩
                · have b1 : ((q : Int) == 1) = false := by rw [beq_eq_false_iff_ne]; omega
                  have HR := Lib.hid (show bothBad L C old = false by unfold bothBad; rw [← HQ.out]; simp [h1])
                  clear h1
                  go_wp2
                  go_meet
                  exact ⟨rfl, rfl, by rw [HR.out], rfl⟩
              case rest =>
                obtain ⟨rfl, rfl, rfl, rfl⟩ := hcut
                rename World => w6
                obtain ⟨bb, hbb⟩ : ∃ b, b = bothBad L C old := ⟨_, rfl⟩
                rw [← hbb]
                have HBB := Lib.hid hbb
                clear hbb
                cases bb
                case true =>
                  go_wp2_with (first
                    | ((with_reducible show wpList _ _ _ (⟨none, _, _, _, _, _⟩ :: _) _ _); go_must (refine wpList_storeB AS rfl (.tmp 4) (.tmp 79) rfl H 0 rfl [.string ⟨#[]⟩, .bool false] rfl rfl _ _ HB5.out.1 (by simp) (by simp [Value.oneCell']) ?_); intro w8 hB8 hg8 hz8
                       have c0 := hB8.cell 0
                       have c1 := hB8.cell 1
                       simp only [splice, List.take_zero, List.nil_append, List.length_cons, List.length_nil, List.drop_succ_cons, List.drop_zero, List.append_nil, List.getElem?_cons_zero, List.getElem?_cons_succ, Nat.zero_add, List.drop_nil] at c0 c1
                       clear hB8 hz8))
                  refine bodyPost_ret (v := .tuple #[.agg #[.string ⟨#[]⟩, .bool false], .int .i64 281]) (by simp [results, Tryd.results34, go_sem, c0, c1]) rfl ?_
                  exact ⟨jp_none (by rw [HJ.out, ← HL.out.1, ← HL.out.2.1, ← HL.out.2.2, ← HBH.out, ← HBL.out, ← HBC.out, ← HBB.out]; rfl) rfl, (HB5.out.2.1).grown hg8 (by have := HB5.out; have := HW.out.2.2.1; omega) (fun k hk => by injection hk with hk; have := HW.out.2.2.2; omega)⟩
                case false =>
                  have HB6 := Lib.hid HB5.out
                  have hj : judgeS hs old = some (shapeOf L C) := by
                    rw [HJ.out, ← HL.out.1, ← HL.out.2.1, ← HL.out.2.2, ← HBH.out, ← HBL.out, ← HBC.out, ← HBB.out]; rfl
                  have hm1 : m ≤ 1 := by
                    have := HBL.out
                    unfold longBad at this
                    rw [← HMM.out] at this
                    simp at this
                    omega
                  have hq1 : q ≤ 1 := by
                    have := HBC.out
                    unfold codeBad at this
                    rw [← HQ.out] at this
                    simp at this
                    omega
                  have hmq : q = 1 → m = 1 → False := fun h1 h2 => by
                    have := HBB.out
                    unfold bothBad at this
                    rw [← HQ.out, ← HMM.out, h1, h2] at this
                    simp at this
                  obtain ⟨bq, hbq⟩ : ∃ b, b = ((q : Int) == 1) := ⟨_, rfl⟩
                  have HBQ := Lib.hid hbq
                  by_cases h0 : m = 1
                  · have b2 : ((m : Int) == 1) = true := by simp; omega
                    have hq0 : q = 0 := by
                      rcases Nat.lt_or_ge q 1 with h | h
                      · omega
                      · exact (hmq (by omega) h0).elim
                    have b3 : ((q : Int) == 1) = false := by rw [beq_eq_false_iff_ne]; omega
                    obtain rfl : bq = false := by rw [hbq, b3]
                    obtain ⟨ad, rfl, hcell, _, hcw3⟩ := one_cell (n := m) (L := L) (by rw [← HMM.out]; exact HO5.out) (by rw [← HMM.out, h0])
                    have hm0 : (0 : Int) < (m : Int) := by omega
                    have hlb : (decide (headS L = []) || !(headS L).all digB) = false := by
                      have := HBL.out
                      unfold longBad at this
                      rw [← HMM.out, h0] at this
                      simpa using this.symm
                    have hd := HM.out.1 _ (head_mem (L := L) (by rw [← HMM.out, h0]))
                    have hjd : judgeS hs old = some (.long (numS (headS L))) := by
                      rw [hj, shape_one C (by rw [← HMM.out, h0])]
                    obtain ⟨d, hdd⟩ : ∃ d, d = headS L := ⟨_, rfl⟩
                    rw [← hdd] at hcell hd hlb hjd
                    have hne : d ≠ [] ∧ d.all digB = true := by
                      rw [Bool.or_eq_false_iff, decide_eq_false_iff_not, Bool.not_eq_false'] at hlb
                      exact hlb
                    obtain ⟨sd, hsd⟩ : ∃ x, x = (⟨d.toArray⟩ : ByteArray) := ⟨_, rfl⟩
                    rw [← hsd] at hcell
                    have HD := Lib.hid (And.intro hjd (And.intro hne (And.intro hd hsd)))
                    have HC0 := Lib.hid hcell
                    clear hdd hsd hd hjd hne hlb hj hm1 hq1 hmq h0 hq0 hbq hcell
                    go_upto_region 15 with (first
                      | ((with_reducible show wpList _ _ _ (⟨some 10, _, _, _, _, _⟩ :: _) _ _); go_must (refine wpList_allocB AS rfl rfl w6.heap.size rfl ?_); intro w66 hB66 hb66 hz66; have HA6 := Lib.hid (And.intro hB66 hb66); clear hB66 hb66 hz66)
                      | ((with_reducible show wpList _ _ _ (⟨none, .store _ (.tmp 10) _, _, _, _, _⟩ :: _) _ _); go_must (refine wpList_storeB AS rfl (.tmp 10) (.tmp 83) rfl w6.heap.size 0 rfl [.string ⟨#[]⟩, .bool false] rfl rfl _ _ HA6.out.1 (by simp) (by simp [Value.oneCell']) ?_); intro w7 hB7 hg7 hz7
                         simp only [splice, List.take_zero, List.nil_append, List.length_cons, List.length_nil, List.drop_succ_cons, List.drop_zero, List.append_nil, Nat.zero_add, List.drop_nil] at hB7
                         have HA7 := Lib.hid (And.intro hB7 (And.intro ((HB6.out.2.1.trans (HA6.out.2.mono HB6.out.2.1.size)).grown hg7 (by have := HB6.out.2.1.size; have := HA6.out.2.size; omega) (fun k hk => by injection hk with hk; have := HB6.out.2.1.size; omega)) (And.intro (HB6.out.1.grow HA6.out.2 |>.grown hg7 (fun e => by injection e with e; have := HB6.out.1.lt; omega)) (HA6.out.2.grown hg7 HA6.out.2.size (fun k hk => by injection hk with hk; omega)))))
                         have d0 := hB7.cell 0
                         have g0 := hB7.frozen 0
                         simp only [List.getElem?_cons_zero] at d0
                         clear hB7 hg7 hz7))
                    have hcell := cell_grow HC0.out HA7.out.2.2.2
                    go_upto_region 16 with fail
                    have hg9 := grownBy_set w7 w6.heap.size 0 (.string sd)
                    have HA8 := Lib.hid (And.intro (HA7.out.1.set_ 0 (.string sd)) (And.intro (HA7.out.2.1.grown hg9 HA7.out.2.1.size (fun k hk => by injection hk with hk; have := HB6.out.2.1.size; omega)) (And.intro (HA7.out.2.2.1.grown hg9 (fun e => by injection e with e; have := HB6.out.1.lt; omega)) trivial)))
                    obtain ⟨w77, hw77⟩ : ∃ x, x = w7.setCell ⟨w6.heap.size, 0, none⟩ (.string sd) := ⟨_, rfl⟩
                    rw [← hw77] at HA8 ⊢
                    clear hw77 hg9 hcell d0 g0
                    go_wp2_with (first
                      | ((with_reducible show wpList _ _ _ (⟨some 91, _, _, _, _, _⟩ :: _) _ _); go_must (refine wpList_loadB AS rfl (.tmp 10) rfl w6.heap.size 0 rfl _ _ HA8.out.1 [.string sd, .bool false] (by simp [splice]) rfl ?_))
                      | ((with_reducible show wpList _ _ _ (⟨none, .store _ (.tmp 4) _, _, _, _, _⟩ :: _) _ _); go_must (refine wpList_storeB AS rfl (.tmp 4) (.tmp 91) rfl H 0 rfl [.string sd, .bool false] rfl rfl _ _ HA8.out.2.2.1 (by simp) (by simp [Value.oneCell']) ?_); intro w8 hB8 hg8 hz8
                         have c0 := hB8.cell 0
                         have c1 := hB8.cell 1
                         simp only [splice, List.take_zero, List.nil_append, List.length_cons, List.length_nil, List.drop_succ_cons, List.drop_zero, List.append_nil, List.getElem?_cons_zero, List.getElem?_cons_succ, Nat.zero_add, List.drop_nil] at c0 c1
                         clear hB8 hz8))
                    refine bodyPost_ret (v := .tuple #[.agg #[.string sd, .bool false], .int .i64 0]) (by simp [results, Tryd.results34, go_sem, c0, c1]) rfl ?_
                    exact ⟨by rw [HD.out.1]; exact ⟨d, HD.out.2.1.1, HD.out.2.1.2, rfl, HD.out.2.2.1, by rw [HD.out.2.2.2]⟩, (HA8.out.2.1).grown hg8 (by have := HA8.out.2.1.size; omega) (fun k hk => by injection hk with hk; have := HW.out.2.2.2; omega)⟩
                  · have hm0 : m = 0 := by omega
                    have b2 : ((m : Int) == 1) = false := by rw [beq_eq_false_iff_ne]; omega
                    have hL0 : L = [] := List.eq_nil_of_length_eq_zero (by rw [← HMM.out]; exact hm0)
                    have hj2 : shapeOf L C = if C.isEmpty = true then .none else .chunked := by rw [hL0]; rfl
                    rw [hj2] at hj
                    have hje : C.isEmpty = !bq := by
                      rw [hbq]
                      have := HQ.out
                      rcases C with _ | ⟨a, r⟩
                      · rw [this]; rfl
                      · have : q = 1 := by rw [this] at hq1 ⊢; simp at hq1 ⊢; omega
                        rw [this]; rfl
                    rw [hje] at hj
                    have HJ2 := Lib.hid hj
                    clear hj hj2 hje hL0 hm0 h0 hm1 hq1 hmq hbq
                    cases bq
                    · have b3 := HBQ.out.symm
                      go_upto_region 14 with (first
                        | ((with_reducible show wpList _ _ _ (⟨some 10, _, _, _, _, _⟩ :: _) _ _); go_must (refine wpList_allocB AS rfl rfl w6.heap.size rfl ?_); intro w66 hB66 hb66 hz66; have HA6 := Lib.hid (And.intro hB66 hb66); clear hB66 hb66 hz66)
                        | ((with_reducible show wpList _ _ _ (⟨none, .store _ (.tmp 10) _, _, _, _, _⟩ :: _) _ _); go_must (refine wpList_storeB AS rfl (.tmp 10) (.tmp 83) rfl w6.heap.size 0 rfl [.string ⟨#[]⟩, .bool false] rfl rfl _ _ HA6.out.1 (by simp) (by simp [Value.oneCell']) ?_); intro w7 hB7 hg7 hz7
                           simp only [splice, List.take_zero, List.nil_append, List.length_cons, List.length_nil, List.drop_succ_cons, List.drop_zero, List.append_nil, Nat.zero_add, List.drop_nil] at hB7
                           have HA7 := Lib.hid (And.intro hB7 (And.intro ((HB6.out.2.1.trans (HA6.out.2.mono HB6.out.2.1.size)).grown hg7 (by have := HB6.out.2.1.size; have := HA6.out.2.size; omega) (fun k hk => by injection hk with hk; have := HB6.out.2.1.size; omega)) (And.intro (HB6.out.1.grow HA6.out.2 |>.grown hg7 (fun e => by injection e with e; have := HB6.out.1.lt; omega)) (HA6.out.2.grown hg7 HA6.out.2.size (fun k hk => by injection hk with hk; omega)))))
                           have d0 := hB7.cell 0
                           have g0 := hB7.frozen 0
                           simp only [List.getElem?_cons_zero] at d0
                           clear hB7 hg7 hz7))
                      go_wp2_with (first
                        | ((with_reducible show wpList _ _ _ (⟨some 91, _, _, _, _, _⟩ :: _) _ _); go_must (refine wpList_loadB AS rfl (.tmp 10) rfl w6.heap.size 0 rfl _ _ HA7.out.1 [.string ⟨#[]⟩, .bool false] (by simp [splice]) rfl ?_))
                        | ((with_reducible show wpList _ _ _ (⟨none, .store _ (.tmp 4) _, _, _, _, _⟩ :: _) _ _); go_must (refine wpList_storeB AS rfl (.tmp 4) (.tmp 91) rfl H 0 rfl [.string ⟨#[]⟩, .bool false] rfl rfl _ _ HA7.out.2.2.1 (by simp) (by simp [Value.oneCell']) ?_); intro w8 hB8 hg8 hz8
                           have c0 := hB8.cell 0
                           have c1 := hB8.cell 1
                           simp only [splice, List.take_zero, List.nil_append, List.length_cons, List.length_nil, List.drop_succ_cons, List.drop_zero, List.append_nil, List.getElem?_cons_zero, List.getElem?_cons_succ, Nat.zero_add, List.drop_nil] at c0 c1
                           clear hB8 hz8))
                      refine bodyPost_ret (v := .tuple #[.agg #[.string ⟨#[]⟩, .bool false], .int .i64 0]) (by simp [results, Tryd.results34, go_sem, c0, c1]) rfl ?_
                      exact ⟨by rw [HJ2.out]; rfl, (HA7.out.2.1).grown hg8 (by have := HA7.out.2.1.size; omega) (fun k hk => by injection hk with hk; have := HW.out.2.2.2; omega)⟩
                    · have b3 := HBQ.out.symm
                      go_upto_region 14 with (first
                        | ((with_reducible show wpList _ _ _ (⟨some 10, _, _, _, _, _⟩ :: _) _ _); go_must (refine wpList_allocB AS rfl rfl w6.heap.size rfl ?_); intro w66 hB66 hb66 hz66; have HA6 := Lib.hid (And.intro hB66 hb66); clear hB66 hb66 hz66)
                        | ((with_reducible show wpList _ _ _ (⟨none, .store _ (.tmp 10) _, _, _, _, _⟩ :: _) _ _); go_must (refine wpList_storeB AS rfl (.tmp 10) (.tmp 83) rfl w6.heap.size 0 rfl [.string ⟨#[]⟩, .bool true] rfl rfl _ _ HA6.out.1 (by simp) (by simp [Value.oneCell']) ?_); intro w7 hB7 hg7 hz7
                           simp only [splice, List.take_zero, List.nil_append, List.length_cons, List.length_nil, List.drop_succ_cons, List.drop_zero, List.append_nil, Nat.zero_add, List.drop_nil] at hB7
                           have HA7 := Lib.hid (And.intro hB7 (And.intro ((HB6.out.2.1.trans (HA6.out.2.mono HB6.out.2.1.size)).grown hg7 (by have := HB6.out.2.1.size; have := HA6.out.2.size; omega) (fun k hk => by injection hk with hk; have := HB6.out.2.1.size; omega)) (And.intro (HB6.out.1.grow HA6.out.2 |>.grown hg7 (fun e => by injection e with e; have := HB6.out.1.lt; omega)) (HA6.out.2.grown hg7 HA6.out.2.size (fun k hk => by injection hk with hk; omega)))))
                           have d0 := hB7.cell 0
                           have g0 := hB7.frozen 0
                           simp only [List.getElem?_cons_zero] at d0
                           clear hB7 hg7 hz7))
                      go_wp2_with (first
                        | ((with_reducible show wpList _ _ _ (⟨some 91, _, _, _, _, _⟩ :: _) _ _); go_must (refine wpList_loadB AS rfl (.tmp 10) rfl w6.heap.size 0 rfl _ _ HA7.out.1 [.string ⟨#[]⟩, .bool true] (by simp [splice]) rfl ?_))
                        | ((with_reducible show wpList _ _ _ (⟨none, .store _ (.tmp 4) _, _, _, _, _⟩ :: _) _ _); go_must (refine wpList_storeB AS rfl (.tmp 4) (.tmp 91) rfl H 0 rfl [.string ⟨#[]⟩, .bool true] rfl rfl _ _ HA7.out.2.2.1 (by simp) (by simp [Value.oneCell']) ?_); intro w8 hB8 hg8 hz8
                           have c0 := hB8.cell 0
                           have c1 := hB8.cell 1
                           simp only [splice, List.take_zero, List.nil_append, List.length_cons, List.length_nil, List.drop_succ_cons, List.drop_zero, List.append_nil, List.getElem?_cons_zero, List.getElem?_cons_succ, Nat.zero_add, List.drop_nil] at c0 c1
                           clear hB8 hz8))
                      refine bodyPost_ret (v := .tuple #[.agg #[.string ⟨#[]⟩, .bool true], .int .i64 0]) (by simp [results, Tryd.results34, go_sem, c0, c1]) rfl ?_
                      exact ⟨by rw [HJ2.out]; rfl, (HA7.out.2.1).grown hg8 (by have := HA7.out.2.1.size; omega) (fun k hk => by injection hk with hk; have := HW.out.2.2.2; omega)⟩
end Go.Proofs.YtojemdggbcklkaaDoor.WireR
