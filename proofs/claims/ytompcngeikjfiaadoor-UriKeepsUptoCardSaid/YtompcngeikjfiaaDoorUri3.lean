/- uri: Escape, the program's and the reference's. -/
import Derived.Test.YtompcngeikjfiaaDoorBldStr
import Derived.Test.YtompcngeikjfiaaDoorRgLite
namespace Go.Proofs.YtompcngeikjfiaaDoor.Uri
open Go.RowKit Go.Proofs.YtompcngeikjfiaaDoor.Mem Go.Proofs.YtompcngeikjfiaaDoor.Seal
set_option linter.unusedVariables false

theorem dig_eq {v : Nat} (h : v < 16) : digsU.getD v 0 = dig v := by
  have h1 : ((List.range 16).all fun v => decide (digsU.getD v 0 = dig v)) = true := by decide +kernel
  exact of_decide_eq_true (below h1 h)
theorem escOne_len (c : UInt8) : (escOne c).length ≤ 3 := by unfold escOne; split <;> simp
theorem esc_len : ∀ (l : List UInt8), (esc l).length ≤ 3 * l.length
  | [] => by simp [esc]
  | c :: r => by
    have h1 := esc_len r
    have h2 := escOne_len c
    unfold esc at *
    rw [List.flatMap_cons, List.length_append, List.length_cons]
    omega
theorem bld_new (w : World) : Bld (w.alloc (.cells #[.pointer none, .slice none 0 0] BT)) w.heap.size w.heap.size [] :=
  .inl ⟨Nat.le_refl _, .slice none 0 0, Blk.new w BT [.pointer none, .slice none 0 0], World.ownsRow_nil _ _ _ _, by simp [Value.ownBlock]⟩
theorem and15 (x : Nat) (h : x < 256) : bits .and .u8 (x : Int) 15 = ((x % 16 : Nat) : Int) := by
  have := u8_and_nat x 15 h (by omega)
  rw [show x &&& 15 = x % 16 from Nat.and_two_pow_sub_one_eq_mod x 4] at this
  exact this

set_option maxRecDepth 4000 in
set_option maxHeartbeats 3200000 in
theorem escape_any (l : List UInt8) (w : World) (hl : l.length ≤ 1073741824) :
    Calls Tryd.prog 13 #[.string ⟨l.toArray⟩] w fun e w' => e = .returned (.string ⟨(esc l).toArray⟩) ∧ Below w.heap.size w w' := by
  obtain ⟨n, hn⟩ : ∃ n, n = l.length := ⟨_, rfl⟩
  have hni : (n : Int) ≤ 1073741824 := by omega
  obtain ⟨s, hs⟩ : ∃ s, s = (⟨l.toArray⟩ : ByteArray) := ⟨_, rfl⟩
  have hsz : s.size = n := by rw [hs, hn]; simp [ByteArray.size]
  rw [← hs]
  have HA := Lib.hid (And.intro hn hs)
  have hnN : n ≤ 1073741824 := by omega
  clear hn hs hl
  obtain ⟨w1, hw1⟩ : ∃ x, x = w.alloc (.cells #[.pointer none, .slice none 0 0] BT) := ⟨_, rfl⟩
  have hB1 : Bld w1 w.heap.size w.heap.size [] := hw1 ▸ bld_new w
  have hb1 : Below w.heap.size w w1 := hw1 ▸ ga (gr w) _
  have HX := Lib.hid (And.intro hB1 hb1)
  clear hB1 hb1
  generalize hH : w.heap.size = H at *
  go_enter Tryd.func13, Tryd.ntmps13
  go_upto_region 3 with fail
  rw [show w.alloc (.cells #[.pointer none, .slice none 0 0] 58) = w1 from hw1.symm]
  go_wp2_with fail
  go_loopw [7] (fun v wr => ∃ k : Nat, k ≤ n ∧ v = .int .i64 k ∧ Bld wr H H (esc (l.take k)) ∧ Below H w wr) (fun v _ => n - (intOf v).toNat)
  case atStart => exact ⟨0, by omega, rfl, HX.out.1, HX.out.2⟩
  case round =>
    clear HX hw1
    obtain ⟨k, hk, rfl, hB, hb⟩ := hrel
    by_cases hlt : k < n
    · have hkl : k < l.length := by have := HA.out.1; omega
      obtain ⟨x, hx⟩ : ∃ x, x = l[k] := ⟨_, rfl⟩
      have hks : k < s.size := by omega
      have hsx : s[k] = x := by rw [hx]; exact str_at HA.out.2 hkl hks
      have hki : (k : Int) < (n : Int) := by omega
      have hk0 : (0 : Int) ≤ (k : Int) := by omega
      have htk := esc_take hkl
      rw [← hx] at htk
      obtain ⟨out, hout⟩ : ∃ out, out = esc (l.take k) := ⟨_, rfl⟩
      have hol : out.length ≤ 3221225472 := by
        have := esc_len (l.take k)
        rw [hout]; rw [List.length_take] at this; omega
      rw [← hout] at hB htk
      have hsz1 := hb.size
      have HB := Lib.hid (And.intro hB (And.intro hb htk))
      clear hB hb htk hx hout hlt
      cases hpl : plainB x.toNat with
      | true =>
        have he1 : escOne x = [x] := by unfold escOne; rw [if_pos hpl]
        have cP := Lib.hid (fun W => plain_any x W)
        rw [hpl] at cP
        have HE := Lib.hid he1
        clear he1 hpl
        go_wp2_with (first
          | (go_at_call 31; go_must (refine (cP.out _).mono ?_); rintro e w2 ⟨rfl, rfl⟩)
          | (go_at_call 32; go_must (refine (writeByte_any H H out x _ HB.out.1 (by omega) (by have := HB.out.2.1.size; omega)).mono ?_); rintro e w3 ⟨rfl, hB3, hb3⟩))
        exact ⟨⟨k + 1, by omega, by go_num, by rw [HB.out.2.2, HE.out]; exact hB3, HB.out.2.1.trans hb3⟩, by simp [intOf]; omega⟩
      | false =>
        obtain ⟨hi, hhi⟩ : ∃ hi, hi = x.toNat / 16 := ⟨_, rfl⟩
        obtain ⟨lo, hlo⟩ : ∃ lo, lo = x.toNat % 16 := ⟨_, rfl⟩
        have hx256 := x.toNat_lt
        have hhi16 : hi < 16 := by omega
        have hlo16 : lo < 16 := by omega
        have he1 : escOne x = [37, dig hi, dig lo] := by unfold escOne; rw [if_neg (by rw [hpl]; decide), hhi, hlo]
        have cP := Lib.hid (fun W => plain_any x W)
        rw [hpl] at cP
        have HE := Lib.hid he1
        have kc1 := fun W => run_str digsU .u8 hi hhi16 W
        have kc2 := fun W => run_str digsU .u8 lo hlo16 W
        rw [dig_eq hhi16] at kc1
        rw [dig_eq hlo16] at kc2
        obtain ⟨d1, hd1⟩ : ∃ d, d = dig hi := ⟨_, rfl⟩
        obtain ⟨d2, hd2⟩ : ∃ d, d = dig lo := ⟨_, rfl⟩
        rw [← hd1] at kc1
        rw [← hd2] at kc2
        unfold digsU at kc1 kc2
        have hdiv : (x.toNat : Int) / 16 = (hi : Int) := by omega
        have hand := and15 x.toNat hx256
        rw [← hlo] at hand
        have HD := Lib.hid (And.intro hd1 hd2)
        clear he1 hpl hhi hlo hd1 hd2 hx256
        go_upto_region 8 with (first
          | (go_at_call 31; go_must (refine (cP.out _).mono ?_); rintro e w2 ⟨rfl, rfl⟩)
          | (go_at_call 32; go_must (refine (writeByte_any H H out 37 _ HB.out.1 (by omega) (by have := HB.out.2.1.size; omega)).mono ?_); rintro e w3 ⟨rfl, hB3, hb3⟩))
        have HB3 := Lib.hid (And.intro hB3 (HB.out.2.1.trans hb3))
        clear hB3 hb3
        go_upto_region 9 with (first
          | (go_at_call 32; go_must (refine (writeByte_any H H (out ++ [37]) d1 _ HB3.out.1 (by simp; omega) (by have := HB3.out.2.size; omega)).mono ?_); rintro e w4 ⟨rfl, hB4, hb4⟩))
        have HB4 := Lib.hid (And.intro hB4 (HB3.out.2.trans hb4))
        clear hB4 hb4
        go_wp2_with (first
          | (go_at_call 32; go_must (refine (writeByte_any H H ((out ++ [37]) ++ [d1]) d2 _ HB4.out.1 (by simp; omega) (by have := HB4.out.2.size; omega)).mono ?_); rintro e w5 ⟨rfl, hB5, hb5⟩))
        refine ⟨⟨k + 1, by omega, by go_num, ?_, HB4.out.2.trans hb5⟩, by simp [intOf]; omega⟩
        rw [HB.out.2.2, HE.out, ← HD.out.1, ← HD.out.2]
        simpa using hB5
    · obtain rfl : k = n := by omega
      rw [List.take_of_length_le (by have := HA.out.1; omega)] at hB
      have hkk : ¬ (k : Int) < (k : Int) := by omega
      have HB := Lib.hid (And.intro hB hb)
      clear hB hb hlt
      go_wp2_with (first
        | (go_at_call 33; go_must (refine (string_any H H _ _ HB.out.1 (by have := HB.out.2.size; omega)).mono ?_); rintro e w5 ⟨rfl, hb5⟩))
      go_ret
      exact ⟨rfl, HB.out.2.trans hb5⟩

theorem run_build3 {P : Program} {t e : TypeId} {z : Value} {by_ : Nat} (E : Elt P t e [z] by_) {ρ : Operand → Value} {w : World} {o : Oper} (x0 x1 x2 : Operand) (ho : o.op = .buildSlice t 3 #[(0, x0), (1, x1), (2, x2)]) (v0 v1 v2 : Value) (h0 : (ρ x0).cells = #[v0]) (h1 : (ρ x1).cells = #[v1]) (h2 : (ρ x2).cells = #[v2]) :
    (execOp ρ o).run P w = .ok (.value (.slice (some ⟨w.heap.size, 0, none⟩) 3 3)) (w.alloc (.cells #[v0, v1, v2] e)) := by
  obtain ⟨i, z', hi, hz, hsz, hby, hcs⟩ := E.inf
  have hsz1 : i.size = 1 := hsz
  have hf : Instr.fill (fun j => some (j * i.size, i.size)) ((Array.range (3 * i.size)).map (z'.cells[· % z'.cells.size]!)) [(0, ρ x0), (1, ρ x1), (2, ρ x2)] = some #[v0, v1, v2] := by
    have := Great.fill_whole (s := i.size) (by omega) [ρ x0, ρ x1, ρ x2] ((Array.range (3 * i.size)).map (z'.cells[· % z'.cells.size]!)) (by
      intro v hv
      simp at hv
      rcases hv with rfl | rfl | rfl
      · rw [h0, hsz1]; rfl
      · rw [h1, hsz1]; rfl
      · rw [h2, hsz1]; rfl) (by simp)
    simp only [List.zipIdx_cons, List.zipIdx_nil, List.map_cons, List.map_nil, List.flatMap_cons, List.flatMap_nil, List.append_nil, h0, h1, h2] at this
    simpa using this
  have hr := run_buildSlice (P := P) w t e 3 #[(0, ρ x0), (1, ρ x1), (2, ρ x2)] #[v0, v1, v2] i z' E.und hi hz (by omega) (by omega) hf
  simp [execOp, ho, hr, Result.andThen]

set_option maxRecDepth 4000 in
set_option maxHeartbeats 3200000 in
theorem rescape_any (l : List UInt8) (w : World) (hl : l.length ≤ 1073741824) :
    Calls Tryd.prog 14 #[.string ⟨l.toArray⟩] w fun e w' => e = .returned (.string ⟨(esc l).toArray⟩) ∧ Below w.heap.size w w' := by
  obtain ⟨n, hn⟩ : ∃ n, n = l.length := ⟨_, rfl⟩
  have hni : (n : Int) ≤ 1073741824 := by omega
  have hn0 : (0 : Int) ≤ (n : Int) := by omega
  obtain ⟨s, hs⟩ : ∃ s, s = (⟨l.toArray⟩ : ByteArray) := ⟨_, rfl⟩
  have hsz : s.size = n := by rw [hs, hn]; simp [ByteArray.size]
  rw [← hs]
  have HA := Lib.hid (And.intro hn hs)
  have hnN : n ≤ 1073741824 := by omega
  clear hn hs hl
  go_enter Tryd.func14, Tryd.ntmps14
  go_wp2_with (first
    | (at_make; go_must (refine wpList_make0 E8 rfl _ _ rfl .i64 .i64 _ n rfl rfl (by first | rfl | omega) (by omega) (by unfold maxLen; omega) w.heap.size (Nat.le_refl _) ?_); intro v w1 hown hv hb1 hz1 hcap))
  have HX := Lib.hid (And.intro hown hb1)
  clear hown hv hb1 hz1 hcap
  go_loopw [4, 5] (fun v4 v wr => ∃ k : Nat, k ≤ n ∧ v = .int .i64 k ∧ wr.ownsRow w.heap.size 5 1 v4 (esc (l.take k)).length ((esc (l.take k)).map bv) ∧ Below w.heap.size w wr) (fun _ v _ => n - (intOf v).toNat)
  case atStart => exact ⟨0, by omega, rfl, HX.out.1, HX.out.2⟩
  case round =>
    clear HX
    obtain ⟨k, hk, rfl, hown, hb⟩ := hrel
    obtain ⟨A6, n6, c6, rfl, hn6⟩ := own_form hown
    by_cases hlt : k < n
    · have hkl : k < l.length := by have := HA.out.1; omega
      obtain ⟨x, hx⟩ : ∃ x, x = l[k] := ⟨_, rfl⟩
      have hks : k < s.size := by omega
      have hsx : s[k] = x := by rw [hx]; exact str_at HA.out.2 hkl hks
      have hki : (k : Int) < (n : Int) := by omega
      have hk0 : (0 : Int) ≤ (k : Int) := by omega
      have htk := esc_take hkl
      rw [← hx] at htk
      obtain ⟨out, hout⟩ : ∃ out, out = esc (l.take k) := ⟨_, rfl⟩
      have hol : out.length ≤ 3221225472 := by
        have := esc_len (l.take k)
        rw [hout]; rw [List.length_take] at this; omega
      rw [← hout] at hown htk
      have HB := Lib.hid (And.intro hown (And.intro hb htk))
      clear hown hb htk hx hout hlt hn6
      cases hpl : plainB x.toNat with
      | true =>
        have he1 : escOne x = [x] := by unfold escOne; rw [if_pos hpl]
        have cP := Lib.hid (fun W => rplain_any x W)
        rw [hpl] at cP
        have HE := Lib.hid he1
        clear he1 hpl
        go_wp2_with (first
          | (go_at_call 34; go_must (refine (cP.out _).mono ?_); rintro e w2 ⟨rfl, rfl⟩)
          | ((with_reducible show wpList _ _ _ (⟨some 23, _, _, _, _, _⟩ :: _) _ _); go_must (refine wpList_one E8 rfl _ rfl (by decide) [bv x] rfl rfl wr.heap.size rfl ?_); intro w3 hB3 hb3)
          | ((with_reducible show wpList _ _ _ (⟨some 24, _, _, _, _, _⟩ :: _) _ _); go_must (refine wpList_pushB E8 rfl _ _ rfl (gt HB.out.2.1 hb3) (own_belowB HB.out.1 hb3) rfl wr.heap.size rfl x hB3 (by omega) ?_); intro v4 w4 hown4 hb4))
        refine ⟨⟨k + 1, by omega, by go_num, ?_, hb4⟩, by simp [intOf]; omega⟩
        rw [HB.out.2.2, HE.out, List.length_append]
        exact hown4
      | false =>
        obtain ⟨hi, hhi⟩ : ∃ hi, hi = x.toNat / 16 := ⟨_, rfl⟩
        obtain ⟨lo, hlo⟩ : ∃ lo, lo = x.toNat % 16 := ⟨_, rfl⟩
        have hx256 := x.toNat_lt
        have hhi16 : hi < 16 := by omega
        have hlo16 : lo < 16 := by omega
        have he1 : escOne x = [37, dig hi, dig lo] := by unfold escOne; rw [if_neg (by rw [hpl]; decide), hhi, hlo]
        have cP := Lib.hid (fun W => rplain_any x W)
        rw [hpl] at cP
        have HE := Lib.hid he1
        have kc1 := fun W => run_str digsU .u8 hi hhi16 W
        have kc2 := fun W => run_str digsU .u8 lo hlo16 W
        rw [dig_eq hhi16] at kc1
        rw [dig_eq hlo16] at kc2
        obtain ⟨d1, hd1⟩ : ∃ d, d = dig hi := ⟨_, rfl⟩
        obtain ⟨d2, hd2⟩ : ∃ d, d = dig lo := ⟨_, rfl⟩
        rw [← hd1] at kc1
        rw [← hd2] at kc2
        obtain ⟨sd, hsd⟩ : ∃ sd, sd = (⟨#[48, 49, 50, 51, 52, 53, 54, 55, 56, 57, 65, 66, 67, 68, 69, 70]⟩ : ByteArray) := ⟨_, rfl⟩
        unfold digsU at kc1 kc2
        have hdiv : IntKind.u8.wrap ((x.toNat : Int) / 16) = (hi : Int) := by simp [IntKind.wrap, IntKind.bits, IntKind.signed]; omega
        have hdiv2 : IntKind.u8.wrap ((x.toNat : Int).tdiv 16) = (hi : Int) := by rw [Int.tdiv_eq_ediv_of_nonneg (by omega)]; exact hdiv
        have hmod : (x.toNat : Int).tmod 16 = (lo : Int) := by rw [Int.tmod_eq_emod_of_nonneg (by omega)]; omega
        have hmod2 : IntKind.u8.wrap (lo : Int) = (lo : Int) := by simp [IntKind.wrap, IntKind.bits, IntKind.signed]; omega
        have HD := Lib.hid (And.intro hd1 hd2)
        clear he1 hpl hhi hlo hd1 hd2 hx256 hsd
        go_upto_region 8 with (first
          | (go_at_call 34; go_must (refine (cP.out _).mono ?_); rintro e w2 ⟨rfl, rfl⟩))
        try simp only [Act.put, List.setIfInBounds_toArray, List.set_cons_succ, List.set_cons_zero]
        refine wp_region_rrT (fun a b => Below a.heap.size a b) (fun _ _ _ h g => gt h g) (fun _ _ h => h.size) (fun a => (gr a).drew) 14
          [.eq 25 (.slice A6 n6 c6), .eq 26 (.string ⟨#[48, 49, 50, 51, 52, 53, 54, 55, 56, 57, 65, 66, 67, 68, 69, 70]⟩), .eq 27 (.string s), .eq 28 (.int .i64 (k : Int)), .eq 29 (bv x), .eq 30 (.int .u8 (hi : Int)), .eq 31 (bv d1), .eq 32 (.string ⟨#[48, 49, 50, 51, 52, 53, 54, 55, 56, 57, 65, 66, 67, 68, 69, 70]⟩), .eq 33 (.string s), .eq 34 (.int .i64 (k : Int)), .eq 35 (bv x), .eq 36 (.int .u8 (lo : Int)), .eq 37 (bv d2), .new 38 (NewRow wr.heap.size 5 [bv 37, bv d1, bv d2] 3)]
          (by kernel_rfl) (by kernel_rfl) (by kernel_rfl) (by kernel_rfl) ?hsta ?hoba ?hfina
        case hsta =>
          intro s hs
          simp only [List.mem_cons, List.not_mem_nil, or_false] at hs
          rcases hs with rfl | rfl | rfl | rfl | rfl | rfl | rfl | rfl | rfl | rfl | rfl | rfl | rfl | rfl
          · exact fun _ _ _ h _ => h
          · exact fun _ _ _ h _ => h
          · exact fun _ _ _ h _ => h
          · exact fun _ _ _ h _ => h
          · exact fun _ _ _ h _ => h
          · exact fun _ _ _ h _ => h
          · exact fun _ _ _ h _ => h
          · exact fun _ _ _ h _ => h
          · exact fun _ _ _ h _ => h
          · exact fun _ _ _ h _ => h
          · exact fun _ _ _ h _ => h
          · exact fun _ _ _ h _ => h
          · exact fun _ _ _ h _ => h
          · rintro vs w1 w2 ⟨v, rfl, h⟩ hb
            exact ⟨_, rfl, NewRow.stable h hb⟩
        case hoba =>
          simp only [List.take_succ_cons, List.take_zero]
          refine rrs_cons ?_ (rrs_cons ?_ (rrs_cons ?_ (rrs_cons ?_ (rrs_cons ?_ (rrs_cons ?_ (rrs_cons ?_ (rrs_cons ?_ (rrs_cons ?_ (rrs_cons ?_ (rrs_cons ?_ (rrs_cons ?_ (rrs_cons ?_ (rrs_cons ?_ rrs_nil)))))))))))))
          · refine rr_eq gr (by decide) (by rfl) (by rfl) fun x w' A hg hp hA => ?_
            have e4 := hA 4
            simp [rgDsts] at e4
            go_simp
          · refine rr_eq gr (by decide) (by rfl) (by rfl) fun x w' A hg hp hA => ?_
            have e3 := hA 3
            simp [rgDsts] at e3
            go_simp
          · refine rr_eq gr (by decide) (by rfl) (by rfl) fun x w' A hg hp hA => ?_
            have e0 := hA 0
            simp [rgDsts] at e0
            go_simp
          · refine rr_eq gr (by decide) (by rfl) (by rfl) fun x w' A hg hp hA => ?_
            have e5 := hA 5
            simp [rgDsts] at e5
            go_simp
          · refine rr_eq gr (by decide) (by rfl) (by rfl) fun x w' A hg hp hA => ?_
            have h27 := rg_pred_eq (d := 27) hp 0 rfl rfl rfl
            have h28 := rg_pred_eq (d := 28) hp 1 rfl rfl rfl
            have e27 := (hA.at_ 27 rfl).trans h27
            have e28 := (hA.at_ 28 rfl).trans h28
            go_simp
          · refine rr_eq gr (by decide) (by rfl) (by rfl) fun x w' A hg hp hA => ?_
            have h29 := rg_pred_eq (d := 29) hp 0 rfl rfl rfl
            have e29 := (hA.at_ 29 rfl).trans h29
            go_simp
          · refine rr_eq gr (by decide) (by rfl) (by rfl) fun x w' A hg hp hA => ?_
            have h26 := rg_pred_eq (d := 26) hp 0 rfl rfl rfl
            have h30 := rg_pred_eq (d := 30) hp 1 rfl rfl rfl
            have e26 := (hA.at_ 26 rfl).trans h26
            have e30 := (hA.at_ 30 rfl).trans h30
            go_simp
          · refine rr_eq gr (by decide) (by rfl) (by rfl) fun x w' A hg hp hA => ?_
            have e3 := hA 3
            simp [rgDsts] at e3
            go_simp
          · refine rr_eq gr (by decide) (by rfl) (by rfl) fun x w' A hg hp hA => ?_
            have e0 := hA 0
            simp [rgDsts] at e0
            go_simp
          · refine rr_eq gr (by decide) (by rfl) (by rfl) fun x w' A hg hp hA => ?_
            have e5 := hA 5
            simp [rgDsts] at e5
            go_simp
          · refine rr_eq gr (by decide) (by rfl) (by rfl) fun x w' A hg hp hA => ?_
            have h33 := rg_pred_eq (d := 33) hp 0 rfl rfl rfl
            have h34 := rg_pred_eq (d := 34) hp 1 rfl rfl rfl
            have e33 := (hA.at_ 33 rfl).trans h33
            have e34 := (hA.at_ 34 rfl).trans h34
            go_simp
          · refine rr_eq gr (by decide) (by rfl) (by rfl) fun x w' A hg hp hA => ?_
            have h35 := rg_pred_eq (d := 35) hp 0 rfl rfl rfl
            have e35 := (hA.at_ 35 rfl).trans h35
            go_simp
          · refine rr_eq gr (by decide) (by rfl) (by rfl) fun x w' A hg hp hA => ?_
            have h32 := rg_pred_eq (d := 32) hp 0 rfl rfl rfl
            have h36 := rg_pred_eq (d := 36) hp 1 rfl rfl rfl
            have e32 := (hA.at_ 32 rfl).trans h32
            have e36 := (hA.at_ 36 rfl).trans h36
            go_simp
          · refine rr_val (by decide) (by rfl) fun x w' A hg hp hA => ?_
            have h31 := rg_pred_eq (d := 31) hp 0 rfl rfl rfl
            have h37 := rg_pred_eq (d := 37) hp 1 rfl rfl rfl
            have e31 := (hA.at_ 31 rfl).trans h31
            have e37 := (hA.at_ 37 rfl).trans h37
            refine ⟨_, _, run_build3 E8 _ _ _ rfl (bv 37) (bv d1) (bv d2) rfl (by simp [Act.eval, e31, Value.cells]) (by simp [Act.eval, e37, Value.cells]), ga (gr _) _, ?_, ?_⟩
            · rw [holds_new]; simp only [rgUpd, if_true]; exact ⟨_, rfl, hg.size, Blk.new _ _ _⟩
            · simp [rgUpd, Sp.own, Sp.new, blockOf]
        case hfina =>
        intro x w8 hg hall hap
        simp only [RgAll, holds_eq, holds_new, holds_one, and_true] at hall
        obtain ⟨h25, h26, h27, h28, h29, h30, h31, h32, h33, h34, h35, h36, h37, h38⟩ := hall
        obtain ⟨g38, h38, hg38, hB38⟩ := h38
        simp only [rgDsts, List.take_succ_cons, List.take_zero, List.filterMap_cons, List.filterMap_nil, putMany, List.foldl_cons, List.foldl_nil, List.setIfInBounds_toArray, List.set_cons_succ, List.set_cons_zero, List.drop_succ_cons, List.drop_zero, h25, h26, h27, h28, h29, h30, h31, h32, h33, h34, h35, h36, h37, h38]
        clear h25 h26 h27 h28 h29 h30 h31 h32 h33 h34 h35 h36 h37 h38
        have hb8 := gt HB.out.2.1 hg
        have hown8 := own_belowB HB.out.1 hg
        go_wp2_with (first
          | ((with_reducible show wpList _ _ _ (⟨some 39, _, _, _, _, _⟩ :: _) _ _); go_must (refine wpList_app E8 rfl _ _ rfl w.heap.size (.slice A6 n6 c6) out.length (out.map bv) rfl hown8 (some ⟨g38, 0, none⟩) 3 3 [bv 37, bv d1, bv d2] rfl hB38.rv rfl (by intro u hu; simp at hu; rcases hu with rfl | rfl | rfl <;> rfl) (by unfold maxLen; omega) (by omega) hb8.size ?_); intro v4 w4 hown4 hg4 _))
        refine ⟨⟨k + 1, by omega, by go_num, ?_, below_own hb8 hown8 hg4 hb8.size⟩, by simp [intOf]; omega⟩
        rw [HB.out.2.2, HE.out, ← HD.out.1, ← HD.out.2, List.length_append, List.map_append]
        exact hown4
    · obtain rfl : k = n := by omega
      rw [List.take_of_length_le (by have := HA.out.1; omega)] at hown hn6
      have hcv := own_str hown hn6 (r := esc l) rfl
      have hkk : ¬ (k : Int) < (k : Int) := by omega
      have HB := Lib.hid hb
      clear hown hb hlt hn6
      go_wp2_with fail
      go_ret
      exact ⟨rfl, HB.out⟩
end Go.Proofs.YtompcngeikjfiaaDoor.Uri
