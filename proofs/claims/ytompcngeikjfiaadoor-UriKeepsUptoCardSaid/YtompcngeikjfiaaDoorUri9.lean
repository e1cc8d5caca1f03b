/- uri: the reference's Query. -/
import Derived.Test.YtompcngeikjfiaaDoorUri8
namespace Go.Proofs.YtompcngeikjfiaaDoor.Uri
open Go.RowKit Go.Proofs.YtompcngeikjfiaaDoor.Mem Go.Proofs.YtompcngeikjfiaaDoor.Seal Go.Proofs.YtompcngeikjfiaaDoor.Strs Go.Proofs.YtompcngeikjfiaaDoor.Split
set_option linter.unusedVariables false

theorem E51 : Elt Tryd.prog 31 51 [.string ⟨#[]⟩, .string ⟨#[]⟩] 32 := Elt.mkN (z := .agg #[.string ⟨#[]⟩, .string ⟨#[]⟩]) Tryd.underlying31 (by kernel_rfl) rfl (by decide)
/-- where the reference's loop stands: f: where the piece under way begins; k: the byte to come -/
def At (l : List UInt8) (f k : Nat) (pre : List (List UInt8)) : Prop :=
  f ≤ k ∧ k ≤ l.length + 1 ∧ (k ≤ l.length → splitL 38 l = pre ++ splitL 38 (l.drop f) ∧ (38 : UInt8) ∉ (l.drop f).take (k - f)) ∧ (k = l.length + 1 → pre = splitL 38 l)
theorem at_start (l : List UInt8) : At l 0 0 [] := ⟨Nat.le_refl _, by omega, fun _ => ⟨by simp, by simp⟩, fun h => by omega⟩
theorem at_on {l : List UInt8} {f k : Nat} {pre : List (List UInt8)} (h : At l f k pre) (hk : k < l.length) (hx : ¬ l[k] = 38) : At l f (k + 1) pre := by
  obtain ⟨h1, h2, h3, h4⟩ := h
  obtain ⟨h5, h6⟩ := h3 (by omega)
  refine ⟨by omega, by omega, fun _ => ⟨h5, ?_⟩, fun e => by omega⟩
  rw [show k + 1 - f = (k - f) + 1 by omega, take_succ_ (by rw [List.length_drop]; omega), List.mem_append, List.mem_singleton]
  rintro (h | h)
  · exact h6 h
  · rw [List.getElem_drop] at h
    simp only [show f + (k - f) = k by omega] at h
    exact hx h.symm
/-- the piece that ends at k -/
def pc (l : List UInt8) (f k : Nat) : List UInt8 := (l.drop f).take (k - f)
theorem at_cut {l : List UInt8} {f k : Nat} {pre : List (List UInt8)} (h : At l f k pre) (hk : k < l.length) (hx : l[k] = 38) : At l (k + 1) (k + 1) (pre ++ [pc l f k]) := by
  obtain ⟨h1, h2, h3, h4⟩ := h
  obtain ⟨h5, h6⟩ := h3 (by omega)
  change (38 : UInt8) ∉ pc l f k at h6
  have e : l.drop f = pc l f k ++ 38 :: l.drop (k + 1) := by
    unfold pc
    conv => lhs; rw [← List.take_append_drop (k - f) (l.drop f)]
    rw [List.drop_drop, show f + (k - f) = k by omega, List.drop_eq_getElem_cons hk, hx]
  refine ⟨Nat.le_refl _, by omega, fun _ => ⟨?_, by simp⟩, fun e => by omega⟩
  rw [h5]
  conv => lhs; rw [e, splitL_some (cutL_of h6)]
  simp
theorem at_end {l : List UInt8} {f : Nat} {pre : List (List UInt8)} (h : At l f l.length pre) : At l (l.length + 1) (l.length + 1) (pre ++ [pc l f l.length]) := by
  obtain ⟨h1, h2, h3, h4⟩ := h
  obtain ⟨h5, h6⟩ := h3 (by omega)
  change (38 : UInt8) ∉ pc l f l.length at h6
  have e : l.drop f = pc l f l.length := by unfold pc; rw [List.take_of_length_le (by rw [List.length_drop]; omega)]
  refine ⟨Nat.le_refl _, by omega, fun h => by omega, fun _ => ?_⟩
  rw [h5]
  conv => rhs; rw [e, splitL_none (cutL_not h6)]
theorem at_pre {l : List UInt8} {f k : Nat} {pre : List (List UInt8)} (h : At l f k pre) : pre <+: splitL 38 l := by
  obtain ⟨h1, h2, h3, h4⟩ := h
  by_cases hk : k ≤ l.length
  · exact ⟨_, (h3 hk).1.symm⟩
  · rw [h4 (by omega)]; exact List.prefix_refl _
theorem pc_ext (l : List UInt8) {f k : Nat} (h : f ≤ k) (hk : k ≤ l.length) : (⟨l.toArray⟩ : ByteArray).extract f k = ⟨(pc l f k).toArray⟩ := by
  rw [Lib.extract_eq]
  simp only
  congr 1

set_option maxRecDepth 4000 in
set_option maxHeartbeats 3200000 in
theorem rquery_any (l : List UInt8) (w : World) (hl : l.length ≤ 1073741824) :
    Calls Tryd.prog 15 #[.string ⟨l.toArray⟩] w (QPost w (queryL l)) := by
  obtain ⟨n, hn⟩ : ∃ n, n = l.length := ⟨_, rfl⟩
  have hni : (n : Int) ≤ 1073741824 := by omega
  obtain ⟨s, hs⟩ : ∃ s, s = (⟨l.toArray⟩ : ByteArray) := ⟨_, rfl⟩
  have hsz : s.size = n := by rw [hs, hn]; simp [ByteArray.size]
  rw [← hs]
  have HA := Lib.hid (And.intro hn hs)
  clear hn hs hl
  go_enter Tryd.func15, Tryd.ntmps15
  go_wp2_with fail
  go_loopw [4, 5, 6] (fun v4 v5 v6 wr => ∃ (f k : Nat) (pre : List (List UInt8)) (hs : List PD), v5 = .int .i64 f ∧ v6 = .int .i64 k ∧ At l f k pre ∧ queryP pre = some hs ∧ wr.ownsRow w.heap.size 51 2 v4 hs.length (hs.flatMap PD.cells) ∧ Below w.heap.size w wr) (fun _ _ v _ => n + 1 - (intOf v).toNat)
  case atStart => exact ⟨0, 0, [], [], rfl, rfl, at_start l, rfl, World.ownsRow_nil w _ _ _, gr w⟩
  case round =>
    obtain ⟨f, k, pre, hs, rfl, rfl, hat, hq, hown, hb⟩ := hrel
    obtain ⟨A4, n4, c4, rfl, hn4⟩ := own_form hown
    have hfk := hat.1
    have hkn : k ≤ n + 1 := by have := hat.2.1; have := HA.out.1; omega
    have hk0 : (0 : Int) ≤ (k : Int) := by omega
    have hf0 : (0 : Int) ≤ (f : Int) := by omega
    have hsl : hs.length ≤ 1073741825 := by
      have h1 := queryP_len hq
      have h2 := (at_pre hat).length_le
      have h3 := splitL_len 38 l
      have := HA.out.1
      omega
    have HX := Lib.hid (And.intro hat (And.intro hq (And.intro hown (And.intro hb hn4))))
    clear hat hq hown hb hn4
    by_cases hend : k = n + 1
    · have hki : ¬ (k : Int) ≤ (n : Int) := by omega
      have hpre := HX.out.1.2.2.2 (by rw [← HA.out.1]; exact hend)
      have HF := Lib.hid hpre
      clear hend hpre
      go_wp2_with fail
      go_ret2
      obtain ⟨hat, hq, hown, hb, hn4⟩ := HX.out
      unfold QPost queryL
      rw [← HF.out, hq]
      exact ⟨⟨_, rfl, hown⟩, hb⟩
    · have hki : (k : Int) ≤ (n : Int) := by omega
      have hfi : (f : Int) ≤ (k : Int) := by omega
      have hex := pc_ext l hfk (by have := HA.out.1; omega)
      rw [← HA.out.2] at hex
      by_cases hlt : k < n
      · have hkl : k < l.length := by have := HA.out.1; omega
        obtain ⟨x, hx⟩ : ∃ x, x = l[k] := ⟨_, rfl⟩
        have hks : k < s.size := by omega
        have hsx : s[k] = x := by rw [hx]; exact str_at HA.out.2 hkl hks
        have hk1 : (k : Int) < (n : Int) := by omega
        by_cases h38 : x = 38
        · have hxi : (x.toNat : Int) = 38 := by rw [h38]; rfl
          have hat2 := at_cut HX.out.1 hkl (by rw [← hx]; exact h38)
          clear hend hlt h38 hx hkl
          have HT := Lib.hid (And.intro hat2 hex)
          obtain ⟨p, hp⟩ : ∃ p, p = pc l f k := ⟨_, rfl⟩
          rw [← hp] at hex
          have hpl : p.length ≤ 1073741824 := by
            have := splitL_piece 38 l p ((at_pre hat2).subset (by rw [hp]; simp))
            have := HA.out.1
            omega
          rw [← hp] at HT hat2
          clear hat2 hfk hkn hp
          by_cases hp0 : p = []
          · subst hp0
            go_wp2_with fail
            obtain ⟨hat, hq, hown, hb, hn4⟩ := HX.out
            exact ⟨⟨k + 1, k + 1, _, hs, by go_num, by go_num, HT.out.1, by rw [queryP_skip]; exact hq, hown, hb⟩, by simp [intOf] <;> omega⟩
          · have hc := cutR_len 61 p
            obtain ⟨n1, hn1⟩ : ∃ n, n = (cutR 61 p).1 := ⟨_, rfl⟩
            obtain ⟨n2, hn2⟩ : ∃ n, n = (cutR 61 p).2 := ⟨_, rfl⟩
            have cC := Lib.hid (fun W => rcut_any p 61 W (by omega))
            have cU1 := Lib.hid (fun W => runescape_any n1 true W (by rw [hn1]; omega))
            have cU2 := Lib.hid (fun W => runescape_any n2 true W (by rw [hn2]; omega))
            have HN := Lib.hid (And.intro hn1 (And.intro hn2 hp0))
            have hx1 : (p == []) = false := by simpa using hp0
            clear hn1 hn2 hc hp0 hpl
            cases hu1 : unesc true n1 with
            | none =>
              have HU := Lib.hid hu1
              rw [hu1] at cU1
              clear hu1
              cases hu2 : unesc true n2 with
              | none =>
                rw [hu2] at cU2
                clear hu2
                go_wp2_with (first
                      | (go_at_call 35; go_must (refine (cC.out _).mono ?_); rintro e w1 ⟨rfl, hb1⟩; rw [← HN.out.1, ← HN.out.2.1]; unfold strOf)
                      | (go_at_call 11; refine (cU1.out _).mono ?_; clear cU1; rintro e w2 ⟨rfl, hb2⟩)
                      | (go_at_call 11; refine (cU2.out _).mono ?_; clear cU2; rintro e w3 ⟨rfl, hb3⟩))
                go_ret2
                unfold QPost queryL
                rw [queryP_stop (queryP_bad HN.out.2.2 (pairOf_none1 (by rw [← HN.out.1]; exact HU.out))) (at_pre HT.out.1)]
                exact ⟨rfl, gt (gt (gt HX.out.2.2.2.1 hb1) hb2) hb3⟩

              | some r2 =>
                rw [hu2] at cU2
                clear hu2
                go_wp2_with (first
                      | (go_at_call 35; go_must (refine (cC.out _).mono ?_); rintro e w1 ⟨rfl, hb1⟩; rw [← HN.out.1, ← HN.out.2.1]; unfold strOf)
                      | (go_at_call 11; refine (cU1.out _).mono ?_; clear cU1; rintro e w2 ⟨rfl, hb2⟩)
                      | (go_at_call 11; refine (cU2.out _).mono ?_; clear cU2; rintro e w3 ⟨rfl, hb3⟩))
                go_ret2
                unfold QPost queryL
                rw [queryP_stop (queryP_bad HN.out.2.2 (pairOf_none1 (by rw [← HN.out.1]; exact HU.out))) (at_pre HT.out.1)]
                exact ⟨rfl, gt (gt (gt HX.out.2.2.2.1 hb1) hb2) hb3⟩

            | some r1 =>
              have HU := Lib.hid hu1
              rw [hu1] at cU1
              clear hu1
              cases hu2 : unesc true n2 with
              | none =>
                have HU2 := Lib.hid hu2
                rw [hu2] at cU2
                clear hu2
                go_wp2_with (first
                      | (go_at_call 35; go_must (refine (cC.out _).mono ?_); rintro e w1 ⟨rfl, hb1⟩; rw [← HN.out.1, ← HN.out.2.1]; unfold strOf)
                      | (go_at_call 11; refine (cU1.out _).mono ?_; clear cU1; rintro e w2 ⟨rfl, hb2⟩)
                      | (go_at_call 11; refine (cU2.out _).mono ?_; clear cU2; rintro e w3 ⟨rfl, hb3⟩))
                go_ret2
                unfold QPost queryL
                rw [queryP_stop (queryP_bad HN.out.2.2 (pairOf_none2 (by rw [← HN.out.2.1]; exact HU2.out))) (at_pre HT.out.1)]
                exact ⟨rfl, gt (gt (gt HX.out.2.2.2.1 hb1) hb2) hb3⟩

              | some r2 =>
                have HU2 := Lib.hid hu2
                rw [hu2] at cU2
                clear hu2
                go_wp2_with (first
                      | (go_at_call 35; go_must (refine (cC.out _).mono ?_); rintro e w1 ⟨rfl, hb1⟩; rw [← HN.out.1, ← HN.out.2.1]; unfold strOf)
                      | (go_at_call 11; refine (cU1.out _).mono ?_; clear cU1; rintro e w2 ⟨rfl, hb2⟩)
                      | (go_at_call 11; refine (cU2.out _).mono ?_; clear cU2; rintro e w3 ⟨rfl, hb3⟩)
                      | ((with_reducible show wpList _ _ _ (⟨some 63, _, _, _, _, _⟩ :: _) _ _); go_must (refine wpList_one E51 rfl (.tmp 62) rfl (by decide) [.string ⟨r1.toArray⟩, .string ⟨r2.toArray⟩] rfl rfl w3.heap.size rfl ?_); intro w4 hB4 hb4)
                      | ((with_reducible show wpList _ _ _ (⟨some 64, _, _, _, _, _⟩ :: _) _ _); go_must (refine wpList_app E51 rfl (.tmp 59) (.tmp 63) rfl w.heap.size (.slice A4 n4 c4) hs.length (hs.flatMap PD.cells) (by go_simp) (own_belowB (own_belowB (own_belowB (own_belowB HX.out.2.2.1 hb1) hb2) hb3) hb4) (some ⟨w3.heap.size, 0, none⟩) 1 1 [.string ⟨r1.toArray⟩, .string ⟨r2.toArray⟩] rfl hB4.rv rfl (by intro u hu; simp at hu; rcases hu with rfl | rfl <;> rfl) (by unfold maxLen; omega) (by omega) (by have := HX.out.2.2.2.1.size; have := hb1.size; have := hb2.size; have := hb3.size; have := hb4.size; omega) ?_); intro v5 w5 hown5 hg5 _))
                have hqq := queryP_more HN.out.2.2 HX.out.2.1 (pairOf_some (by rw [← HN.out.1]; exact HU.out) (by rw [← HN.out.2.1]; exact HU2.out))
                refine ⟨⟨k + 1, k + 1, _, _, by go_num, by go_num, HT.out.1, hqq, ?_, ?_⟩, by simp [intOf] <;> omega⟩
                · simpa [PD.cells] using hown5
                · have hB := gt (gt (gt (gt HX.out.2.2.2.1 hb1) hb2) hb3) hb4
                  exact below_own hB (own_belowB (own_belowB (own_belowB (own_belowB HX.out.2.2.1 hb1) hb2) hb3) hb4) hg5 hB.size

        · have hxi : ¬ (x.toNat : Int) = 38 := by intro e; exact h38 (UInt8.toNat_inj.1 (by have : (38 : UInt8).toNat = 38 := rfl; omega))
          have hat2 := at_on HX.out.1 hkl (by rw [← hx]; exact h38)
          have HT := Lib.hid hat2
          clear hat2 hend hlt h38 hx hkl hex
          go_wp2_with fail
          obtain ⟨hat, hq, hown, hb, hn4⟩ := HX.out
          exact ⟨⟨f, k + 1, pre, hs, rfl, by go_num, HT.out, hq, hown, hb⟩, by simp [intOf] <;> omega⟩
      · obtain rfl : k = n := by omega
        have hk1 : ¬ (k : Int) < (k : Int) := by omega
        have hat2 := at_end (by have := HX.out.1; rw [HA.out.1] at this; exact this)
        rw [← HA.out.1] at hat2
        clear hend hlt
        have HT := Lib.hid (And.intro hat2 hex)
        obtain ⟨p, hp⟩ : ∃ p, p = pc l f k := ⟨_, rfl⟩
        rw [← hp] at hex
        have hpl : p.length ≤ 1073741824 := by
          have := splitL_piece 38 l p ((at_pre hat2).subset (by rw [hp]; simp))
          have := HA.out.1
          omega
        rw [← hp] at HT hat2
        clear hat2 hfk hkn hp
        by_cases hp0 : p = []
        · subst hp0
          go_wp2_with fail
          obtain ⟨hat, hq, hown, hb, hn4⟩ := HX.out
          exact ⟨⟨k + 1, k + 1, _, hs, by go_num, by go_num, HT.out.1, by rw [queryP_skip]; exact hq, hown, hb⟩, by simp [intOf] <;> omega⟩
        · have hc := cutR_len 61 p
          obtain ⟨n1, hn1⟩ : ∃ n, n = (cutR 61 p).1 := ⟨_, rfl⟩
          obtain ⟨n2, hn2⟩ : ∃ n, n = (cutR 61 p).2 := ⟨_, rfl⟩
          have cC := Lib.hid (fun W => rcut_any p 61 W (by omega))
          have cU1 := Lib.hid (fun W => runescape_any n1 true W (by rw [hn1]; omega))
          have cU2 := Lib.hid (fun W => runescape_any n2 true W (by rw [hn2]; omega))
          have HN := Lib.hid (And.intro hn1 (And.intro hn2 hp0))
          have hx1 : (p == []) = false := by simpa using hp0
          clear hn1 hn2 hc hp0 hpl
          cases hu1 : unesc true n1 with
          | none =>
            have HU := Lib.hid hu1
            rw [hu1] at cU1
            clear hu1
            cases hu2 : unesc true n2 with
            | none =>
              rw [hu2] at cU2
              clear hu2
              go_wp2_with (first
                    | (go_at_call 35; go_must (refine (cC.out _).mono ?_); rintro e w1 ⟨rfl, hb1⟩; rw [← HN.out.1, ← HN.out.2.1]; unfold strOf)
                    | (go_at_call 11; refine (cU1.out _).mono ?_; clear cU1; rintro e w2 ⟨rfl, hb2⟩)
                    | (go_at_call 11; refine (cU2.out _).mono ?_; clear cU2; rintro e w3 ⟨rfl, hb3⟩))
              go_ret2
              unfold QPost queryL
              rw [queryP_stop (queryP_bad HN.out.2.2 (pairOf_none1 (by rw [← HN.out.1]; exact HU.out))) (at_pre HT.out.1)]
              exact ⟨rfl, gt (gt (gt HX.out.2.2.2.1 hb1) hb2) hb3⟩

            | some r2 =>
              rw [hu2] at cU2
              clear hu2
              go_wp2_with (first
                    | (go_at_call 35; go_must (refine (cC.out _).mono ?_); rintro e w1 ⟨rfl, hb1⟩; rw [← HN.out.1, ← HN.out.2.1]; unfold strOf)
                    | (go_at_call 11; refine (cU1.out _).mono ?_; clear cU1; rintro e w2 ⟨rfl, hb2⟩)
                    | (go_at_call 11; refine (cU2.out _).mono ?_; clear cU2; rintro e w3 ⟨rfl, hb3⟩))
              go_ret2
              unfold QPost queryL
              rw [queryP_stop (queryP_bad HN.out.2.2 (pairOf_none1 (by rw [← HN.out.1]; exact HU.out))) (at_pre HT.out.1)]
              exact ⟨rfl, gt (gt (gt HX.out.2.2.2.1 hb1) hb2) hb3⟩

          | some r1 =>
            have HU := Lib.hid hu1
            rw [hu1] at cU1
            clear hu1
            cases hu2 : unesc true n2 with
            | none =>
              have HU2 := Lib.hid hu2
              rw [hu2] at cU2
              clear hu2
              go_wp2_with (first
                    | (go_at_call 35; go_must (refine (cC.out _).mono ?_); rintro e w1 ⟨rfl, hb1⟩; rw [← HN.out.1, ← HN.out.2.1]; unfold strOf)
                    | (go_at_call 11; refine (cU1.out _).mono ?_; clear cU1; rintro e w2 ⟨rfl, hb2⟩)
                    | (go_at_call 11; refine (cU2.out _).mono ?_; clear cU2; rintro e w3 ⟨rfl, hb3⟩))
              go_ret2
              unfold QPost queryL
              rw [queryP_stop (queryP_bad HN.out.2.2 (pairOf_none2 (by rw [← HN.out.2.1]; exact HU2.out))) (at_pre HT.out.1)]
              exact ⟨rfl, gt (gt (gt HX.out.2.2.2.1 hb1) hb2) hb3⟩

            | some r2 =>
              have HU2 := Lib.hid hu2
              rw [hu2] at cU2
              clear hu2
              go_wp2_with (first
                    | (go_at_call 35; go_must (refine (cC.out _).mono ?_); rintro e w1 ⟨rfl, hb1⟩; rw [← HN.out.1, ← HN.out.2.1]; unfold strOf)
                    | (go_at_call 11; refine (cU1.out _).mono ?_; clear cU1; rintro e w2 ⟨rfl, hb2⟩)
                    | (go_at_call 11; refine (cU2.out _).mono ?_; clear cU2; rintro e w3 ⟨rfl, hb3⟩)
                    | ((with_reducible show wpList _ _ _ (⟨some 63, _, _, _, _, _⟩ :: _) _ _); go_must (refine wpList_one E51 rfl (.tmp 62) rfl (by decide) [.string ⟨r1.toArray⟩, .string ⟨r2.toArray⟩] rfl rfl w3.heap.size rfl ?_); intro w4 hB4 hb4)
                    | ((with_reducible show wpList _ _ _ (⟨some 64, _, _, _, _, _⟩ :: _) _ _); go_must (refine wpList_app E51 rfl (.tmp 59) (.tmp 63) rfl w.heap.size (.slice A4 n4 c4) hs.length (hs.flatMap PD.cells) (by go_simp) (own_belowB (own_belowB (own_belowB (own_belowB HX.out.2.2.1 hb1) hb2) hb3) hb4) (some ⟨w3.heap.size, 0, none⟩) 1 1 [.string ⟨r1.toArray⟩, .string ⟨r2.toArray⟩] rfl hB4.rv rfl (by intro u hu; simp at hu; rcases hu with rfl | rfl <;> rfl) (by unfold maxLen; omega) (by omega) (by have := HX.out.2.2.2.1.size; have := hb1.size; have := hb2.size; have := hb3.size; have := hb4.size; omega) ?_); intro v5 w5 hown5 hg5 _))
              have hqq := queryP_more HN.out.2.2 HX.out.2.1 (pairOf_some (by rw [← HN.out.1]; exact HU.out) (by rw [← HN.out.2.1]; exact HU2.out))
              refine ⟨⟨k + 1, k + 1, _, _, by go_num, by go_num, HT.out.1, hqq, ?_, ?_⟩, by simp [intOf] <;> omega⟩
              · simpa [PD.cells] using hown5
              · have hB := gt (gt (gt (gt HX.out.2.2.2.1 hb1) hb2) hb3) hb4
                exact below_own hB (own_belowB (own_belowB (own_belowB (own_belowB HX.out.2.2.1 hb1) hb2) hb3) hb4) hg5 hB.size

end Go.Proofs.YtompcngeikjfiaaDoor.Uri
