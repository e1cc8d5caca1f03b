/- weirlaw05.SealTag: what the law leans on, in plain words; the walk. -/
import Derived.Test.YtoemceehmiaigaaDoorLawOnly
namespace Go.Proofs.YtoemceehmiaigaaDoor.Seal
open Go.RowKit Go.Proofs.YtoemceehmiaigaaDoor.Mem Go.Proofs.YtoemceehmiaigaaDoor.Loan Go.Proofs.YtoemceehmiaigaaDoor.Sha Go.Proofs.YtoemceehmiaigaaDoor.Strs
set_option linter.unusedVariables false

/-- a token with another text behind the point -/
theorem openV_tag (k pb tag : List UInt8) (hl : (enc pb ++ 46 :: tag).length ≤ 4096) (h0 : unE pb = 0) :
    (tag = enc (hmacf k pb) → (openV k (enc pb ++ 46 :: tag)).2.2 = 0) ∧
    (tag ≠ enc (hmacf k pb) → (46 ∈ tag → (openV k (enc pb ++ 46 :: tag)).2.2 = 51) ∧ (46 ∉ tag → dec tag = none → (openV k (enc pb ++ 46 :: tag)).2.2 = 50) ∧ (46 ∉ tag → ∀ g, dec tag = some g → (openV k (enc pb ++ 46 :: tag)).2.2 = 52)) := by
  have hc := cutL_of (b := tag) (enc_point pb)
  refine ⟨fun h => ?_, fun h => ⟨fun h1 => ?_, fun h1 h2 => ?_, fun h1 g h2 => ?_⟩⟩
  · unfold openV
    rw [if_neg (by omega), hc]
    simp only
    rw [h, cutL_not (enc_point _)]
    simp only [dec_enc]
    rw [if_pos trivial]
    exact h0
  · unfold openV
    rw [if_neg (by omega), hc]
    simp only
    cases h3 : cutL 46 tag with
    | none => exact absurd h1 (cutL_none h3)
    | some q => rfl
  · unfold openV
    rw [if_neg (by omega), hc]
    simp only
    rw [cutL_not h1]
    simp only [dec_enc, h2]
  · unfold openV
    rw [if_neg (by omega), hc]
    simp only
    rw [cutL_not h1]
    simp only [dec_enc, h2]
    rw [if_neg (fun e => h (by rw [← enc_dec tag g h2, e]))]

set_option maxRecDepth 4000 in
set_option maxHeartbeats 3200000 in
theorem law_tag (K : Option Addr) (kc : Nat) (key : List UInt8) (z : Int) (p : List UInt8) (tag : List UInt8) (w : World) (hK : RB w K key) (hkc : key.length ≤ kc) (hkl : key.length ≤ 1048576)
    (hz : -9223372036854775808 ≤ z ∧ z ≤ 9223372036854775807) (hp : p.length ≤ 1048576) (ht : tag.length ≤ 1048576) (hG : GB w) :
    Calls Tryd.prog 13 #[.slice K key.length kc, .agg #[.int .i64 z, .string ⟨p.toArray⟩], .string ⟨tag.toArray⟩] w fun e w' => e = .returned (.bool true) ∧ Below w.heap.size w w' := by
  obtain ⟨kl, hkl0⟩ : ∃ m, m = key.length := ⟨_, rfl⟩
  rw [← hkl0]
  have HK := Lib.hid (And.intro hkl0 (And.intro hK (And.intro hkc (And.intro hkl (And.intro hG (And.intro hz hp))))))
  obtain ⟨sp, hsp⟩ : ∃ x, x = (⟨p.toArray⟩ : ByteArray) := ⟨_, rfl⟩
  obtain ⟨lp, hlp⟩ : ∃ x, x = p.length := ⟨_, rfl⟩
  have hsz : sp.size = lp := by rw [hsp, hlp]; simp [ByteArray.size]
  obtain ⟨st, hst⟩ : ∃ x, x = (⟨tag.toArray⟩ : ByteArray) := ⟨_, rfl⟩
  obtain ⟨lt, hlt⟩ : ∃ x, x = tag.length := ⟨_, rfl⟩
  have hsz2 : st.size = lt := by rw [hst, hlt]; simp [ByteArray.size]
  have hlpi : (lp : Int) ≤ 1048576 := by omega
  have hlti : (lt : Int) ≤ 1048576 := by omega
  rw [← hsp, ← hst]
  have HP := Lib.hid (And.intro hsp hlp)
  have HT := Lib.hid (And.intro hst hlt)
  clear hkl0 hK hkc hkl hG hz hp hsp hlp hst hlt ht
  generalize hH : w.heap.size = H at *
  go_enter Tryd.func13, Tryd.ntmps13
  go_upto_region 3 with (first
    | (go_at_call 37; go_must (refine (alive_any _).mono ?_); rintro e w1 ⟨rfl, hb1⟩))
  have hB0 : Blk w1 H 72 [.int .i64 z, .string sp] := (show Blk _ H _ _ from hH ▸ Blk.new w 72 [.int .i64 z, .string sp]).grow hb1
  have hw1 : Below H w w1 := (show Below H w _ from hH ▸ ga (gr w) _).trans (hb1.mono (by rw [← hH]; exact (ga (gr w) _).size))
  have c0 := hB0.cell 0
  have c1 := hB0.cell 1
  simp only [List.getElem?_cons_succ, List.getElem?_cons_zero] at c0 c1
  have HW := Lib.hid (And.intro hB0 hw1)
  clear hb1 hB0 hw1
  by_cases hlong : 1024 < p.length
  · have hml := mint_long (k := key) (z := z) hlong
    have cM := Lib.hid (fun W hW => mint_m key z p K kl kc w ⟨#[]⟩ 1 (by rw [hml.1]) hml.2.symm HK.out.1 HK.out.2.1 (by rw [HK.out.1]; exact HK.out.2.2.1) (by have := HK.out.1; have := HK.out.2.2.2.1; omega) HK.out.2.2.2.2.2.1 HK.out.2.2.2.2.2.2 HK.out.2.2.2.2.1 W hW)
    rw [← HP.out.1] at cM
    have hlo : 1024 < (lp : Int) := by have := HP.out.2; omega
    clear hml hlong
    go_upto_region 5 with (first
      | (go_at_call 35; go_must (refine (cM.out _ (hH ▸ HW.out.2)).mono ?_); rintro e w6 ⟨rfl, hb6⟩))
    replace c1 := cell_grow c1 hb6
    go_wp2_with fail
    go_ret
    exact ⟨rfl, HW.out.2.trans (hb6.mono (hH ▸ HW.out.2.size))⟩
  · have hml := mint_short hlong
    obtain ⟨pb, hpb⟩ : ∃ x, x = pack z p := ⟨_, rfl⟩
    have hpbl : pb.length ≤ 1032 := by rw [hpb, pack_length]; omega
    have hun : unE pb = 0 := by rw [hpb]; exact (un_pack z p HK.out.2.2.2.2.2.1 (by omega)).1
    obtain ⟨tk, htk⟩ : ∃ x, x = mintR key z p := ⟨_, rfl⟩
    obtain ⟨ed, hed⟩ : ∃ x, x = enc (hmacf key pb) := ⟨_, rfl⟩
    have hedl : ed.length = 43 := by rw [hed, enc_length, hmacf_length]
    obtain ⟨a, ha⟩ : ∃ x, x = enc pb := ⟨_, rfl⟩
    have hal : a.length ≤ 1400 := by rw [ha, enc_length]; omega
    have htk2 : tk = a ++ 46 :: ed := by rw [htk]; unfold mintR mintB; rw [if_neg hlong, ← hpb, ← ha, ← hed]
    obtain ⟨sk, hsk⟩ : ∃ x, x = (⟨tk.toArray⟩ : ByteArray) := ⟨_, rfl⟩
    obtain ⟨lk, hlk⟩ : ∃ x, x = tk.length := ⟨_, rfl⟩
    have hsz3 : sk.size = lk := by rw [hsk, hlk]; simp [ByteArray.size]
    obtain ⟨la, hla⟩ : ∃ x, x = a.length := ⟨_, rfl⟩
    have hlk2 : lk = la + 44 := by rw [hlk, htk2, hla, List.length_append, List.length_cons, hedl]
    have hx1 : sk.extract 0 (la + 1) = ⟨(a ++ [46]).toArray⟩ := by
      have := ext_head (a ++ [46]) ed
      rw [hsk, htk2, hla]
      simpa using this
    have hlas : la < sk.size := by omega
    have hgp : sk[la]'hlas = 46 := by
      have : ∀ s' : ByteArray, s' = (⟨tk.toArray⟩ : ByteArray) → ∀ h, s'[la]'h = tk[la]'(by subst htk2; rw [List.length_append, List.length_cons]; omega) := fun s' e h => by subst e; rfl
      rw [this sk hsk]
      have h2 : tk[la]? = some 46 := by rw [htk2, hla, List.getElem?_append_right (Nat.le_refl _), Nat.sub_self]; rfl
      exact (List.getElem?_eq_some_iff.1 h2).2
    have cM := Lib.hid (fun W hW => mint_m key z p K kl kc w sk 0 (by rw [hsk, htk]) hml.symm HK.out.1 HK.out.2.1 (by rw [HK.out.1]; exact HK.out.2.2.1) (by have := HK.out.1; have := HK.out.2.2.2.1; omega) HK.out.2.2.2.2.2.1 HK.out.2.2.2.2.2.2 HK.out.2.2.2.2.1 W hW)
    rw [← HP.out.1] at cM
    have hlo : (lp : Int) ≤ 1024 := by have := HP.out.2; omega
    obtain ⟨lb, hlb⟩ : ∃ x, x = la + 1 := ⟨_, rfl⟩
    rw [← hlb] at hx1
    have hki : (lk : Int) - 44 = (la : Int) := by omega
    have hkb : (lk : Int) - 43 = (lb : Int) := by omega
    have hla0 : (0 : Int) ≤ (la : Int) := by omega
    have hla1 : (la : Int) < (lk : Int) := by omega
    have hlb1 : (lb : Int) ≤ (lk : Int) := by omega
    have hlk3 : (lk : Int) ≤ 1444 := by omega
    have hlk4 : (44 : Int) ≤ (lk : Int) := by omega
    obtain ⟨sh, hsh⟩ : ∃ x, x = (⟨(a ++ [46]).toArray⟩ : ByteArray) := ⟨_, rfl⟩
    rw [← hsh] at hx1
    have hszh : sh.size = lb := by rw [hsh, hlb, hla]; simp [ByteArray.size]
    obtain ⟨tx, htx⟩ : ∃ x, x = a ++ 46 :: tag := ⟨_, rfl⟩
    obtain ⟨sx, hsx⟩ : ∃ x, x = (⟨tx.toArray⟩ : ByteArray) := ⟨_, rfl⟩
    have hcat : sh ++ st = sx := by rw [hsh, HT.out.1, hsx, htx, ByteArray.mk_append_mk]; simp
    have hcmp : (sx.toList == sk.toList) = decide (tag = ed) := by
      rw [hsx, hsk, ByteArray.toList_eq, ByteArray.toList_eq, htx, htk2, Bool.eq_iff_iff]
      simp
    have hl1 : lb + lt ≤ 9223372036854775807 := by omega
    have htxl : tx.length = la + 1 + tag.length := by rw [htx, hla]; simp; omega
    obtain ⟨oz, hoz⟩ : ∃ x, x = (openV key tx).1 := ⟨_, rfl⟩
    obtain ⟨os, hos⟩ : ∃ x : ByteArray, x = ⟨(openV key tx).2.1.toArray⟩ := ⟨_, rfl⟩
    obtain ⟨oe, hoe⟩ : ∃ x, x = (openV key tx).2.2 := ⟨_, rfl⟩
    have cO := Lib.hid (fun W hW => open_m key tx K kl kc w oz os oe hoz hos hoe HK.out.1 HK.out.2.1 (by rw [HK.out.1]; exact HK.out.2.2.1) (by have := HK.out.1; have := HK.out.2.2.2.1; omega) (by have := HT.out.2; omega) HK.out.2.2.2.2.1 W hW)
    rw [← hsx] at cO
    have cD := Lib.hid (show ∀ W, Calls Tryd.prog 40 #[.string st] W (DecPost W (dec tag)) from fun W => by rw [HT.out.1]; exact decode_any tag W (by have := HT.out.2; omega))
    have HE := Lib.hid (show tag.length ≤ 1000 → _ from fun h1000 => (by
      have := openV_tag key pb tag (by rw [← ha, ← htx, htxl]; omega) hun
      rw [← ha, ← htx, ← hed, ← hoe] at this
      exact this : (tag = ed → oe = 0) ∧ (tag ≠ ed → (46 ∈ tag → oe = 51) ∧ (46 ∉ tag → dec tag = none → oe = 50) ∧ (46 ∉ tag → ∀ g, dec tag = some g → oe = 52))))
    have cM := Lib.hid (fun W hW => mint_m key z p K kl kc w sk 0 (by rw [hsk, htk]) hml.symm HK.out.1 HK.out.2.1 (by rw [HK.out.1]; exact HK.out.2.2.1) (by have := HK.out.1; have := HK.out.2.2.2.1; omega) HK.out.2.2.2.2.2.1 HK.out.2.2.2.2.2.2 HK.out.2.2.2.2.1 W hW)
    rw [← HP.out.1] at cM
    have hlo : (lp : Int) ≤ 1024 := by have := HP.out.2; omega
    clear hml hlong hpb hpbl hun htk hed hedl ha hal htk2 hsk hlk hla hlk2 hlb hsh htx hsx htxl hoz hos hoe
    go_upto_region 6 with (first
      | (go_at_call 35; go_must (refine (cM.out _ (hH ▸ HW.out.2)).mono ?_); rintro e w6 ⟨rfl, hb6⟩))
    have HW6 := Lib.hid (HW.out.2.trans (hb6.mono (hH ▸ HW.out.2.size)))
    clear HW hb6 c0 c1
    by_cases hbig : 1000 < lt
    · have hbi : 1000 < (lt : Int) := by omega
      clear hbig
      go_wp2_with fail
      go_ret
      exact ⟨rfl, HW6.out⟩
    · have hbi : (lt : Int) ≤ 1000 := by omega
      have HE := Lib.hid (HE.out (by have := HT.out.2; omega))
      clear hbig
      by_cases htag : tag = ed
      · have h0 := HE.out.1 htag
        rw [decide_eq_true htag] at hcmp
        clear htag
        subst h0
        go_upto_region 10 with (first
          | (go_at_call 36; go_must (refine (cO.out _ (hH ▸ HW6.out)).mono ?_); rintro e w7 ⟨rfl, hb7⟩))
        have hb8 : Below w6.heap.size w6 (w7.alloc (.cells #[.int .i64 oz, .string os] 72)) := ga hb7 _
        have HW8 := Lib.hid (HW6.out.trans (hb8.mono (hH ▸ HW6.out.size)))
        clear hb7 hb8
        go_wp2_with fail
        go_ret
        exact ⟨rfl, HW8.out⟩
      · have HN := Lib.hid (HE.out.2 htag)
        rw [decide_eq_false htag] at hcmp
        clear htag HE
        go_upto_region 10 with (first
          | (go_at_call 36; go_must (refine (cO.out _ (hH ▸ HW6.out)).mono ?_); rintro e w7 ⟨rfl, hb7⟩))
        obtain ⟨w8, hw8⟩ : ∃ x, x = w7.alloc (.cells #[.int .i64 oz, .string os] 72) := ⟨_, rfl⟩
        rw [← hw8]
        have hb8 : Below w6.heap.size w6 w8 := hw8 ▸ ga hb7 _
        have HW8 := Lib.hid (HW6.out.trans (hb8.mono (hH ▸ HW6.out.size)))
        clear hb7 hb8 hw8 HW6
        go_wp2_with fail
        go_loop [12, 13] (fun v12 v13 => ∃ i : Nat, i ≤ lt ∧ v13 = .int .i64 i ∧ v12 = .bool (decide (46 ∈ tag.take i))) (fun _ v => lt - (intOf v).toNat)
        case atStart => exact ⟨0, by omega, rfl, by simp⟩
        case round =>
          obtain ⟨i, hi, rfl, rfl⟩ := hrel
          by_cases hlt : i < lt
          · have hil : i < tag.length := by have := HT.out.2; omega
            obtain ⟨x, hx⟩ : ∃ x, x = tag[i] := ⟨_, rfl⟩
            have his : i < st.size := by omega
            have hsx : st[i] = x := by
              have : ∀ s' : ByteArray, s' = (⟨tag.toArray⟩ : ByteArray) → ∀ h, s'[i]'h = tag[i] := fun s' e h => by subst e; rfl
              rw [hx]; exact this st HT.out.1 his
            have hii : (i : Int) < (lt : Int) := by omega
            have hi0 : (0 : Int) ≤ (i : Int) := by omega
            have htk : tag.take (i + 1) = tag.take i ++ [x] := by rw [take_succ_ hil, hx]
            have hm : (46 ∈ tag.take (i + 1)) = (46 ∈ tag.take i ∨ x = 46) := by rw [htk]; simp [eq_comm]
            have HM := Lib.hid hm
            clear hx htk hm hlt
            by_cases hp : 46 ∈ tag.take i
            · have HMp := Lib.hid hp
              rw [decide_eq_true hp]
              clear hp
              go_wp2_with fail
              exact ⟨⟨i + 1, by omega, by go_num, by rw [decide_eq_true (HM.out ▸ .inl HMp.out)]⟩, by simp [intOf]; omega⟩
            · have HMp := Lib.hid hp
              rw [decide_eq_false hp]
              clear hp
              by_cases h46 : x = 46
              · have hx46 : (x.toNat : Int) = 46 := by rw [h46]; rfl
                have H46 := Lib.hid h46
                clear h46
                go_wp2_with fail
                exact ⟨⟨i + 1, by omega, by go_num, by rw [decide_eq_true (HM.out ▸ .inr H46.out)]⟩, by simp [intOf]; omega⟩
              · have hx46 : ¬ (x.toNat : Int) = 46 := by
                  intro h
                  exact h46 (UInt8.toNat_inj.1 ((show x.toNat = 46 by omega).trans rfl))
                have H46 := Lib.hid h46
                clear h46
                go_wp2_with fail
                exact ⟨⟨i + 1, by omega, by go_num, by rw [decide_eq_false (fun h => (HM.out ▸ h : 46 ∈ tag.take i ∨ x = 46).elim HMp.out H46.out)]; simp [hx46]⟩, by simp [intOf]; omega⟩
          · obtain rfl : i = lt := by omega
            have htk : tag.take i = tag := List.take_of_length_le (by have := HT.out.2; omega)
            rw [htk]
            clear htk hlt
            by_cases hp : 46 ∈ tag
            · have h51 := HN.out.1 hp
              rw [decide_eq_true hp]
              clear hp
              subst h51
              cases hd : dec tag with
              | none =>
                rw [hd] at cD
                clear hd
                go_wp2_with (first
                  | (go_at_call 40; go_must (refine (cD.out _).mono ?_); rintro e w9 ⟨rfl, hb9⟩))
                go_ret
                exact ⟨rfl, HW8.out.trans (hb9.mono (hH ▸ HW8.out.size))⟩
              | some g =>
                rw [hd] at cD
                clear hd
                go_wp2_with (first
                  | (go_at_call 40; go_must (refine (cD.out _).mono ?_); rintro e w9 ⟨v9, rfl, _, hb9⟩))
                go_ret
                exact ⟨rfl, HW8.out.trans (hb9.mono (hH ▸ HW8.out.size))⟩
            · rw [decide_eq_false hp]
              cases hd : dec tag with
              | none =>
                have h50 := HN.out.2.1 hp hd
                rw [hd] at cD
                clear hd hp
                subst h50
                go_wp2_with (first
                  | (go_at_call 40; go_must (refine (cD.out _).mono ?_); rintro e w9 ⟨rfl, hb9⟩))
                go_ret
                exact ⟨rfl, HW8.out.trans (hb9.mono (hH ▸ HW8.out.size))⟩
              | some g =>
                have h52 := HN.out.2.2 hp g hd
                rw [hd] at cD
                clear hd hp
                subst h52
                go_wp2_with (first
                  | (go_at_call 40; go_must (refine (cD.out _).mono ?_); rintro e w9 ⟨v9, rfl, _, hb9⟩))
                go_ret
                exact ⟨rfl, HW8.out.trans (hb9.mono (hH ▸ HW8.out.size))⟩
end Go.Proofs.YtoemceehmiaigaaDoor.Seal
