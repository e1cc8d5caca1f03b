/- uri: memory. -/
import Derived.Test.YtompcngeikjfiaaDoorKeepPure
import Derived.Test.YtompcngeikjfiaaDoorKeepRow
import Derived.Test.YtompcngeikjfiaaDoorRgR
namespace Go.Proofs.YtompcngeikjfiaaDoor.Uri
open Go.RowKit Go.Proofs.YtompcngeikjfiaaDoor.Mem Go.Proofs.YtompcngeikjfiaaDoor.Seal Go.Proofs.YtompcngeikjfiaaDoor.Strs Go.Proofs.YtompcngeikjfiaaDoor.Split
set_option linter.unusedVariables false

theorem vals_le (ps : List PD) (name : List UInt8) : (vals ps name).length ≤ ps.length := by
  unfold vals
  rw [List.length_map]
  exact List.length_filter_le _ _
theorem pd_at1 {ps : List PD} {k : Nat} (h : k < ps.length) : (ps.flatMap PD.cells)[k * 2]? = some (.string ⟨ps[k].1.toArray⟩) := by
  induction ps generalizing k with
  | nil => simp at h
  | cons p r ih =>
    cases k with
    | zero => simp [PD.cells]
    | succ k => rw [List.flatMap_cons, List.getElem?_append_right (by simp [PD.cells]; omega), show (k + 1) * 2 - p.cells.length = k * 2 by simp [PD.cells]; omega, ih (by simpa using h)]; rfl
theorem pd_at2 {ps : List PD} {k : Nat} (h : k < ps.length) : (ps.flatMap PD.cells)[k * 2 + 1]? = some (.string ⟨ps[k].2.toArray⟩) := by
  induction ps generalizing k with
  | nil => simp at h
  | cons p r ih =>
    cases k with
    | zero => simp [PD.cells]
    | succ k => rw [List.flatMap_cons, List.getElem?_append_right (by simp [PD.cells]; omega), show (k + 1) * 2 + 1 - p.cells.length = k * 2 + 1 by simp [PD.cells]; omega, ih (by simpa using h)]; rfl
theorem add_zero_ (g k : Nat) : (⟨g, 0, none⟩ : Addr).add k = ⟨g, k, none⟩ := by
  unfold Addr.add
  split <;> simp_all
/-- the two elements behind the front -/
def marks : List Value := [.string ⟨#[33, 49]⟩, .string ⟨#[]⟩, .string ⟨#[33, 50]⟩, .string ⟨#[]⟩]
theorem marks_one : ∀ u ∈ marks, u.oneCell' = true := by decide
set_option maxRecDepth 4000 in
set_option maxHeartbeats 6400000 in
theorem law_keeps (l : List UInt8) (A : Option Addr) (c : Nat) (ps : List PD) (name : List UInt8) (w : World) (hll : l.length ≤ 1048576) (hA : RV w A (ps.flatMap PD.cells)) (hok : ∀ p ∈ ps, p.1.length ≤ 1048575 ∧ p.2.length ≤ 1048576) (hl : ps.length ≤ 1048576) (hnm : name.length ≤ 1048576) :
    Calls Tryd.prog 9 #[.string ⟨l.toArray⟩, .slice A ps.length c, .string ⟨name.toArray⟩] w fun e w' => e = .returned (.bool true) ∧ Below w.heap.size w w' := by
  obtain ⟨n, hn⟩ : ∃ n, n = ps.length := ⟨_, rfl⟩
  have hni : n ≤ 1048576 := by omega
  have hq := queryL_len (l := l)
  have cQ := Lib.hid (fun W => query_u l W (by omega))
  obtain ⟨la, hla⟩ : ∃ x, x = (queryL l).getD [] := ⟨_, rfl⟩
  obtain ⟨er, her⟩ : ∃ x, x = qn (queryL l) := ⟨_, rfl⟩
  rw [← hla, ← her] at cQ
  rw [← hla] at hq
  obtain ⟨m, hm⟩ : ∃ m, m = la.length := ⟨_, rfl⟩
  rw [← hm] at cQ hq
  have hmi : m ≤ 1048577 := by omega
  rw [← hn]
  have HA := Lib.hid (And.intro hA (And.intro hok (And.intro hn (And.intro hm hnm))))
  clear hA hok hl hn hm hla her hq hll hnm
  go_enter Tryd.func9, Tryd.ntmps9
  go_upto_region 4 with (first
    | (go_at_call 10; refine (alive_any _).mono ?_; rintro e w1 ⟨rfl, hb1⟩)
    | (go_at_call 16; refine (cQ.out _).mono ?_; rintro e w2 ⟨A2, c2, rfl, ho2, hb2⟩))
  have D1 := Lib.hid hb1
  have D2 := Lib.hid hb2
  have R2 := Lib.hid (Row.new ho2)
  clear ho2 hb1 hb2
  go_upto_region 5 with (go_at_call 16; refine (cQ.out _).mono ?_; rintro e w3 ⟨A3, c3, rfl, ho3, hb3⟩)
  have D3 := Lib.hid hb3
  have R3 := Lib.hid (Row.new ho3)
  clear ho3 hb3
  go_upto_region 6 with (first
    | ((with_reducible show wpList _ _ _ (⟨some 33, _, _, _, _, _⟩ :: _) _ _); go_must (refine wpList_zeroG E51 (by decide) rfl rfl w3.heap.size rfl ?_); intro w4 ho4 hb4 hz4)
    | ((with_reducible show wpList _ _ _ (⟨some 35, _, _, _, _, _⟩ :: _) _ _); go_must (refine wpList_appG E51 rfl (.tmp 33) (.tmp 34) rfl w3.heap.size (.slice (some ⟨w3.heap.size, 0, none⟩) 0 0) 0 [] (by go_simp) ho4 A2 m c2 (la.flatMap PD.cells) (by go_simp) (((R2.out.below D3.out).below hb4).rv) (by rw [pd_len, HA.out.2.2.2.1]; rfl) (pd_one la) (by unfold maxLen; omega) (by omega) (by omega) ?_); intro v5 w5 ho5 hg5 _; have hb5 := below_own hb4 ho4 hg5 hb4.size; rw [Nat.zero_add, List.nil_append] at ho5; obtain ⟨A5, n5, c5, rfl, hn5⟩ := own_form ho5; subst hn5; clear ho4 hg5 hb4 hz4))
  have D5 := Lib.hid hb5
  have R5 := Lib.hid (Row.new ho5)
  clear ho5 hb5
  go_upto_region 8 with (first
    | (go_at_call 17; refine (same_any A2 A3 n5 n5 c2 c3 la la _ ((R2.out.below D3.out).below D5.out).rv (R3.out.below D5.out).rv HA.out.2.2.2.1 HA.out.2.2.2.1 (by omega) (by omega)).mono ?_; rw [decide_eq_true rfl]; rintro e w6 ⟨rfl, d6, rfl⟩))
  obtain ⟨w6, hw6⟩ : ∃ W, W = w5.drewN d6 := ⟨_, rfl⟩
  rw [← hw6]
  have D6 := Lib.hid (show Below w5.heap.size w5 w6 from hw6 ▸ gn (gr w5) d6)
  clear hw6 d6
  go_upto_region 9 with (first
    | ((with_reducible show wpList _ _ _ (⟨some 45, _, _, _, _, _⟩ :: _) _ _); go_must (refine wpList_zeroG E51 (by decide) rfl rfl w6.heap.size rfl ?_); intro w7 ho7 hb7 hz7)
    | ((with_reducible show wpList _ _ _ (⟨some 47, _, _, _, _, _⟩ :: _) _ _); go_must (refine wpList_appG E51 rfl (.tmp 45) (.tmp 46) rfl w6.heap.size (.slice (some ⟨w6.heap.size, 0, none⟩) 0 0) 0 [] (by go_simp) ho7 A n c (ps.flatMap PD.cells) (by go_simp) (HA.out.1.below (gt (gt (gt (gt (gt D1.out D2.out) D3.out) D5.out) D6.out) hb7)) (by rw [pd_len, HA.out.2.2.1]; rfl) (pd_one ps) (by unfold maxLen; omega) (by omega) (by omega) ?_); intro v8 w8 ho8 hg8 _; have hb8 := below_own hb7 ho7 hg8 hb7.size; rw [Nat.zero_add, List.nil_append] at ho8; obtain ⟨A8, n8, c8, rfl, hn8⟩ := own_form ho8; subst hn8; clear ho7 hg8 hb7 hz7)
    | ((with_reducible show wpList _ _ _ (⟨some 51, _, _, _, _, _⟩ :: _) _ _); go_must (refine wpList_appG E51 rfl (.tmp 47) (.tmp 50) rfl w6.heap.size (.slice A8 n8 c8) n8 (ps.flatMap PD.cells) (by go_simp) (own_below' ho8 (ga (gr _) _)) (some ⟨w8.heap.size, 0, none⟩) 2 2 marks (by go_simp) (rv_new w8 marks _) rfl marks_one (by unfold maxLen; omega) (by omega) (by have := hb8.size; simp; omega) ?_); intro v9 w9 ho9 hg9 _; have hb9 := below_own (ga hb8 _) (own_below' ho8 (ga (gr _) _)) hg9 (ga hb8 _).size; obtain ⟨A9, n9, c9, rfl, hn9⟩ := own_form ho9; obtain ⟨g9, rfl, hn9', hc9⟩ := own_addr ho9 (by omega); subst hn9; clear hn9' ho8 hg9 hb8))
  have D9 := Lib.hid hb9
  have R9 := Lib.hid (Row.new ho9)
  have F9 := Lib.hid (Row.front R9.out (by rw [pd_len, HA.out.2.2.1]; rfl))
  clear ho9 hb9
  have hc9' : (n8 : Int) ≤ (c9 : Int) := by omega
  go_upto_region 10 with fail
  have cL := Lib.hid (fun W hW => all_u (some ⟨g9, 0, none⟩) n8 c9 ps name W hW HA.out.2.2.1 hni)
  obtain ⟨lv, hlv⟩ : ∃ x, x = vals ps name := ⟨_, rfl⟩
  have hvl : lv.length ≤ ps.length := by rw [hlv]; exact vals_le ps name
  have HV := Lib.hid (vals_zz ps name)
  rw [← hlv] at cL HV
  obtain ⟨p, hp⟩ : ∃ p, p = lv.length := ⟨_, rfl⟩
  rw [← hp] at cL HV hvl
  have hpi : p ≤ 1048576 := by have := HA.out.2.2.1; omega
  have HP := Lib.hid hp
  clear hvl hlv hp
  go_upto_region 11 with (first
    | (go_at_call 26; refine (cL.out _ F9.out.rv).mono ?_; rintro e w10 ⟨A10, c10, rfl, ho10, hb10⟩)
    | (go_at_call 26; refine (cL.out _ (F9.out.below hb10).rv).mono ?_; rintro e w11 ⟨A11, c11, rfl, ho11, hb11⟩))
  have D10 := Lib.hid hb10
  have D11 := Lib.hid hb11
  have R10 := Lib.hid (Row.new ho10)
  have R11 := Lib.hid (Row.new ho11)
  clear ho10 ho11 hb10 hb11
  obtain ⟨t, ht⟩ : ∃ t, t = form ps := ⟨_, rfl⟩
  have cT := Lib.hid (fun W hW => encode_any (some ⟨g9, 0, none⟩) n8 c9 ps W hW HA.out.2.2.1 hni (fun q hq => ⟨by have := (HA.out.2.1 q hq).1; omega, (HA.out.2.1 q hq).2⟩))
  rw [← ht] at cT
  have HT := Lib.hid ht
  clear ht
  go_upto_region 12 with (go_at_call 24; refine (cT.out _ ((F9.out.below D10.out).below D11.out).rv).mono ?_; rintro e w12 ⟨rfl, hb12⟩)
  have D12 := Lib.hid hb12
  clear hb12
  go_upto_region 13 with (first
    | ((with_reducible show wpList _ _ _ (⟨some 64, _, _, _, _, _⟩ :: _) _ _); go_must (refine wpList_zeroG E30 (by decide) rfl rfl w12.heap.size rfl ?_); intro w13 ho13 hb13 hz13)
    | ((with_reducible show wpList _ _ _ (⟨some 66, _, _, _, _, _⟩ :: _) _ _); go_must (refine wpList_appG E30 rfl (.tmp 64) (.tmp 65) rfl w12.heap.size (.slice (some ⟨w12.heap.size, 0, none⟩) 0 0) 0 [] (by go_simp) ho13 A10 p c10 (lv.map strV) (by go_simp) ((((R10.out.below D11.out).below D12.out).below hb13).rv) (by rw [List.length_map, ← HP.out]; simp) (by simp [strV, Value.oneCell']) (by unfold maxLen; omega) (by omega) (by omega) ?_); intro v14 w14 ho14 hg14 _; have hb14 := below_own hb13 ho13 hg14 hb13.size; rw [Nat.zero_add, List.nil_append] at ho14; obtain ⟨A14, n14, c14, rfl, hn14⟩ := own_form ho14; subst hn14; clear ho13 hg14 hb13 hz13))
  have D14 := Lib.hid hb14
  have R14 := Lib.hid (Row.new ho14)
  clear ho14 hb14
  have G14 := Lib.hid (gt (gt (gt D10.out D11.out) D12.out) D14.out)
  have X14 := Lib.hid (gt (gt (gt (gt (gt (gt D1.out D2.out) D3.out) D5.out) D6.out) D9.out) G14.out)
  have F14 := Lib.hid (F9.out.below G14.out)
  have hca : w14.cell? ⟨g9, n8 * 2, none⟩ = some (.string ⟨#[33, 49]⟩) := by
    have := ((R9.out.below G14.out).own.cells (g := g9) rfl) (n8 * 2) (.string ⟨#[33, 49]⟩) (by rw [List.getElem?_append_right (by rw [pd_len, HA.out.2.2.1]; exact Nat.le_refl _), pd_len, HA.out.2.2.1, Nat.sub_self]; rfl)
    rwa [add_zero_] at this
  have hcb : w14.cell? ⟨g9, (n8 + 1) * 2, none⟩ = some (.string ⟨#[33, 50]⟩) := by
    have := ((R9.out.below G14.out).own.cells (g := g9) rfl) ((n8 + 1) * 2) (.string ⟨#[33, 50]⟩) (by rw [List.getElem?_append_right (by rw [pd_len, HA.out.2.2.1]; omega), pd_len, ← HA.out.2.2.1, show (n8 + 1) * 2 - n8 * 2 = 2 by omega]; rfl)
    rwa [add_zero_] at this
  have hn0 : (0 : Int) ≤ (n8 : Int) := by omega
  have hn2 : (n8 : Int) < (n8 : Int) + 2 := by omega
  have hn3 : (n8 : Int) + 1 < (n8 : Int) + 2 := by omega
  have hn1 : (0 : Int) ≤ (n8 : Int) + 1 := by omega
  have hnt : ((n8 : Int) + 1).toNat = n8 + 1 := by omega
  go_upto_region 15 with (first
    | (go_at_call 17; refine (same_any (some ⟨g9, 0, none⟩) A n8 n8 c9 c ps ps w14 F14.out.rv (HA.out.1.below X14.out) HA.out.2.2.1 HA.out.2.2.1 (by omega) (by omega)).mono ?_; rw [decide_eq_true rfl]; rintro e w15 ⟨rfl, d15, rfl⟩)
    | (go_at_call 25; refine (sameTexts_any A10 A11 n14 n14 c10 c11 lv lv _ (((R10.out.below D11.out).below D12.out).below (gn D14.out _)).rv ((R11.out.below D12.out).below (gn D14.out _)).rv HP.out HP.out (by omega) (by omega)).mono ?_; rw [decide_eq_true rfl]; rintro e w16 ⟨rfl, d16, rfl⟩))
  obtain ⟨w16, hw16⟩ : ∃ W, W = w14.drewN (d15 + d16) := ⟨_, rfl⟩
  rw [← hw16]
  have D16 := Lib.hid (show Below w14.heap.size w14 w16 from hw16 ▸ gn (gr w14) (d15 + d16))
  clear hw16 hca hcb
  have G16 := Lib.hid (gt G14.out D16.out)
  have X16 := Lib.hid (gt X14.out D16.out)
  have G3 := Lib.hid (gt (gt (gt D5.out D6.out) D9.out) G16.out)
  have Ra := Lib.hid (((R2.out.below D3.out).below G3.out).low D1.out.size)
  have Rb := Lib.hid ((R3.out.below G3.out).low (Nat.le_trans D1.out.size D2.out.size))
  have s2 : w.heap.size ≤ w2.heap.size := Nat.le_trans D1.out.size D2.out.size
  have s3 := Nat.le_trans s2 D3.out.size
  have t3 := D3.out.size
  have s5 := D5.out.size
  have s6 := D6.out.size
  have s9 := D9.out.size
  have s10 := D10.out.size
  have s11 := D11.out.size
  have s12 := D12.out.size
  have s14 := D14.out.size
  have s16 := D16.out.size
  have Rl := Lib.hid ((R10.out.below (gt (gt (gt D11.out D12.out) D14.out) D16.out)).low (show w.heap.size ≤ _ by omega))
  have Rm := Lib.hid ((R11.out.below (gt (gt D12.out D14.out) D16.out)).low (show w.heap.size ≤ _ by omega))
  have Rw := Lib.hid (R5.out.below (gt (gt D6.out D9.out) G16.out))
  have Rf := Lib.hid (F14.out.below D16.out)
  have Rh := Lib.hid (R14.out.below D16.out)
  have Fab := Lib.hid (R2.out.far R3.out (Nat.le_refl _))
  have Flm := Lib.hid (R10.out.far R11.out (Nat.le_refl _))
  have Hn := Lib.hid (And.intro hmi (And.intro hni hpi))
  have S16 := Lib.hid (show w.heap.size ≤ w16.heap.size by omega)
  go_upto_region 17 with (first
    | (go_at_call 27; refine (apart_any A2 A3 n5 c2 c3 w.heap.size _ _ w16 Ra.out.own Rb.out.own Fab.out S16.out (by omega)).mono ?_; rintro e w17 ⟨rfl, hg17⟩)
    | (go_at_call 28;
       go_must (have Rl17 := Rl.out.grown2 hg17 (R2.out.far R10.out (by omega)).ne (R3.out.far R10.out (by omega)).ne); go_must (have Rm17 := Rm.out.grown2 hg17 (R2.out.far R11.out (by omega)).ne (R3.out.far R11.out (by omega)).ne); go_must (refine (apartTexts_any A10 A11 n14 c10 c11 w.heap.size _ _ w17 Rl17.own Rm17.own Flm.out (Nat.le_trans S16.out hg17.size) (by omega)).mono ?_); clear Rl17 Rm17; rintro e w18 ⟨rfl, hg18⟩))
  have X18 := Lib.hid ((hg18.low (hg17.low X16.out S16.out (fun k hk => (Ra.out.own.lt k hk).1) (fun k hk => (Rb.out.own.lt k hk).1)) (Nat.le_trans S16.out hg17.size) (fun k hk => (Rl.out.own.lt k hk).1) (fun k hk => (Rm.out.own.lt k hk).1)))
  have Rw18 := Lib.hid ((Rw.out.grown2 hg17 (R2.out.far R5.out (by omega)).ne (R3.out.far R5.out (Nat.le_refl _)).ne).grown2 hg18 (R5.out.far' R10.out (by omega)).ne (R5.out.far' R11.out (by omega)).ne)
  have Rf18 := Lib.hid ((Rf.out.grown2 hg17 (R2.out.far F9.out (by omega)).ne (R3.out.far F9.out (by omega)).ne).grown2 hg18 (F9.out.far' R10.out (Nat.le_refl _)).ne (F9.out.far' R11.out (by omega)).ne)
  have Rh18 := Lib.hid ((Rh.out.grown2 hg17 (R2.out.far R14.out (by omega)).ne (R3.out.far R14.out (by omega)).ne).grown2 hg18 (R10.out.far R14.out (by omega)).ne (R11.out.far R14.out (by omega)).ne)
  clear hg17 hg18 s2 s3 t3 s5 s6 s9 s10 s11 s12 s14 s16 Ra Rb Rl Rm Rw Rf Rh
  clear R2 R3 R10 R11 D9 D10 D11 D12 D14 D16 G3 G14 G16 X14 X16 F14 S16
  clear hn2 hn3 hn1 hnt hc9' hc9 R9 F9 R14 R5
  go_upto_region 18 with (go_at_call 16; refine (cQ.out _).mono ?_; rintro e w19 ⟨A19, c19, rfl, ho19, hb19⟩)
  have R19 := Lib.hid (Row.new ho19)
  have D19 := Lib.hid hb19
  clear ho19 hb19 cQ
  go_upto_region 20 with (first
    | (go_at_call 17; (with_reducible show Calls _ _ #[Value.slice A19 _ _, _] _ _); refine (same_any A19 A5 n5 n5 c19 c5 la la _ R19.out.rv (Rw18.out.below D19.out).rv HA.out.2.2.2.1 HA.out.2.2.2.1 (by omega) (by omega)).mono ?_; rw [decide_eq_true rfl]; rintro e w20 ⟨rfl, d20, rfl⟩)
    | (go_at_call 26; refine (cL.out _ (Rf18.out.below (gn D19.out d20)).rv).mono ?_; rintro e w21 ⟨A21, c21, rfl, ho21, hb21⟩)
    | (go_at_call 25; refine (sameTexts_any A21 A14 n14 n14 c21 c14 lv lv _ (Row.new ho21).rv (Rh18.out.below (gt (gn D19.out d20) hb21)).rv HP.out HP.out (by omega) (by omega)).mono ?_; rw [decide_eq_true rfl]; rintro e w22 ⟨rfl, d22, rfl⟩)
    | (go_at_call 17; refine (same_any (some ⟨g9, 0, none⟩) A n8 n8 c9 c ps ps _ (Rf18.out.below (gn (gt (gn D19.out d20) hb21) d22)).rv (HA.out.1.below (gt X18.out (gn (gt (gn D19.out d20) hb21) d22))) HA.out.2.2.1 HA.out.2.2.1 (by omega) (by omega)).mono ?_; rw [decide_eq_true rfl]; rintro e w23 ⟨rfl, d23, rfl⟩))
  obtain ⟨w24, hw24⟩ : ∃ W, W = w21.drewN (d22 + d23) := ⟨_, rfl⟩
  rw [← hw24]
  have D24 : Below w18.heap.size w18 w24 := hw24 ▸ gn (gt (gn D19.out d20) hb21) (d22 + d23)
  have X24 := Lib.hid (gt X18.out D24)
  have F24 := Lib.hid (((Rf18.out.below D24).low (Nat.le_trans D1.out.size (Nat.le_trans D2.out.size (Nat.le_trans D3.out.size (Nat.le_trans D5.out.size D6.out.size))))).own)
  clear hw24 ho21 hb21 D24 Rf18 Rw18 Rh18 R19 D19 X18 Fab Flm D1 D2 D3 D5 D6
  go_wp2
  go_loopw [20] (fun v wr => ∃ k : Nat, k ≤ n8 ∧ v = .int .i64 k ∧ Below w.heap.size w wr ∧ wr.ownsRow w.heap.size 51 2 (.slice (some ⟨g9, 0, none⟩) n8 c9) n8 ((zk ps k).flatMap PD.cells)) (fun v _ => n8 - (intOf v).toNat)
  case atStart => exact ⟨0, by omega, rfl, X24.out, F24.out⟩
  case round =>
    clear X24 F24
    obtain ⟨k, hk, rfl, hb, ho⟩ := hrel
    by_cases hlt : k < n8
    · have hkp : k < ps.length := by have := HA.out.2.2.1; omega
      obtain ⟨sx, y, hxy⟩ : ∃ sx y, ps[k] = (sx, y) := ⟨_, _, rfl⟩
      have hcx : wr.cell? ⟨g9, k * 2, none⟩ = some (.string ⟨sx.toArray⟩) := by
        have := (ho.cells (g := g9) rfl) (k * 2) (.string ⟨sx.toArray⟩) (by rw [pd_at1 (by rw [zk_len]; exact hkp), zk_get hkp, hxy])
        rwa [add_zero_] at this
      have hcy : wr.cell? ⟨g9, k * 2 + 1, none⟩ = some (.string ⟨y.toArray⟩) := by
        have := (ho.cells (g := g9) rfl) (k * 2 + 1) (.string ⟨y.toArray⟩) (by rw [pd_at2 (by rw [zk_len]; exact hkp), zk_get hkp, hxy])
        rwa [add_zero_] at this
      have hx := (HA.out.2.1 ps[k] (List.getElem_mem hkp)).1
      rw [hxy] at hx
      have l1 : sx.length + 1 ≤ 9223372036854775807 := by simp only at hx; omega
      obtain ⟨xz, hxz⟩ : ∃ z, z = sx ++ [122] := ⟨_, rfl⟩
      have q1 : ((⟨sx.toArray⟩ : ByteArray) ++ ⟨#[122]⟩) = ⟨xz.toArray⟩ := by rw [hxz, ByteArray.mk_append_mk]; try rfl
      have hfx := ho.frozenAt (k * 2)
      have hki : (k : Int) < (n8 : Int) := by omega
      have hk0 : (0 : Int) ≤ (k : Int) := by omega
      have hG : g9 < wr.heap.size := (ho.lt g9 rfl).2
      have hnn : ¬ (k : Int) < 0 := by omega
      go_wp2
      try simp only [Act.put, List.setIfInBounds_toArray, List.set_cons_succ, List.set_cons_zero]
      refine wp_region_rrT (fun a b => Below a.heap.size a b) (fun _ _ _ h g => gt h g) (fun _ _ h => h.size) (fun a => (gr a).drew) 15
        [.eq 135 (.slice (some ⟨g9, 0, none⟩) n8 c9), .eq 136 (.int .i64 (k : Int)), .eq 137 (.slice (some ⟨g9, 0, none⟩) n8 c9), .eq 138 (.int .i64 (k : Int)), .eq 139 (.pointer (some ⟨g9, k * 2, none⟩)), .eq 140 (.pointer (some ⟨g9, k * 2, none⟩)), .eq 141 (.string ⟨sx.toArray⟩), .eq 142 (.string ⟨xz.toArray⟩), .eq 143 (.slice (some ⟨g9, 0, none⟩) n8 c9), .eq 144 (.int .i64 (k : Int)), .eq 145 (.pointer (some ⟨g9, k * 2, none⟩)), .eq 146 (.pointer (some ⟨g9, k * 2 + 1, none⟩)), .eq 147 (.string ⟨y.toArray⟩), .eq 148 (.agg #[.string ⟨xz.toArray⟩, .string ⟨y.toArray⟩]), .eq 149 (.pointer (some ⟨g9, k * 2, none⟩))]
        (by kernel_rfl) (by kernel_rfl) (by kernel_rfl) (by kernel_rfl) ?hstk ?hobk ?hfink
      case hstk =>
        intro s hs
        simp only [List.mem_cons, List.not_mem_nil, or_false] at hs
        rcases hs with rfl | rfl | rfl | rfl | rfl | rfl | rfl | rfl | rfl | rfl | rfl | rfl | rfl | rfl | rfl
        · exact fun _ _ _ h _ => h
        · exact fun _ _ _ h _ => h
        · exact fun _ _ _ h _ => h
        · exact fun _ _ _ h _ => h
        · exact fun _ _ _ h _ => h
        · exact fun _ _ _ h _ => h
        · exact fun _ _ _ h _ => h
        · exact fun _ _ _ h _ => h
        · exact fun _ _ _ h _ => h
        · exact fun _ _ _ h _ => h
        · exact fun _ _ _ h _ => h
        · exact fun _ _ _ h _ => h
        · exact fun _ _ _ h _ => h
        · exact fun _ _ _ h _ => h
        · exact fun _ _ _ h _ => h
      case hobk =>
        simp only [List.take_succ_cons, List.take_zero]
        refine rrs_cons ?_ (rrs_cons ?_ (rrs_cons ?_ (rrs_cons ?_ (rrs_cons ?_ (rrs_cons ?_ (rrs_cons ?_ (rrs_cons ?_ (rrs_cons ?_ (rrs_cons ?_ (rrs_cons ?_ (rrs_cons ?_ (rrs_cons ?_ (rrs_cons ?_ (rrs_cons ?_ rrs_nil))))))))))))))
        · refine rr_eq gr (by decide) (by rfl) (by rfl) fun x w' A hg hp hA => ?_
          have e13 := hA 13
          simp [rgDsts] at e13
          go_simp
        · refine rr_eq gr (by decide) (by rfl) (by rfl) fun x w' A hg hp hA => ?_
          have e20 := hA 20
          simp [rgDsts] at e20
          go_simp
        · refine rr_eq gr (by decide) (by rfl) (by rfl) fun x w' A hg hp hA => ?_
          have e13 := hA 13
          simp [rgDsts] at e13
          go_simp
        · refine rr_eq gr (by decide) (by rfl) (by rfl) fun x w' A hg hp hA => ?_
          have e20 := hA 20
          simp [rgDsts] at e20
          go_simp
        · refine rr_eq gr (by decide) (by rfl) (by rfl) fun x w' A hg hp hA => ?_
          have h137 := rg_pred_eq (d := 137) hp 0 rfl rfl rfl
          have h138 := rg_pred_eq (d := 138) hp 1 rfl rfl rfl
          have e137 := (hA.at_ 137 rfl).trans h137
          have e138 := (hA.at_ 138 rfl).trans h138
          go_simp
        · refine rr_eq gr (by decide) (by rfl) (by rfl) fun x w' A hg hp hA => ?_
          have h139 := rg_pred_eq (d := 139) hp 0 rfl rfl rfl
          have e139 := (hA.at_ 139 rfl).trans h139
          go_simp
        · refine rr_eq gr (by decide) (by rfl) (by rfl) fun x w' A hg hp hA => ?_
          have h140 := rg_pred_eq (d := 140) hp 0 rfl rfl rfl
          have e140 := (hA.at_ 140 rfl).trans h140
          have hc := (World.cell?_of_block (a := ⟨g9, k * 2, none⟩) (hg.block g9 hG)).trans hcx
          go_simp
        · refine rr_eq gr (by decide) (by rfl) (by rfl) fun x w' A hg hp hA => ?_
          have h141 := rg_pred_eq (d := 141) hp 0 rfl rfl rfl
          have e141 := (hA.at_ 141 rfl).trans h141
          go_simp
        · refine rr_eq gr (by decide) (by rfl) (by rfl) fun x w' A hg hp hA => ?_
          have e13 := hA 13
          simp [rgDsts] at e13
          go_simp
        · refine rr_eq gr (by decide) (by rfl) (by rfl) fun x w' A hg hp hA => ?_
          have e20 := hA 20
          simp [rgDsts] at e20
          go_simp
        · refine rr_eq gr (by decide) (by rfl) (by rfl) fun x w' A hg hp hA => ?_
          have h143 := rg_pred_eq (d := 143) hp 0 rfl rfl rfl
          have h144 := rg_pred_eq (d := 144) hp 1 rfl rfl rfl
          have e143 := (hA.at_ 143 rfl).trans h143
          have e144 := (hA.at_ 144 rfl).trans h144
          go_simp
        · refine rr_eq gr (by decide) (by rfl) (by rfl) fun x w' A hg hp hA => ?_
          have h145 := rg_pred_eq (d := 145) hp 0 rfl rfl rfl
          have e145 := (hA.at_ 145 rfl).trans h145
          go_simp
        · refine rr_eq gr (by decide) (by rfl) (by rfl) fun x w' A hg hp hA => ?_
          have h146 := rg_pred_eq (d := 146) hp 0 rfl rfl rfl
          have e146 := (hA.at_ 146 rfl).trans h146
          have hc := (World.cell?_of_block (a := ⟨g9, k * 2 + 1, none⟩) (hg.block g9 hG)).trans hcy
          go_simp
        · refine rr_eq gr (by decide) (by rfl) (by rfl) fun x w' A hg hp hA => ?_
          have h142 := rg_pred_eq (d := 142) hp 0 rfl rfl rfl
          have h147 := rg_pred_eq (d := 147) hp 1 rfl rfl rfl
          have e142 := (hA.at_ 142 rfl).trans h142
          have e147 := (hA.at_ 147 rfl).trans h147
          go_simp
        · refine rr_eq gr (by decide) (by rfl) (by rfl) fun x w' A hg hp hA => ?_
          have h135 := rg_pred_eq (d := 135) hp 0 rfl rfl rfl
          have h136 := rg_pred_eq (d := 136) hp 1 rfl rfl rfl
          have h137 := rg_pred_eq (d := 137) hp 4 rfl rfl rfl
          have h138 := rg_pred_eq (d := 138) hp 5 rfl rfl rfl
          have h139 := rg_pred_eq (d := 139) hp 6 rfl rfl rfl
          have h140 := rg_pred_eq (d := 140) hp 7 rfl rfl rfl
          have h141 := rg_pred_eq (d := 141) hp 8 rfl rfl rfl
          have h142 := rg_pred_eq (d := 142) hp 9 rfl rfl rfl
          have h143 := rg_pred_eq (d := 143) hp 10 rfl rfl rfl
          have h144 := rg_pred_eq (d := 144) hp 11 rfl rfl rfl
          have h145 := rg_pred_eq (d := 145) hp 12 rfl rfl rfl
          have h146 := rg_pred_eq (d := 146) hp 13 rfl rfl rfl
          have h147 := rg_pred_eq (d := 147) hp 14 rfl rfl rfl
          have h148 := rg_pred_eq (d := 148) hp 15 rfl rfl rfl
          have e135 := (hA.at_ 135 rfl).trans h135
          have e136 := (hA.at_ 136 rfl).trans h136
          go_simp
      case hfink =>
      intro x w25 hg hall hap
      simp only [RgAll, holds_eq, holds_new, holds_one, and_true] at hall
      obtain ⟨h135, h136, h137, h138, h139, h140, h141, h142, h143, h144, h145, h146, h147, h148, h149⟩ := hall
      simp only [rgDsts, List.take_succ_cons, List.take_zero, List.filterMap_cons, List.filterMap_nil, putMany, List.foldl_cons, List.foldl_nil, List.setIfInBounds_toArray, List.set_cons_succ, List.set_cons_zero, List.drop_succ_cons, List.drop_zero, h135, h136, h137, h138, h139, h140, h141, h142, h143, h144, h145, h146, h147, h148, h149]
      clear h135 h136 h137 h138 h139 h140 h141 h142 h143 h144 h145 h146 h147 h148 h149
      have ho1 := own_below' ho hg
      have hb1 := gt hb hg
      clear hcx hcy hfx ho hb hG hg
      have hc0 : w25.cell? ⟨g9, k * 2, none⟩ = some (.string ⟨sx.toArray⟩) := by
        have := (ho1.cells (g := g9) rfl) (k * 2) (.string ⟨sx.toArray⟩) (by rw [pd_at1 (by rw [zk_len]; exact hkp), zk_get hkp, hxy])
        rwa [add_zero_] at this
      have hf0 := ho1.frozenAt (k * 2)
      have ho2 := (ho1.stored (k * 2) (.string ⟨xz.toArray⟩)).1
      have hg2 := (ho1.stored (k * 2) (.string ⟨xz.toArray⟩)).2
      have hb2 := below_own hb1 ho1 hg2 hb1.size
      have hc1 : (w25.setCell ⟨g9, k * 2, none⟩ (.string ⟨xz.toArray⟩)).cell? ⟨g9, k * 2 + 1, none⟩ = some (.string ⟨y.toArray⟩) := by
        have := (ho2.cells (g := g9) rfl) (k * 2 + 1) (.string ⟨y.toArray⟩) (by rw [List.getElem?_set_ne (by omega), pd_at2 (by rw [zk_len]; exact hkp), zk_get hkp, hxy])
        rwa [add_zero_] at this
      have hf1 := ho2.frozenAt (k * 2 + 1)
      have ho3 := (ho2.stored (k * 2 + 1) (.string ⟨y.toArray⟩)).1
      have hg3 := (ho2.stored (k * 2 + 1) (.string ⟨y.toArray⟩)).2
      have hb3 := below_own hb2 ho2 hg3 hb2.size
      have hfin : ((((zk ps k).flatMap PD.cells).set (k * 2) (.string ⟨xz.toArray⟩)).set (k * 2 + 1) (.string ⟨y.toArray⟩)) = (zk ps (k + 1)).flatMap PD.cells := by
        have := cells_set (zk ps k) k (by rw [zk_len]; exact hkp) xz y []
        rw [List.append_nil, List.append_nil] at this
        rw [this, ← zk_set hkp, hxz, hxy]
        rfl
      rw [hfin] at ho3
      have X := Lib.hid (And.intro ho3 hb3)
      have HK := Lib.hid hlt
      clear ho1 hb1 ho2 hg2 hb2 ho3 hg3 hb3 hfin hxz hxy hkp hx q1 l1 hlt hk
      go_wp2
      go_roundw
      case rel => exact ⟨k + 1, by have := HK.out; omega, by go_num, X.out.2, X.out.1⟩
      case measure => have := HK.out; simp [intOf]; omega
    · obtain rfl : k = n8 := by omega
      have hkp := HA.out.2.2.1
      rw [show (zk ps k) = ps.map zz by rw [hkp, zk_all]] at ho
      have hok2 : ∀ p ∈ ps.map zz, PD.ok p := by
        intro p hp
        obtain ⟨q, hq, rfl⟩ := List.mem_map.1 hp
        have := HA.out.2.1 q hq
        exact ⟨by unfold zz; rw [List.length_append, List.length_cons, List.length_nil]; omega, this.2⟩
      have cE := Lib.hid (fun W hW => encode_any (some ⟨g9, 0, none⟩) k c9 (ps.map zz) W hW (by rw [List.length_map]; exact hkp) hni hok2)
      obtain ⟨nz, hnz⟩ : ∃ nz, nz = name ++ [122] := ⟨_, rfl⟩
      have cZ := Lib.hid (fun W hW => all_u (some ⟨g9, 0, none⟩) k c9 (ps.map zz) nz W hW (by rw [List.length_map]; exact hkp) hni)
      have q1 : ((⟨name.toArray⟩ : ByteArray) ++ ⟨#[122]⟩) = ⟨nz.toArray⟩ := by rw [hnz, ByteArray.mk_append_mk]; try rfl
      have l1 : name.length + 1 ≤ 9223372036854775807 := by have := HA.out.2.2.2.2; omega
      rw [hnz, HV.out, ← hnz] at cZ
      obtain ⟨f2, hf2⟩ : ∃ f2, f2 = form (ps.map zz) := ⟨_, rfl⟩
      rw [← hf2] at cE
      have hkk : ¬ (k : Int) < (k : Int) := by omega
      have RZ := Lib.hid (own_rv ho)
      have hfne : 0 < k → f2 ≠ t := fun h => by rw [hf2, HT.out]; exact form_zz (by omega)
      clear hok2 hnz hf2 ho hkp hlt hk
      by_cases h0 : k = 0
      · have h0i : (k : Int) = 0 := by omega
        clear hfne h0
        go_wp2_with fail
        go_ret
        exact ⟨ret_bool (by simp), hb⟩
      · have h0i : ¬ (k : Int) = 0 := by omega
        have hne : (f2 == t) = false := by rw [beq_eq_false_iff_ne]; exact hfne (by omega)
        have h0b : ((k : Int) == 0) = false := by rw [beq_eq_false_iff_ne]; exact h0i
        clear hfne h0
        go_wp2_with (first
          | (go_at_call 24; refine (cE.out _ RZ.out).mono ?_; rintro e w26 ⟨rfl, hb26⟩)
          | (go_at_call 26; refine (cZ.out _ (RZ.out.below hb26)).mono ?_; rintro e w27 ⟨A27, c27, rfl, ho27, hb27⟩))
        go_ret
        exact ⟨ret_bool (by simp), gt (gt hb hb26) hb27⟩
end Go.Proofs.YtompcngeikjfiaaDoor.Uri
