/- seal: memory. -/
import Derived.Test.YtoemceehmiaigaaDoorROpenTok
import Derived.Test.YtoemceehmiaigaaDoorPackU
import Derived.Test.YtoemceehmiaigaaDoorSealApart
import Derived.BigQuiet

/- seal: what the memory law needs of the plain side. -/
namespace Go.Proofs.YtoemceehmiaigaaDoor.Seal
open Go.RowKit Go.Proofs.YtoemceehmiaigaaDoor.Mem Go.Proofs.YtoemceehmiaigaaDoor.Loan Go.Proofs.YtoemceehmiaigaaDoor.Sha Go.Proofs.YtoemceehmiaigaaDoor.Strs
set_option linter.unusedVariables false

def xorl (l : List UInt8) : List UInt8 := l.map (· ^^^ 85)
theorem xorl_len (l : List UInt8) : (xorl l).length = l.length := by unfold xorl; rw [List.length_map]
theorem xor85_ne (c : UInt8) : c ^^^ 85 ≠ c := by
  have : ∀ n : Fin 256, (UInt8.ofNat n.val) ^^^ 85 ≠ UInt8.ofNat n.val := by decide +kernel
  have h := this ⟨c.toNat, c.toNat_lt⟩
  simpa using h
theorem xorl_ne {l : List UInt8} (h : 0 < l.length) : xorl l ≠ l := by
  cases l with
  | nil => simp at h
  | cons c r =>
    intro e
    unfold xorl at e
    rw [List.map_cons] at e
    injection e with e1 _
    exact xor85_ne c e1
theorem xor8 (c : UInt8) : bits .xor .u8 (c.toNat : Int) 85 = ((c ^^^ 85).toNat : Int) := by
  have : ∀ n : Fin 256, bits .xor .u8 (n.val : Int) 85 = (((UInt8.ofNat n.val) ^^^ 85).toNat : Int) := by decide +kernel
  have h := this ⟨c.toNat, c.toNat_lt⟩
  simpa using h
theorem enc_inj {a b : List UInt8} (h : enc a = enc b) : a = b := by
  have := congrArg dec h
  rw [dec_enc, dec_enc] at this
  exact Option.some.inj this
theorem enc_xorl {l : List UInt8} (h : 0 < l.length) : enc (xorl l) ≠ enc l := fun e => xorl_ne h (enc_inj e)
theorem unE_len {a b : List UInt8} (h : a.length = b.length) : unE a = unE b := by unfold unE; rw [h]
theorem un_ne {l : List UInt8} (h8 : 8 ≤ l.length) (h0 : unE l = 0) : ¬ (unZ l = unZ (xorl l) ∧ unP l = unP (xorl l)) := fun ⟨e1, e2⟩ => by
  have h1 := unE_len (xorl_len l)
  rw [h0] at h1
  rcases unE_cases l with e | e | ⟨_, e⟩
  · omega
  · omega
  rcases unE_cases (xorl l) with f | f | ⟨_, f⟩
  · omega
  · omega
  rw [e1, e2, f] at e
  exact xorl_ne (by omega) e
theorem ltr_no {v : Nat} (h : v < 64) : ltr v ≠ 46 := by
  have h1 : ((List.range 64).all fun v => decide (ltr v ≠ 46)) = true := by decide +kernel
  simpa using below h1 h
theorem enc_no {l : List UInt8} : 46 ∉ enc l := by
  rw [enc_bits]
  intro h
  obtain ⟨i, _, hi⟩ := List.mem_map.1 h
  exact ltr_no (six_lt (bit_lt l) (6 * i)) hi
theorem openV_mintR {k p : List UInt8} {z : Int} (hz : -9223372036854775808 ≤ z ∧ z ≤ 9223372036854775807) (hp : p.length ≤ 1024) : openV k (mintR k z p) = (z, p, 0) := by
  obtain ⟨h1, h2, h3⟩ := un_pack z p hz hp
  unfold mintR mintB
  rw [if_neg (by omega), openV_once (by rw [List.length_append, List.length_cons, enc_length, enc_length, hmacf_length, pack_length]; omega) enc_no enc_no, dec_enc, dec_enc]
  simp only [if_true, h1, h2, h3]
/-- the first i bytes turned -/
def xk (l : List UInt8) (i : Nat) : List UInt8 := xorl (l.take i) ++ l.drop i
theorem xk_zero (l : List UInt8) : xk l 0 = l := rfl
theorem xk_all (l : List UInt8) : xk l l.length = xorl l := by unfold xk; simp
theorem xk_len (l : List UInt8) (i : Nat) : (xk l i).length = l.length := by unfold xk; rw [List.length_append, xorl_len, List.length_take, List.length_drop]; omega
theorem xk_get {l : List UInt8} {i : Nat} (h : i < l.length) : (xk l i)[i]'(by rw [xk_len]; exact h) = l[i] := by
  have : (xk l i)[i]? = some l[i] := by
    unfold xk
    rw [List.getElem?_append_right (by rw [xorl_len, List.length_take]; omega), xorl_len, List.length_take, Nat.min_eq_left (by omega), Nat.sub_self, List.drop_eq_getElem_cons h]
    rfl
  exact (List.getElem?_eq_some_iff.1 this).2
theorem xk_set {l : List UInt8} {i : Nat} (h : i < l.length) : ((xk l i).map bv).set i (bv (l[i] ^^^ 85)) = (xk l (i + 1)).map bv := by
  rw [← List.map_set]
  congr 1
  unfold xk
  have hk : (xorl (l.take i)).length = i := by rw [xorl_len, List.length_take]; omega
  rw [List.set_append_right _ _ (by omega), hk, Nat.sub_self, List.drop_eq_getElem_cons h, List.set_cons_zero]
  have : l.take (i + 1) = l.take i ++ [l[i]] := by rw [List.take_add_one, List.getElem?_eq_getElem h]; rfl
  rw [this]
  unfold xorl
  rw [List.map_append, List.append_assoc]
  rfl
end Go.Proofs.YtoemceehmiaigaaDoor.Seal
namespace Go.Proofs.YtoemceehmiaigaaDoor.Seal
open Go.RowKit Go.Proofs.YtoemceehmiaigaaDoor.Mem Go.Proofs.YtoemceehmiaigaaDoor.Loan Go.Proofs.YtoemceehmiaigaaDoor.Sha Go.Proofs.YtoemceehmiaigaaDoor.Strs
set_option linter.unusedVariables false

theorem A72 : Arr Tryd.prog 72 [.int .i64 0, .string ⟨#[]⟩] := Arr.mk' Tryd.underlying72 rfl (by kernel_rfl)
theorem claim_one (z : Int) (s : ByteArray) : ∀ v ∈ ([.int .i64 z, .string s] : List Value), v.oneCell' = true := by simp [Value.oneCell']

def pick4 {α : Type} (a b c d : α) : Nat → α
  | 0 => a
  | 1 => b
  | 2 => c
  | _ => d
theorem ap0_four {w : World} {B : Nat} {T : TypeId} {va vb vc vd : Value} {na nb nc nd : Nat} {xa xb xc xd : List Value} (ha : w.ownsRow B T 1 va na xa) (hb : w.ownsRow B T 1 vb nb xb) (hc : w.ownsRow B T 1 vc nc xc) (hd : w.ownsRow B T 1 vd nd xd)
    (fab : Far va vb) (fac : Far va vc) (fad : Far va vd) (fbc : Far vb vc) (fbd : Far vb vd) (fcd : Far vc vd) (o : Obj) :
    Ap0 (w.alloc o) (w.alloc o) B T 1 4 (fun k => ∃ i, i < 4 ∧ (pick4 va vb vc vd i).ownBlock = some k) (fun b => b = w.heap.size) (pick4 va vb vc vd) (pick4 na nb nc nd) (pick4 xa xb xc xd) := by
  have own : ∀ i, i < 4 → w.ownsRow B T 1 (pick4 va vb vc vd i) (pick4 na nb nc nd i) (pick4 xa xb xc xd i) := fun i hi => by
    have : i = 0 ∨ i = 1 ∨ i = 2 ∨ i = 3 := by omega
    rcases this with rfl | rfl | rfl | rfl
    · exact ha
    · exact hb
    · exact hc
    · exact hd
  refine ⟨fun i hi => (own i hi).alloc o, fun i j hi hj hne => ?_, GrownS.refl _ _, fun i hi b e => ⟨i, hi, e⟩, fun b e => by subst e; simp, fun b e i hi h => by
    subst e
    have := ((own i hi).lt _ h).2
    omega⟩
  have h1 : i = 0 ∨ i = 1 ∨ i = 2 ∨ i = 3 := by omega
  have h2 : j = 0 ∨ j = 1 ∨ j = 2 ∨ j = 3 := by omega
  rcases h1 with rfl | rfl | rfl | rfl <;> rcases h2 with rfl | rfl | rfl | rfl <;> first
    | exact absurd rfl hne
    | exact fab
    | exact fac
    | exact fad
    | exact fbc
    | exact fbd
    | exact fcd
    | exact fab.symm
    | exact fac.symm
    | exact fad.symm
    | exact fbc.symm
    | exact fbd.symm
    | exact fcd.symm
theorem pick4_all {α : Type} {P : Nat → α → Prop} {a b c d : α} (ha : P 0 a) (hb : P 1 b) (hc : P 2 c) (hd : P 3 d) : ∀ i, i < 4 → P i (pick4 a b c d i) := fun i hi => by
  have : i = 0 ∨ i = 1 ∨ i = 2 ∨ i = 3 := by omega
  rcases this with rfl | rfl | rfl | rfl
  · exact ha
  · exact hb
  · exact hc
  · exact hd
theorem encode_m {l : List UInt8} {n c : Nat} {A : Option Addr} {ts : ByteArray} {W : World} (hts : ts = ⟨(enc l).toArray⟩) (hn : n = l.length) (hl : n ≤ 1048576) (h : RB W A l) :
    Calls Tryd.prog 42 #[.slice A n c] W fun e w' => e = .returned (.string ts) ∧ Below W.heap.size W w' := by
  rw [hn, hts]
  exact encode_any A c l W h (by omega)
theorem unpack_m {l : List UInt8} {n c : Nat} {A : Option Addr} {uz ue : Int} {us : ByteArray} {W : World} (huz : uz = unZ l) (hus : us = ⟨(unP l).toArray⟩) (hue : ue = unE l) (hn : n = l.length) (hc : n ≤ c) (hl : c ≤ maxLen) (h : RB W A l) :
    Calls Tryd.prog 43 #[.slice A n c] W fun e w' => e = .returned (.tuple #[.agg #[.int .i64 uz, .string us], .int .i64 ue]) ∧ Below W.heap.size W w' := by
  rw [huz, hus, hue]
  exact unpack_any A c n l W h hn hc hl
theorem mint_k {k p : List UInt8} {z me : Int} {n c : Nat} {A : Option Addr} {sp ms : ByteArray} {W : World} (hsp : sp = ⟨p.toArray⟩) (hms : ms = ⟨(mintR k z p).toArray⟩) (hme : me = packE p) (hn : n = k.length) (hc : n ≤ c) (hl : n ≤ 1048576)
    (hz : -9223372036854775808 ≤ z ∧ z ≤ 9223372036854775807) (hp : p.length ≤ 1048576) (hG : GB W) (h : RB W A k) :
    Calls Tryd.prog 35 #[.slice A n c, .agg #[.int .i64 z, .string sp]] W fun e w' => e = .returned (.tuple #[.string ms, .int .i64 me]) ∧ Below W.heap.size W w' := by
  rw [hsp, hms, hme]
  exact mint_any k z p A n c W hn h hc (by omega) hz hp hG
theorem mintR_len (k : List UInt8) (z : Int) (p : List UInt8) : (mintR k z p).length ≤ 1073741824 := by
  unfold mintR
  split
  · simp
  · unfold mintB; rw [List.length_append, List.length_cons, enc_length, enc_length, hmacf_length, pack_length]; omega
theorem open_k {k t : List UInt8} {oz oe : Int} {n c : Nat} {A : Option Addr} {os st : ByteArray} {W : World} (hst : st = ⟨t.toArray⟩) (hoz : oz = (openV k t).1) (hos : os = ⟨(openV k t).2.1.toArray⟩) (hoe : oe = (openV k t).2.2) (hn : n = k.length) (hc : n ≤ c) (hl : n ≤ 1048576) (ht : t.length ≤ 1073741824)
    (hG : GB W) (h : RB W A k) :
    Calls Tryd.prog 36 #[.slice A n c, .string st] W fun e w' => e = .returned (.tuple #[.agg #[.int .i64 oz, .string os], .int .i64 oe]) ∧ Below W.heap.size W w' := by
  rw [hst, hoz, hos, hoe]
  exact open_any k t A n c W hn h hc (by omega) ht hG
theorem decode_k {l : List UInt8} {n : Nat} {ts : ByteArray} {W : World} (hts : ts = ⟨(enc l).toArray⟩) (hn : n = l.length) (hl : n ≤ 1048576) :
    Calls Tryd.prog 40 #[.string ts] W fun e w' => ∃ A c, e = .returned (.tuple #[.slice A n c, .int .i64 0]) ∧ w'.ownsRow W.heap.size 5 1 (.slice A n c) n (l.map bv) ∧ Below W.heap.size W w' := by
  rw [hts]
  refine (decode_any (enc l) W (by rw [enc_length]; omega)).mono ?_
  intro e w' h
  rw [dec_enc] at h
  obtain ⟨v, rfl, ho, hb⟩ := h
  obtain ⟨A, n', c, rfl, hn'⟩ := own_form ho
  rw [hn'] at ho ⊢
  rw [← hn] at ho ⊢
  exact ⟨A, c, rfl, ho, hb⟩
theorem pack_k {p : List UInt8} {z me : Int} {q : Nat} {sp : ByteArray} {W : World} (hsp : sp = ⟨p.toArray⟩) (hq : q = (packB z p).length) (hme : me = packE p) (hz : -9223372036854775808 ≤ z ∧ z ≤ 9223372036854775807) (hp : p.length ≤ 1048576) :
    Calls Tryd.prog 45 #[.agg #[.int .i64 z, .string sp]] W fun e w' => ∃ A c, e = .returned (.tuple #[.slice A q c, .int .i64 me]) ∧ w'.ownsRow W.heap.size 5 1 (.slice A q c) q ((packB z p).map bv) ∧ Below W.heap.size W w' := by
  rw [hsp, hme]
  refine (pack_any z p W hz (by omega)).mono ?_
  intro e w' h
  unfold PackPost at h
  unfold packE
  unfold packB at hq ⊢
  by_cases hl : 1024 < p.length
  · simp only [if_pos hl] at h hq ⊢
    obtain rfl : q = 0 := hq
    exact ⟨none, 0, h.1, World.ownsRow_nil w' _ _ _, h.2⟩
  · simp only [if_neg hl] at h hq ⊢
    obtain ⟨v, rfl, ho, hb⟩ := h
    obtain ⟨A, n', c, rfl, hn'⟩ := own_form ho
    rw [hn', ← hq] at ho ⊢
    exact ⟨A, c, rfl, ho, hb⟩

set_option maxRecDepth 4000 in
set_option maxHeartbeats 64000000 in
theorem law_keeps (K : Option Addr) (kc : Nat) (key : List UInt8) (Bd : Option Addr) (bc : Nat) (b : List UInt8) (z : Int) (p : List UInt8) (w : World) (hK : RB w K key) (hkc : key.length ≤ kc) (hkl : key.length ≤ 1048576)
    (hB : RB w Bd b) (hbl : b.length ≤ 1048576)
    (hz : -9223372036854775808 ≤ z ∧ z ≤ 9223372036854775807) (hp : p.length ≤ 1048576) (hG : GB w) :
    Calls Tryd.prog 14 #[.slice K key.length kc, .slice Bd b.length bc, .agg #[.int .i64 z, .string ⟨p.toArray⟩]] w fun e w' => e = .returned (.bool true) ∧ Below w.heap.size w w' := by
  obtain ⟨n, hn⟩ : ∃ n, n = key.length := ⟨_, rfl⟩
  obtain ⟨m, hm⟩ : ∃ m, m = b.length := ⟨_, rfl⟩
  obtain ⟨sp, hsp⟩ : ∃ x, x = (⟨p.toArray⟩ : ByteArray) := ⟨_, rfl⟩
  obtain ⟨lp, hlp⟩ : ∃ x, x = p.length := ⟨_, rfl⟩
  have hsz : sp.size = lp := by rw [hsp, hlp]; simp [ByteArray.size]
  have hlpi : (lp : Int) ≤ 1048576 := by omega
  have hni : n ≤ 1048576 := by omega
  have hmi : m ≤ 1048576 := by omega
  rw [← hn, ← hm, ← hsp]
  have HK := Lib.hid (And.intro hn (And.intro hK (And.intro hkc hG)))
  have HB := Lib.hid (And.intro hm hB)
  have HP := Lib.hid (And.intro hsp (And.intro hlp (And.intro hz hp)))
  clear hn hm hsp hlp hK hkc hkl hB hbl hz hp hG
  obtain ⟨w0, hw0⟩ : ∃ W, W = w.alloc (.cells #[.int .i64 z, .string sp] 72) := ⟨_, rfl⟩
  have hb0 : Below w.heap.size w w0 := hw0 ▸ ga (gr w) _
  have hC0 : Blk w0 w.heap.size 72 [.int .i64 z, .string sp] := hw0 ▸ Blk.new w 72 [.int .i64 z, .string sp]
  have D0 := Lib.hid hb0
  have C0 := Lib.hid hC0
  go_enter Tryd.func14, Tryd.ntmps14
  go_upto_region 3 with (first
    | (go_at_call 37; go_must (refine (alive_any _).mono ?_); rintro e w1 ⟨rfl, hb1⟩))
  rw [← hw0] at hb1
  have X1 := Lib.hid (show Below w.heap.size w w1 from gt hb0 hb1)
  have C1 := Lib.hid (hC0.grow hb1)
  clear hw0 hb0 hC0 D0 C0 hb1
  go_upto_region 4 with (first
    | (go_at_call 41; (with_reducible show Calls _ _ #[Value.slice K _ _] _ _); go_must (refine (roomy_any K n kc key w1 (HK.out.2.1.below X1.out) HK.out.1 (by omega)).mono ?_); rintro e w2 ⟨A7, c7, rfl, ho2, hb2⟩)
    | (go_at_call 41; (with_reducible show Calls _ _ #[Value.slice Bd _ _] _ _); go_must (refine (roomy_any Bd m bc b w2 (HB.out.2.below (gt X1.out hb2)) HB.out.1 (by omega)).mono ?_); rintro e w3 ⟨A8, c8, rfl, ho3, hb3⟩))
  obtain ⟨g7, rfl, _, hc7⟩ := own_addr ho2 (by omega)
  obtain ⟨g8, rfl, _, hc8⟩ := own_addr ho3 (by omega)
  have hm7 := (own_cap ho2).2
  have hm8 := (own_cap ho3).2
  have D2 := Lib.hid hb2
  have D3 := Lib.hid hb3
  have Q7 := Lib.hid (Row.new ho2)
  have Q8 := Lib.hid (Row.new ho3)
  clear ho2 ho3 hb2 hb3
  have hi7 : (n : Int) ≤ (c7 : Int) := by omega
  have hi8 : (m : Int) ≤ (c8 : Int) := by omega
  go_quiet (fail)
  obtain ⟨w4, hw4⟩ : ∃ W, W = w3.drewN nq := ⟨_, rfl⟩
  rw [← hw4]
  have D4 := Lib.hid (show Below w3.heap.size w3 w4 from hw4 ▸ gn (gr w3) nq)
  clear hw4
  have F7 := Lib.hid (Row.front (xs := key.map bv) (ys := (room 70).map bv) (by have := (Q7.out.below D3.out).below D4.out; rw [List.map_append] at this; exact this) (by rw [List.length_map, ← HK.out.1]; simp))
  have F8 := Lib.hid (Row.front (xs := b.map bv) (ys := (room 70).map bv) (by have := Q8.out.below D4.out; rw [List.map_append] at this; exact this) (by rw [List.length_map, ← HB.out.1]; simp))
  have X4 := Lib.hid (gt (gt (gt X1.out D2.out) D3.out) D4.out)
  have C4 := Lib.hid (C1.out.grow (gt (gt D2.out D3.out) D4.out))
  have hc7n : n ≤ c7 := by omega
  have hc8m : m ≤ c8 := by omega
  obtain ⟨ts, hts⟩ : ∃ x : ByteArray, x = ⟨(enc b).toArray⟩ := ⟨_, rfl⟩
  obtain ⟨uz, huz⟩ : ∃ x, x = unZ b := ⟨_, rfl⟩
  obtain ⟨us, hus⟩ : ∃ x : ByteArray, x = ⟨(unP b).toArray⟩ := ⟨_, rfl⟩
  obtain ⟨ue, hue⟩ : ∃ x, x = unE b := ⟨_, rfl⟩
  obtain ⟨ms, hms⟩ : ∃ x : ByteArray, x = ⟨(mintR key z p).toArray⟩ := ⟨_, rfl⟩
  obtain ⟨me, hme⟩ : ∃ x, x = packE p := ⟨_, rfl⟩
  obtain ⟨oz, hoz⟩ : ∃ x, x = (openV key (mintR key z p)).1 := ⟨_, rfl⟩
  obtain ⟨os, hos⟩ : ∃ x : ByteArray, x = ⟨(openV key (mintR key z p)).2.1.toArray⟩ := ⟨_, rfl⟩
  obtain ⟨oe, hoe⟩ : ∃ x, x = (openV key (mintR key z p)).2.2 := ⟨_, rfl⟩
  have HT := Lib.hid hts
  have HU := Lib.hid (And.intro huz (And.intro hus hue))
  have HM := Lib.hid (And.intro hms hme)
  have HO := Lib.hid (And.intro hoz (And.intro hos hoe))
  clear hts huz hus hue hms hme hoz hos hoe hi7 hi8 hc7 hc8
  go_upto_region 6 with (go_at_call 42; go_must (refine (encode_m HT.out HB.out.1 hmi F8.out.rb).mono ?_); rintro e w5 ⟨rfl, hb5⟩)
  have D5 := Lib.hid hb5
  clear hb5
  go_upto_region 7 with (first
    | (go_at_call 43; go_must (refine (unpack_m HU.out.1 HU.out.2.1 HU.out.2.2 HB.out.1 hc8m hm8 (F8.out.below D5.out).rb).mono ?_); rintro e w6 ⟨rfl, hb6⟩)
    | ((with_reducible show wpList _ _ _ (⟨some 12, _, _, _, _, _⟩ :: _) _ _); go_must (refine wpList_allocB (op := ⟨some 12, _, _, _, _, _⟩) A72 rfl rfl w6.heap.size rfl ?_); intro w7 hBw7 hbw7 hzw7)
    | ((with_reducible show wpList _ _ _ (⟨none, .store 72 (.tmp 12) _, _, _, _, _⟩ :: _) _ _); go_must (refine wpList_storeB (op := ⟨none, _, _, _, _, _⟩) A72 rfl _ _ rfl w6.heap.size 0 (by go_simp) [.int .i64 uz, .string us] (by go_simp) rfl _ _ hBw7 (Nat.le_refl 2) (claim_one _ _) ?_); intro w8 hBw8 hgw8 hzw8))
  have D6 := Lib.hid hb6
  have D8 := Lib.hid (show Below w6.heap.size w6 w8 from gst (gr w6) hbw7 hgw8 (Nat.le_refl _))
  have B8 := Lib.hid (show Blk w8 w6.heap.size 72 [.int .i64 uz, .string us] from hBw8)
  have C8 := Lib.hid (C4.out.grow (gt (gt D5.out D6.out) D8.out))
  have X8 := Lib.hid (gt (gt (gt X4.out D5.out) D6.out) D8.out)
  clear hBw7 hbw7 hzw7 hBw8 hgw8 hzw8 hb6
  go_upto_region 8 with (first
    | ((with_reducible show wpList _ _ _ (⟨some 63, _, _, _, _, _⟩ :: _) _ _); go_must (refine wpList_loadB (op := ⟨some 63, _, _, _, _, _⟩) A72 rfl _ rfl w.heap.size 0 (by go_simp) _ _ C8.out [.int .i64 z, .string sp] rfl rfl ?_))
    | (go_at_call 35; go_must (refine (mint_k HP.out.1 HM.out.1 HM.out.2 HK.out.1 hc7n hni HP.out.2.2.1 HP.out.2.2.2 (HK.out.2.2.2.grow X8.out) (((F7.out.below D5.out).below D6.out).below D8.out).rb).mono ?_); rintro e w9 ⟨rfl, hb9⟩))
  have D9 := Lib.hid hb9
  have X9 := Lib.hid (gt X8.out hb9)
  clear hb9
  go_upto_region 9 with (first
    | (go_at_call 36; go_must (refine (open_k HM.out.1 HO.out.1 HO.out.2.1 HO.out.2.2 HK.out.1 hc7n hni (mintR_len _ _ _) (HK.out.2.2.2.grow X9.out) ((((F7.out.below D5.out).below D6.out).below D8.out).below D9.out).rb).mono ?_); rintro e w10 ⟨rfl, hb10⟩)
    | ((with_reducible show wpList _ _ _ (⟨some 16, _, _, _, _, _⟩ :: _) _ _); go_must (refine wpList_allocB (op := ⟨some 16, _, _, _, _, _⟩) A72 rfl rfl w10.heap.size rfl ?_); intro w11 hBw11 hbw11 hzw11)
    | ((with_reducible show wpList _ _ _ (⟨none, .store 72 (.tmp 16) _, _, _, _, _⟩ :: _) _ _); go_must (refine wpList_storeB (op := ⟨none, _, _, _, _, _⟩) A72 rfl _ _ rfl w10.heap.size 0 (by go_simp) [.int .i64 oz, .string os] (by go_simp) rfl _ _ hBw11 (Nat.le_refl 2) (claim_one _ _) ?_); intro w12 hBw12 hgw12 hzw12))
  have D12 := Lib.hid (gt hb10 (show Below w10.heap.size w10 w12 from gst (gr w10) hbw11 hgw12 (Nat.le_refl _)))
  have B12 := Lib.hid (show Blk w12 w10.heap.size 72 [.int .i64 oz, .string os] from hBw12)
  have X12 := Lib.hid (gt X9.out D12.out)
  have G12 := Lib.hid (gt (gt (gt (gt D5.out D6.out) D8.out) D9.out) D12.out)
  clear hb10 hBw11 hbw11 hzw11 hBw12 hgw12 hzw12
  go_upto_region 11 with (first
    | (go_at_call 44; (with_reducible show Calls _ _ #[_, Value.slice K _ _] _ _); go_must (refine (kept_any (some ⟨g7, 0, none⟩) K (n + 70) n c7 kc (key ++ room 70) key w12 (Q7.out.below (gt (gt D3.out D4.out) G12.out)).rb (HK.out.2.1.below X12.out) (by rw [List.length_append, room_len, ← HK.out.1]) HK.out.1 (by omega)).mono ?_); rw [decide_eq_true rfl]; rintro e w13 ⟨rfl, hb13⟩)
    | (go_at_call 44; (with_reducible show Calls _ _ #[_, Value.slice Bd _ _] _ _); go_must (refine (kept_any (some ⟨g8, 0, none⟩) Bd (m + 70) m c8 bc (b ++ room 70) b w13 (Q8.out.below (gt (gt D4.out G12.out) hb13)).rb (HB.out.2.below (gt X12.out hb13)) (by rw [List.length_append, room_len, ← HB.out.1]) HB.out.1 (by omega)).mono ?_); rw [decide_eq_true rfl]; rintro e w14 ⟨rfl, hb14⟩))
  have D14 := Lib.hid (gt hb13 hb14)
  have X14 := Lib.hid (gt X12.out D14.out)
  have C14 := Lib.hid (C8.out.grow (gt (gt D9.out D12.out) D14.out))
  have F7' := Lib.hid (F7.out.below (gt G12.out D14.out))
  have F8' := Lib.hid (F8.out.below (gt G12.out D14.out))
  have U14 := Lib.hid (B8.out.grow (gt (gt D9.out D12.out) D14.out))
  have O14 := Lib.hid (B12.out.grow D14.out)
  have c0 := C14.out.cell 0
  have c1 := C14.out.cell 1
  have o0 := O14.out.cell 0
  have o1 := O14.out.cell 1
  simp only [List.getElem?_cons_succ, List.getElem?_cons_zero] at c0 c1 o0 o1
  have sz1 : w.heap.size ≤ w1.heap.size := X1.out.size
  have sz2 := D2.out.size
  have sz3 := D3.out.size
  have sz4 := D4.out.size
  have sz5 := D5.out.size
  have sz6 := D6.out.size
  have E78 := Lib.hid (F7.out.far F8.out (Nat.le_refl _))
  have Hu := Lib.hid (And.intro (show w.heap.size ≤ w6.heap.size by omega) (show w3.heap.size ≤ w6.heap.size by omega))
  have Hlo := Lib.hid (And.intro (show w.heap.size ≤ w1.heap.size by omega) (show w.heap.size ≤ w2.heap.size by omega))
  clear hb13 hb14 sz1 sz2 sz3 sz4 sz5 sz6
  have Hsh := Lib.hid (show lp ≤ 1024 → me = 0 ∧ oz = z ∧ os = sp ∧ oe = 0 from fun h => by
    have hl : p.length ≤ 1024 := by have := HP.out.2.1; omega
    have ho := openV_mintR (k := key) (z := z) (p := p) HP.out.2.2.1 hl
    refine ⟨by rw [HM.out.2]; unfold packE; rw [if_neg (by omega)], by rw [HO.out.1, ho], by rw [HO.out.2.1, ho, HP.out.1], by rw [HO.out.2.2, ho]⟩)
  rcases Nat.lt_or_ge 1024 lp with hlong | hshort
  case' inr =>
    have hlo : (lp : Int) ≤ 1024 := by omega
    obtain ⟨h1, h2, h3, h4⟩ := Hsh.out hshort
    obtain rfl : z = oz := h2.symm
    obtain rfl : sp = os := h3.symm
    subst h1 h4
    clear hshort
    go_upto_region 13 with fail
  case' inl =>
    have hlo : ¬ (lp : Int) ≤ 1024 := by omega
    clear hlong
    go_upto_region 13 with fail
  all_goals
    clear hlo o0 o1 c0 c1 O14 B12 Hsh HO
    go_wp2
    go_loopw [18] (fun v wr => ∃ i : Nat, i ≤ n ∧ v = .int .i64 i ∧ Grown2 w14 wr (some g7) (some g7) ∧ wr.ownsRow w.heap.size 5 1 (.slice (some ⟨g7, 0, none⟩) n c7) n ((xk key i).map bv)) (fun v _ => n - (intOf v).toNat)
    case atStart => exact ⟨0, by omega, rfl, Grown2.refl _ _ _, (F7'.out.low Hlo.out.1).own⟩
    case round =>
      obtain ⟨i, hi, rfl, hG, ho⟩ := hrel
      by_cases hlt : i < n
      · have hik : i < key.length := by have := HK.out.1; omega
        obtain ⟨x, hx⟩ : ∃ x, x = key[i] := ⟨_, rfl⟩
        obtain ⟨y, hy⟩ : ∃ y, y = x ^^^ 85 := ⟨_, rfl⟩
        have hc : wr.cell? ⟨g7, i, none⟩ = some (bv x) := by
          rw [ho.cellAt i (by omega), List.getElem?_map, List.getElem?_eq_getElem (by rw [xk_len]; exact hik), Option.map_some, xk_get hik, hx]
        have hxo : bits .xor .u8 (x.toNat : Int) 85 = (y.toNat : Int) := by rw [hy]; exact xor8 x
        have hf := ho.frozenAt i
        have ho2 := (ho.stored i (bv y)).1
        have hg2 := (ho.stored i (bv y)).2
        rw [hy, hx, xk_set hik, ← hx, ← hy] at ho2
        have X := Lib.hid (And.intro (hG.step hg2 (fun k hk => .inl hk.symm)) (And.intro ho2 hlt))
        have hii : (i : Int) < (n : Int) := by omega
        have hi0 : (0 : Int) ≤ (i : Int) := by omega
        clear hG ho ho2 hg2 hx hy hik hlt hi
        unfold bv at hc
        go_wp2
        go_roundw
        case rel => exact ⟨i + 1, by have := X.out.2.2; omega, by go_num, X.out.1, X.out.2.1⟩
        case measure => have := X.out.2.2; simp [intOf]; omega
      · obtain rfl : i = n := by omega
        have hii : ¬ (i : Int) < (i : Int) := by omega
        obtain ⟨kb, hkb⟩ : ∃ x, x = xorl key := ⟨_, rfl⟩
        have hkbl : i = kb.length := by rw [hkb, xorl_len]; exact HK.out.1
        rw [show xk key i = kb by rw [hkb, HK.out.1, xk_all]] at ho
        have HKB := Lib.hid (And.intro hkb hkbl)
        have J7 := Lib.hid (And.intro hG (show Row wr w.heap.size wr.heap.size 5 1 (.slice (some ⟨g7, 0, none⟩) i c7) i (kb.map bv) from Row.of ho))
        have J8 := Lib.hid (F8'.out.grown2 hG (E78.out.ne.resolve_left (by simp [Value.ownBlock]) |> fun h => .inr h) (.inr (E78.out.ne.resolve_left (by simp [Value.ownBlock]))))
        clear hkb hkbl hG ho hlt hi
        go_wp2
        go_loopw [19] (fun v wr2 => ∃ j : Nat, j ≤ m ∧ v = .int .i64 j ∧ Grown2 wr wr2 (some g8) (some g8) ∧ wr2.ownsRow w.heap.size 5 1 (.slice (some ⟨g8, 0, none⟩) m c8) m ((xk b j).map bv)) (fun v _ => m - (intOf v).toNat)
        case atStart => exact ⟨0, by omega, rfl, Grown2.refl _ _ _, (J8.out.low Hlo.out.2).own⟩
        case round =>
          obtain ⟨j, hj, rfl, hG, ho⟩ := hrel
          by_cases hlt : j < m
          · have hik : j < b.length := by have := HB.out.1; omega
            obtain ⟨x, hx⟩ : ∃ x, x = b[j] := ⟨_, rfl⟩
            obtain ⟨y, hy⟩ : ∃ y, y = x ^^^ 85 := ⟨_, rfl⟩
            have hc : wr.cell? ⟨g8, j, none⟩ = some (bv x) := by
              rw [ho.cellAt j (by omega), List.getElem?_map, List.getElem?_eq_getElem (by rw [xk_len]; exact hik), Option.map_some, xk_get hik, hx]
            have hxo : bits .xor .u8 (x.toNat : Int) 85 = (y.toNat : Int) := by rw [hy]; exact xor8 x
            have hf := ho.frozenAt j
            have ho2 := (ho.stored j (bv y)).1
            have hg2 := (ho.stored j (bv y)).2
            rw [hy, hx, xk_set hik, ← hx, ← hy] at ho2
            have X := Lib.hid (And.intro (hG.step hg2 (fun k hk => .inl hk.symm)) (And.intro ho2 hlt))
            have hii : (j : Int) < (m : Int) := by omega
            have hi0 : (0 : Int) ≤ (j : Int) := by omega
            clear hG ho ho2 hg2 hx hy hik hlt hj
            unfold bv at hc
            go_wp2
            go_roundw
            case rel => exact ⟨j + 1, by have := X.out.2.2; omega, by go_num, X.out.1, X.out.2.1⟩
            case measure => have := X.out.2.2; simp [intOf]; omega
          · obtain rfl : j = m := by omega
            have hjj : ¬ (j : Int) < (j : Int) := by omega
            obtain ⟨bb, hbb⟩ : ∃ x, x = xorl b := ⟨_, rfl⟩
            have hbbl : j = bb.length := by rw [hbb, xorl_len]; exact HB.out.1
            rw [show xk b j = bb by rw [hbb, HB.out.1, xk_all]] at ho
            have HBB := Lib.hid (And.intro hbb hbbl)
            have L8 := Lib.hid (show Row wr w.heap.size wr.heap.size 5 1 (.slice (some ⟨g8, 0, none⟩) j c8) j (bb.map bv) from Row.of ho)
            have L7 := Lib.hid (J7.out.2.grown2 hG (.inr (E78.out.symm.ne.resolve_left (by simp [Value.ownBlock]))) (.inr (E78.out.symm.ne.resolve_left (by simp [Value.ownBlock]))))
            have X20 := Lib.hid (hG.low (J7.out.1.low X14.out X14.out.size (fun k hk => by injection hk with hk; subst hk; exact (L7.out.own.lt _ rfl).1) (fun k hk => by injection hk with hk; subst hk; exact (L7.out.own.lt _ rfl).1)) (Nat.le_trans X14.out.size J7.out.1.size) (fun k hk => by injection hk with hk; subst hk; exact (L8.out.own.lt _ rfl).1) (fun k hk => by injection hk with hk; subst hk; exact (L8.out.own.lt _ rfl).1))
            have q1 := (F7'.out.own.lt g7 rfl).1
            have q2 := C1.out.lt
            have q3 := (F8'.out.own.lt g8 rfl).1
            have q4 := D2.out.size
            have q5 := F7'.out.lt g7 rfl
            have q6 := F8'.out.lt g8 rfl
            have q7 := D3.out.size
            have q8 := Hu.out.2
            have C20 := Lib.hid (show Blk wr w.heap.size 72 [.int .i64 z, .string sp] from ((hG.block _ (Nat.lt_of_lt_of_le C14.out.lt J7.out.1.size) (by simp; omega) (by simp; omega)).trans (J7.out.1.block _ C14.out.lt (by simp; omega) (by simp; omega))).trans C14.out)
            have U20 := Lib.hid (show Blk wr w6.heap.size 72 [.int .i64 uz, .string us] from ((hG.block _ (Nat.lt_of_lt_of_le U14.out.lt J7.out.1.size) (by simp; omega) (by simp; omega)).trans (J7.out.1.block _ U14.out.lt (by simp; omega) (by simp; omega))).trans U14.out)
            obtain ⟨vz, hvz⟩ : ∃ x, x = unZ bb := ⟨_, rfl⟩
            obtain ⟨vs, hvs⟩ : ∃ x : ByteArray, x = ⟨(unP bb).toArray⟩ := ⟨_, rfl⟩
            obtain ⟨ve, hve⟩ : ∃ x, x = unE bb := ⟨_, rfl⟩
            obtain ⟨ms2, hms2⟩ : ∃ x : ByteArray, x = ⟨(mintR kb z p).toArray⟩ := ⟨_, rfl⟩
            obtain ⟨ts2, hts2⟩ : ∃ x : ByteArray, x = ⟨(enc bb).toArray⟩ := ⟨_, rfl⟩
            obtain ⟨me2, hme2⟩ : ∃ x, x = packE p := ⟨_, rfl⟩
            have HV := Lib.hid (And.intro hvz (And.intro hvs hve))
            have HM2 := Lib.hid (And.intro hms2 hme2)
            have HT2 := Lib.hid hts2
            clear hG ho hbb hbbl hvz hvs hve hms2 hts2 hme2 hj hlt q1 q2 q3 q4 q5 q6 q7 q8
            go_upto_region 22 with (first
              | ((with_reducible show wpList _ _ _ (⟨some 124, _, _, _, _, _⟩ :: _) _ _); go_must (refine wpList_zeroG E8 (by decide) rfl rfl wr.heap.size rfl ?_); intro w21 ho21 hb21 hz21)
              | ((with_reducible show wpList _ _ _ (⟨some 126, _, _, _, _, _⟩ :: _) _ _); go_must (refine wpList_appG E8 rfl (.tmp 124) (.tmp 125) rfl wr.heap.size (.slice (some ⟨wr.heap.size, 0, none⟩) 0 0) 0 [] (by go_simp) ho21 (some ⟨g8, 0, none⟩) j c8 (bb.map bv) (by go_simp) (L8.out.below hb21).rv (by rw [List.length_map, ← HBB.out.2]; simp) (bytes_oneCell bb) (by unfold maxLen; omega) (by omega) (by omega) ?_); intro v22 w22 ho22 hg22 _; have hb22 := below_own hb21 ho21 hg22 hb21.size; rw [Nat.zero_add, List.nil_append] at ho22; obtain ⟨A22, n22, c22, rfl, hn22⟩ := own_form ho22; subst hn22; clear ho21 hg22 hb21 hz21)
              | ((with_reducible show wpList _ _ _ (⟨some 127, _, _, _, _, _⟩ :: _) _ _); go_must (refine wpList_zeroG E8 (by decide) rfl rfl w22.heap.size rfl ?_); intro w23 ho23 hb23 hz23)
              | ((with_reducible show wpList _ _ _ (⟨some 129, _, _, _, _, _⟩ :: _) _ _); go_must (refine wpList_appG E8 rfl (.tmp 127) (.tmp 128) rfl w22.heap.size (.slice (some ⟨w22.heap.size, 0, none⟩) 0 0) 0 [] (by go_simp) ho23 (some ⟨g7, 0, none⟩) i c7 (kb.map bv) (by go_simp) ((L7.out.below hb22).below hb23).rv (by rw [List.length_map, ← HKB.out.2]; simp) (bytes_oneCell kb) (by unfold maxLen; omega) (by omega) (by omega) ?_); intro v24 w24 ho24 hg24 _; have hb24 := below_own hb23 ho23 hg24 hb23.size; rw [Nat.zero_add, List.nil_append] at ho24; obtain ⟨A24, n24, c24, rfl, hn24⟩ := own_form ho24; subst hn24; clear ho23 hg24 hb23 hz23))
            have c22m := own_cap ho22
            have c24m := own_cap ho24
            have D22 := Lib.hid hb22
            have D24 := Lib.hid hb24
            have Y22 := Lib.hid (Row.new ho22)
            have Y24 := Lib.hid (Row.new ho24)
            have K7 := Lib.hid (L7.out.below (gt hb22 hb24))
            have K8 := Lib.hid (L8.out.below (gt hb22 hb24))
            have X24 := Lib.hid (gt X20.out (gt hb22 hb24))
            clear hb22 hb24 ho22 ho24
            go_upto_region 23 with (first
              | (go_at_call 43; go_must (refine (unpack_m HV.out.1 HV.out.2.1 HV.out.2.2 HBB.out.2 hc8m hm8 K8.out.rb).mono ?_); rintro e w25 ⟨rfl, hb25⟩)
              | ((with_reducible show wpList _ _ _ (⟨some 22, _, _, _, _, _⟩ :: _) _ _); go_must (refine wpList_allocB (op := ⟨some 22, _, _, _, _, _⟩) A72 rfl rfl w25.heap.size rfl ?_); intro w26 hBw26 hbw26 hzw26)
              | ((with_reducible show wpList _ _ _ (⟨none, .store 72 (.tmp 22) _, _, _, _, _⟩ :: _) _ _); go_must (refine wpList_storeB (op := ⟨none, _, _, _, _, _⟩) A72 rfl _ _ rfl w25.heap.size 0 (by go_simp) [.int .i64 vz, .string vs] (by go_simp) rfl _ _ hBw26 (Nat.le_refl 2) (claim_one _ _) ?_); intro w27 hBw27 hgw27 hzw27))
            have D27 := Lib.hid (gt hb25 (show Below w25.heap.size w25 w27 from gst (gr w25) hbw26 hgw27 (Nat.le_refl _)))
            have B27 := Lib.hid (show Blk w27 w25.heap.size 72 [.int .i64 vz, .string vs] from hBw27)
            clear hb25 hBw26 hbw26 hzw26 hBw27 hgw27 hzw27
            go_upto_region 24 with (first
              | (go_at_call 43; go_must (refine (unpack_m HV.out.1 HV.out.2.1 HV.out.2.2 HBB.out.2 c22m.1 c22m.2 ((Y22.out.below D24.out).below D27.out).rb).mono ?_); rintro e w28 ⟨rfl, hb28⟩)
              | ((with_reducible show wpList _ _ _ (⟨some 24, _, _, _, _, _⟩ :: _) _ _); go_must (refine wpList_allocB (op := ⟨some 24, _, _, _, _, _⟩) A72 rfl rfl w28.heap.size rfl ?_); intro w29 hBw29 hbw29 hzw29)
              | ((with_reducible show wpList _ _ _ (⟨none, .store 72 (.tmp 24) _, _, _, _, _⟩ :: _) _ _); go_must (refine wpList_storeB (op := ⟨none, _, _, _, _, _⟩) A72 rfl _ _ rfl w28.heap.size 0 (by go_simp) [.int .i64 vz, .string vs] (by go_simp) rfl _ _ hBw29 (Nat.le_refl 2) (claim_one _ _) ?_); intro w30 hBw30 hgw30 hzw30))
            have D30 := Lib.hid (gt hb28 (show Below w28.heap.size w28 w30 from gst (gr w28) hbw29 hgw30 (Nat.le_refl _)))
            have B30 := Lib.hid (show Blk w30 w28.heap.size 72 [.int .i64 vz, .string vs] from hBw30)
            have X30 := Lib.hid (gt (gt X24.out D27.out) D30.out)
            have C30 := Lib.hid (C20.out.grow (gt (gt (gt D22.out D24.out) D27.out) D30.out))
            clear hb28 hBw29 hbw29 hzw29 hBw30 hgw30 hzw30
            go_upto_region 25 with (first
              | ((with_reducible show wpList _ _ _ (⟨some 142, _, _, _, _, _⟩ :: _) _ _); go_must (refine wpList_loadB (op := ⟨some 142, _, _, _, _, _⟩) A72 rfl _ rfl w.heap.size 0 (by go_simp) _ _ C30.out [.int .i64 z, .string sp] rfl rfl ?_))
              | (go_at_call 35; go_must (refine (mint_k HP.out.1 HM2.out.1 HM2.out.2 HKB.out.2 hc7n hni HP.out.2.2.1 HP.out.2.2.2 (HK.out.2.2.2.grow X30.out) ((K7.out.below D27.out).below D30.out).rb).mono ?_); rintro e w31 ⟨rfl, hb31⟩))
            have D31 := Lib.hid hb31
            have X31 := Lib.hid (gt X30.out hb31)
            clear hb31
            go_upto_region 26 with (first
              | ((with_reducible show wpList _ _ _ (⟨some 148, _, _, _, _, _⟩ :: _) _ _); go_must (refine wpList_loadB (op := ⟨some 148, _, _, _, _, _⟩) A72 rfl _ rfl w.heap.size 0 (by go_simp) _ _ (C30.out.grow D31.out) [.int .i64 z, .string sp] rfl rfl ?_))
              | (go_at_call 35; go_must (refine (mint_k HP.out.1 HM2.out.1 HM2.out.2 HKB.out.2 c24m.1 hni HP.out.2.2.1 HP.out.2.2.2 (HK.out.2.2.2.grow X31.out) (((Y24.out.below D27.out).below D30.out).below D31.out).rb).mono ?_); rintro e w32 ⟨rfl, hb32⟩))
            have D32 := Lib.hid (gt D31.out hb32)
            have X32 := Lib.hid (gt X31.out hb32)
            have C32 := Lib.hid (C30.out.grow D32.out)
            have K8' := Lib.hid (K8.out.below (gt (gt D27.out D30.out) D32.out))
            have Y22' := Lib.hid (Y22.out.below (gt (gt (gt D24.out D27.out) D30.out) D32.out))
            have U32 := Lib.hid (U20.out.grow (gt (gt (gt (gt D22.out D24.out) D27.out) D30.out) D32.out))
            have B27' := Lib.hid (B27.out.grow (gt D30.out D32.out))
            have B30' := Lib.hid (B30.out.grow D32.out)
            clear hb32
            have hcases : n22 = 0 ∨ (0 < n22 ∧ n22 < 8) ∨ (8 ≤ n22 ∧ ¬ ue = 0) ∨ (8 ≤ n22 ∧ ue = 0 ∧ ¬ uz = vz) ∨ (8 ≤ n22 ∧ ue = 0 ∧ uz = vz ∧ ¬ us.toList = vs.toList) := by
              by_cases h0 : n22 = 0
              · exact .inl h0
              by_cases h8 : n22 < 8
              · exact .inr (.inl ⟨by omega, h8⟩)
              by_cases he : ue = 0
              · have hn := un_ne (l := b) (by have := HB.out.1; omega) (by rw [← HU.out.2.2]; exact he)
                rw [← HBB.out.1, ← HU.out.1, ← HV.out.1] at hn
                by_cases hz : uz = vz
                · refine .inr (.inr (.inr (.inr ⟨by omega, he, hz, fun e => hn ⟨hz, ?_⟩⟩)))
                  rw [HU.out.2.1, HV.out.2.1, ByteArray.toList_eq, ByteArray.toList_eq] at e
                  simpa using e
                · exact .inr (.inr (.inr (.inl ⟨by omega, he, hz⟩)))
              · exact .inr (.inr (.inl ⟨by omega, he⟩))
            have Hne := Lib.hid (show 0 < n22 → (ts2.toList == ts.toList) = false from fun h => by
              rw [beq_eq_false_iff_ne, HT2.out, HT.out, ByteArray.toList_eq, ByteArray.toList_eq, HBB.out.1]
              exact fun e => enc_xorl (l := b) (by have := HB.out.1; omega) (by simpa using e))
            rcases hcases with h1 | ⟨h1, h2⟩ | ⟨h1, h2⟩ | ⟨h1, h2, h3⟩ | ⟨h1, h2, h3, h4⟩
            case' inl =>
              have hx0 : ¬ (0 : Int) < (n22 : Int) := by omega
              have hx8 : ¬ (8 : Int) ≤ (n22 : Int) := by omega
              clear h1
            case' inr.inl =>
              have hne := Hne.out h1
              have hx0 : (0 : Int) < (n22 : Int) := by omega
              have hx8 : ¬ (8 : Int) ≤ (n22 : Int) := by omega
              clear h1 h2
            case' inr.inr.inl =>
              have hne := Hne.out (by omega)
              have hx0 : (0 : Int) < (n22 : Int) := by omega
              have hx8 : (8 : Int) ≤ (n22 : Int) := by omega
              clear h1
            case' inr.inr.inr.inl =>
              have hne := Hne.out (by omega)
              have hx0 : (0 : Int) < (n22 : Int) := by omega
              have hx8 : (8 : Int) ≤ (n22 : Int) := by omega
              clear h1
            case' inr.inr.inr.inr =>
              have hne := Hne.out (by omega)
              have hx0 : (0 : Int) < (n22 : Int) := by omega
              have hx8 : (8 : Int) ≤ (n22 : Int) := by omega
              have h5 : (us.toList == vs.toList) = false := by rw [beq_eq_false_iff_ne]; exact h4
              clear h1 h4
            all_goals
              go_upto_region 28 with (first
                | (go_at_call 42; (with_reducible show Calls _ _ _ w32 _); go_must (refine (encode_m HT2.out HBB.out.2 hmi K8'.out.rb).mono ?_); rintro e w33 ⟨rfl, hb33⟩)
                | (go_at_call 42; (with_reducible show Calls _ _ _ w33 _); go_must (refine (encode_m HT2.out HBB.out.2 hmi (Y22'.out.below hb33).rb).mono ?_); rintro e w34 ⟨rfl, hb34⟩
                   have x0 := (B27'.out.grow (gt hb33 hb34)).cell 0
                   have x1 := (B27'.out.grow (gt hb33 hb34)).cell 1
                   have y0 := (B30'.out.grow (gt hb33 hb34)).cell 0
                   have y1 := (B30'.out.grow (gt hb33 hb34)).cell 1
                   simp only [List.getElem?_cons_succ, List.getElem?_cons_zero] at x0 x1 y0 y1)
                | (go_at_call 42; (with_reducible show Calls _ _ _ w34 _); go_must (refine (encode_m HT2.out HBB.out.2 hmi (K8'.out.below (gt hb33 hb34)).rb).mono ?_); rintro e w35 ⟨rfl, hb35⟩
                   replace x0 := (B27'.out.grow (gt (gt hb33 hb34) hb35)).cell 0
                   replace x1 := (B27'.out.grow (gt (gt hb33 hb34) hb35)).cell 1
                   replace y0 := (U32.out.grow (gt (gt hb33 hb34) hb35)).cell 0
                   replace y1 := (U32.out.grow (gt (gt hb33 hb34) hb35)).cell 1
                   simp only [List.getElem?_cons_succ, List.getElem?_cons_zero] at x0 x1 y0 y1))
            all_goals (first | have D35 := Lib.hid (gt (gt hb33 hb34) hb35) | have D35 := Lib.hid (gt hb33 hb34))
            all_goals
              have DA := Lib.hid (gt (gt D27.out D30.out) (gt D32.out D35.out))
              clear hx0 hx8 x0 x1 y0 y1 HV HU Hne U32 U20 B27 B27' B30 B30' Y22 Y24 Y22' K7 K8 K8' L7 L8 J7 J8 F7 F8 F7' F8' Q7 Q8 C1 C4 C8 C14 B8 U14 HM HM2 HT2
              have X35 := Lib.hid (gt X32.out D35.out)
              have C35 := Lib.hid (C32.out.grow D35.out)
              obtain ⟨q, hq⟩ : ∃ q, q = (packB z p).length := ⟨_, rfl⟩
              obtain ⟨me4, hme4⟩ : ∃ x, x = packE p := ⟨_, rfl⟩
              have HQ := Lib.hid (And.intro hq hme4)
              have hql : q ≤ 1032 := by rw [hq]; exact packB_len z p
              clear hq hme4
              go_upto_region 29 with (go_at_call 40; go_must (refine (decode_k HT.out HB.out.1 hmi).mono ?_); rintro e w36 ⟨A30, c30, rfl, ho36, hb36⟩)
              have D36 := Lib.hid hb36
              have R36 := Lib.hid (Row.new ho36)
              clear ho36 hb36
              go_upto_region 30 with (go_at_call 40; go_must (refine (decode_k HT.out HB.out.1 hmi).mono ?_); rintro e w37 ⟨A32, c32, rfl, ho37, hb37⟩)
              have D37 := Lib.hid hb37
              have R37 := Lib.hid (Row.new ho37)
              have C37 := Lib.hid (C35.out.grow (gt D36.out D37.out))
              clear ho37 hb37
              go_upto_region 31 with (first
                | ((with_reducible show wpList _ _ _ (⟨some 208, _, _, _, _, _⟩ :: _) _ _); go_must (refine wpList_loadB (op := ⟨some 208, _, _, _, _, _⟩) A72 rfl _ rfl w.heap.size 0 (by go_simp) _ _ C37.out [.int .i64 z, .string sp] rfl rfl ?_))
                | (go_at_call 45; go_must (refine (pack_k HP.out.1 HQ.out.1 HQ.out.2 HP.out.2.2.1 HP.out.2.2.2).mono ?_); rintro e w38 ⟨A34, c34, rfl, ho38, hb38⟩))
              have D38 := Lib.hid hb38
              have R38 := Lib.hid (Row.new ho38)
              have C38 := Lib.hid (C37.out.grow D38.out)
              clear ho38 hb38
              go_upto_region 32 with (first
                | ((with_reducible show wpList _ _ _ (⟨some 213, _, _, _, _, _⟩ :: _) _ _); go_must (refine wpList_loadB (op := ⟨some 213, _, _, _, _, _⟩) A72 rfl _ rfl w.heap.size 0 (by go_simp) _ _ C38.out [.int .i64 z, .string sp] rfl rfl ?_))
                | (go_at_call 45; go_must (refine (pack_k HP.out.1 HQ.out.1 HQ.out.2 HP.out.2.2.1 HP.out.2.2.2).mono ?_); rintro e w39 ⟨A36, c36, rfl, ho39, hb39⟩))
              have D39 := Lib.hid hb39
              have R39 := Lib.hid (Row.new ho39)
              have X39 := Lib.hid (gt (gt (gt (gt X35.out D36.out) D37.out) D38.out) D39.out)
              have S36 := Lib.hid (((R36.out.below D37.out).below D38.out).below D39.out)
              have S37 := Lib.hid ((R37.out.below D38.out).below D39.out)
              have S38 := Lib.hid (R38.out.below D39.out)
              clear ho39 hb39
              go_upto_region 34 with (first
                | (go_at_call 46; (with_reducible show Calls _ _ #[Value.slice A30 _ _, _] _ _); go_must (refine (same_any A30 Bd n22 n22 c30 bc b b w39 S36.out.rb (HB.out.2.below X39.out) HB.out.1 HB.out.1).mono ?_); rw [decide_eq_true rfl]; rintro e w40 ⟨rfl, rfl⟩)
                | (go_at_call 46; (with_reducible show Calls _ _ #[Value.slice A32 _ _, _] _ _); go_must (refine (same_any A32 Bd n22 n22 c32 bc b b w39 S37.out.rb (HB.out.2.below X39.out) HB.out.1 HB.out.1).mono ?_); rw [decide_eq_true rfl]; rintro e w40 ⟨rfl, rfl⟩)
                | (go_at_call 46; (with_reducible show Calls _ _ #[Value.slice A34 _ _, _] _ _); go_must (refine (same_any A34 A36 q q c34 c36 (packB z p) (packB z p) w39 S38.out.rb R39.out.rb HQ.out.1 HQ.out.1).mono ?_); rw [decide_eq_true rfl]; rintro e w40 ⟨rfl, rfl⟩))
            all_goals
              have e1 := Lib.hid (S36.out.far S37.out (Nat.le_refl _))
              have e2 := Lib.hid (S36.out.far S38.out D37.out.size)
              have e3 := Lib.hid (S36.out.far R39.out (Nat.le_trans D37.out.size D38.out.size))
              have e4 := Lib.hid (S37.out.far S38.out (Nat.le_refl _))
              have e5 := Lib.hid (S37.out.far R39.out D38.out.size)
              have e6 := Lib.hid (S38.out.far R39.out (Nat.le_refl _))
              have hw39 := X39.out.size
              have low6 : w.heap.size ≤ w36.heap.size := Nat.le_trans X35.out.size D36.out.size
              have low7 : w.heap.size ≤ w37.heap.size := Nat.le_trans low6 D37.out.size
              have low8 : w.heap.size ≤ w38.heap.size := Nat.le_trans low7 D38.out.size
              have AP := Lib.hid (fun o => ap0_four (S36.out.low X35.out.size).own (S37.out.low low6).own (S38.out.low low7).own (R39.out.low low8).own e1.out e2.out e3.out e4.out e5.out e6.out o)
              go_upto_region 36 with (go_at_call 47; go_must (refine (apart_any w39.heap.size 4 4 w.heap.size _ _ _ _ _ (by omega) (show Blk _ w39.heap.size 32 ((List.range 4).map (pick4 (.slice A30 n22 c30) (.slice A32 n22 c32) (.slice A34 q c34) (.slice A36 q c36))) from Blk.new w39 _ _) (AP.out _) (pick4_all (P := fun _ n => n ≤ 1073741824) (by omega) (by omega) (by omega) (by omega)) (by simp; omega)).mono ?_); rintro e w41 ⟨rfl, hg41⟩)
              have X41 := Lib.hid (hg41.low (gt X39.out (ga (gr w39) _)) (by simp; omega) (fun k ⟨t, ht, e⟩ => ((AP.out (.cells #[] 5)).own t ht |>.lt k e).1))
              clear hg41 e1 e2 e3 e4 e5 e6 AP S36 S37 S38 R36 R37 R38 R39 hw39 low6 low7 low8
              go_upto_region 37 with (go_at_call 40; go_must (refine (decode_k HT.out HB.out.1 hmi).mono ?_); rintro e w42 ⟨A38, c38, rfl, ho42, hb42⟩)
              have R42 := Lib.hid (Row.new ho42)
              have X42 := Lib.hid (gt X41.out hb42)
              clear ho42 hb42
              go_wp2_with (first
                | (go_at_call 46; go_must (refine (same_any A38 Bd n22 n22 c38 bc b b w42 R42.out.rb (HB.out.2.below X42.out) HB.out.1 HB.out.1).mono ?_); rw [decide_eq_true rfl]; rintro e w43 ⟨rfl, rfl⟩))
              go_ret
              exact ⟨rfl, X42.out⟩
end Go.Proofs.YtoemceehmiaigaaDoor.Seal
