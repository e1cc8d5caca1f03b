/- A keyed digest under way, by its owner's key and its book; two of one key and one book are equal. -/
import Derived.Test.YtoemceehmiaigaaDoorRowed
import Derived.Test.YtoemceehmiaigaaDoorLawSums
namespace Go.Proofs.YtoemceehmiaigaaDoor.Sha
open Go.RowKit Go.Proofs.YtoemceehmiaigaaDoor.Mem Go.Proofs.YtoemceehmiaigaaDoor.Loan

structure MacD where
  k : List UInt8
  b : List UInt8
  fr : Bool
  z : Bool
def MacD.cur (m : MacD) : List UInt8 := if m.z then [] else padK (keyOf m.k) 0x36 ++ m.b
def MacD.cells (m : MacD) : List Value := mcell (keyOf m.k) m.cur
def MacD.ok (lim : Nat) (m : MacD) : Prop := (m.z = true → m.k = [] ∧ m.b = [] ∧ m.fr = false) ∧ m.k.length ≤ 1048576 ∧ m.b.length ≤ lim
def MacD.wrote (m : MacD) (p : List UInt8) : MacD := ⟨m.k, m.b ++ p, m.fr, false⟩
def zeroM : MacD := ⟨[], [], false, true⟩
def newM (k : List UInt8) : MacD := ⟨k, [], true, false⟩

theorem MacD.cells_length (m : MacD) : m.cells.length = 137 := mcell_length _ _ (keyOf_length _)
theorem MacD.one (m : MacD) : ∀ v ∈ m.cells, v.oneCell' = true := mcell_one _ _
theorem MacD.begun {lim : Nat} {m : MacD} (h : m.ok lim) : begunB (keyOf m.k) m.cur = padK (keyOf m.k) 0x36 ++ m.b := by
  unfold MacD.cur
  cases hz : m.z with
  | true =>
    obtain ⟨_, hb, _⟩ := h.1 hz
    simp [begunB, hb]
  | false =>
    simp only [Bool.false_eq_true, if_false]
    exact begunB_ne _ _ (fun e => padK_ne _ _ (keyOf_length m.k) (List.append_eq_nil_iff.1 e).1)
theorem MacD.wrote_cells {lim : Nat} {m : MacD} (h : m.ok lim) (p : List UInt8) : mcell (keyOf m.k) (begunB (keyOf m.k) m.cur ++ p) = (m.wrote p).cells := by
  rw [m.begun h]
  simp [MacD.cells, MacD.wrote, MacD.cur]
theorem MacD.sum {lim : Nat} {m : MacD} (h : m.ok lim) : sumf (padK (keyOf m.k) 0x5C ++ sumf (begunB (keyOf m.k) m.cur)) = hmacf m.k m.b := by
  rw [m.begun h]; rfl
theorem MacD.cur_length {lim : Nat} {m : MacD} (h : m.ok lim) : m.cur.length ≤ 64 + lim := by
  have := h.2.2
  unfold MacD.cur
  split
  · simp
  · rw [List.length_append, padK_length, keyOf_length]; omega
theorem MacD.wrote_ok {lim l2 : Nat} {m : MacD} (h : m.ok lim) (p : List UInt8) (hp : m.b.length + p.length ≤ l2) : (m.wrote p).ok l2 :=
  ⟨fun e => (by simp [MacD.wrote] at e), h.2.1, by simp only [MacD.wrote, List.length_append]; exact hp⟩
theorem MacD.ok.more {lim l2 : Nat} {m : MacD} (h : m.ok lim) (hl : lim ≤ l2) : m.ok l2 := ⟨h.1, h.2.1, Nat.le_trans h.2.2 hl⟩
theorem newM_cells (k : List UInt8) : mcell (keyOf k) (padK (keyOf k) 0x36) = (newM k).cells := by simp [MacD.cells, newM, MacD.cur]
theorem zeroM_cells : zeroM.cells = mcell (List.replicate 64 0) [] := by simp [MacD.cells, zeroM, MacD.cur, keyOf, shortK]

theorem macw (m : MacD) (lim : Nat) (hm : m.ok lim) (p : List UInt8) (A : Option Addr) (n c : Nat) (w : World) (hn : n = p.length) (hq : RB w A p) (hcap : n ≤ c) (hG : GB w) (hlen : lim + n < 2305843009213693888) :
    Calls Tryd.prog 31 #[.agg m.cells.toArray, .slice A n c] w fun e w' => e = .returned (.agg (m.wrote p).cells.toArray) ∧ Below w.heap.size w w' := by
  rw [← MacD.wrote_cells hm p]
  exact mwrite_any (keyOf m.k) m.cur p (keyOf_length _) A n c w hn hq hcap hG (by have := MacD.cur_length hm; omega)
theorem macs (m : MacD) (lim : Nat) (hm : m.ok lim) (w : World) (hG : GB w) (hlen : lim < 288230376151710900) :
    Calls Tryd.prog 32 #[.agg m.cells.toArray] w fun e w' => e = .returned (.agg ((hmacf m.k m.b).map bv).toArray) ∧ Below w.heap.size w w' := by
  rw [← MacD.sum hm]
  exact msum_any (keyOf m.k) m.cur (keyOf_length _) w hG (by have := MacD.cur_length hm; omega)
theorem macn (k : List UInt8) (A : Option Addr) (n c : Nat) (w : World) (hn : n = k.length) (ha : RB w A k) (hcap : n ≤ c) (hl : n ≤ 35184372088832) (hG : GB w) :
    Calls Tryd.prog 30 #[.slice A n c] w fun e w' => e = .returned (.agg (newM k).cells.toArray) ∧ Below w.heap.size w w' := by
  subst hn
  rw [← newM_cells]
  exact newmac_any k A c w ha hcap hl hG

theorem hash_eqi9 (b : List UInt8) (W : World) : (Op.equalIn 9999 43 (.agg (hashCells b).toArray) (.agg (hashCells b).toArray)).run Tryd.prog W = .ok true W := by
  rw [show (9999 : Nat) = 9998 + 1 from rfl, run_equalIn_struct W 9998 43 _ _ (by kernel_rfl) (by kernel_rfl)]
  simp only [Program.fieldsOf, Tryd.underlying43]
  have hs := fun i (hi : i < 8) => hash_state b i hi
  have hr := fun i (hi : i < 64) => hash_rest b i hi
  have hn := hash_n b
  obtain ⟨xs, hxs⟩ : ∃ xs, xs = (hashCells b).toArray := ⟨_, rfl⟩
  rw [← hxs] at hs hr hn ⊢
  have e0 := fun W => eqIn_array (P := Tryd.prog) (d := 9996) Tryd.underlying40 Tryd.underlying25 (by kernel_rfl) (xs.extract 0 (0 + 8)) hs W
  have e1 := fun W => eqIn_array (P := Tryd.prog) (d := 9996) Tryd.underlying41 Tryd.underlying5 (by kernel_rfl) (xs.extract 8 (8 + 64)) hr W
  have p0 := fun W => run_part_array (P := Tryd.prog) Tryd.underlying40 (by kernel_rfl : (Tryd.prog.info? 40).map (·.size) = some 8) xs 0 W
  have p1 := fun W => run_part_array (P := Tryd.prog) Tryd.underlying41 (by kernel_rfl : (Tryd.prog.info? 41).map (·.size) = some 64) xs 8 W
  have p2 := fun W => run_part_plain (P := Tryd.prog) W (e := 3) (by kernel_rfl) hn
  have e2 := fun W => run_equalIn_int (P := Tryd.prog) W 9997 3 .i64 .i64 (b.length : Int) (b.length : Int) Tryd.underlying3
  unfold Op.eqFields
  rw [if_pos (by decide)]
  simp only [Sem.run_bind, p0, e0, Result.andThen_ok, Bool.not_true, Bool.false_eq_true, if_false]
  unfold Op.eqFields
  rw [if_pos (by decide)]
  simp only [Sem.run_bind, p1, e1, Result.andThen_ok, Bool.not_true, Bool.false_eq_true, if_false]
  unfold Op.eqFields
  rw [if_pos (by decide)]
  simp only [Sem.run_bind, p2, e2, Result.andThen_ok, Bool.not_true, Bool.false_eq_true, if_false, beq_self_eq_true]
  unfold Op.eqFields
  simp

theorem mac_key (key b : List UInt8) (hk : key.length = 64) (i : Nat) (hi : i < 64) : ∃ a, ((mcell key b).toArray.extract 0 (0 + 64))[i]? = some (.int .u8 a) := by
  have h : ((mcell key b).toArray.extract 0 (0 + 64))[i]? = ((key.map bv).toArray)[i]? := by
    rw [Array.getElem?_extract, if_pos (by simp [mcell_length _ _ hk]; omega), List.getElem?_toArray, List.getElem?_toArray, Nat.zero_add]
    unfold mcell
    rw [List.getElem?_append_left (by rw [List.length_map]; omega)]
  rw [h]
  exact bytes_ints key i (by omega)
theorem mac_inner (key b : List UInt8) (hk : key.length = 64) : (mcell key b).toArray.extract 64 (64 + 73) = (hashCells b).toArray := by
  have := mcell_hash key b hk
  rw [List.extract_toArray, List.extract_eq_take_drop, ← this]
theorem mac_eqi (key b : List UInt8) (hk : key.length = 64) (W : World) : (Op.equalIn 10000 57 (.agg (mcell key b).toArray) (.agg (mcell key b).toArray)).run Tryd.prog W = .ok true W := by
  rw [show (10000 : Nat) = 9999 + 1 from rfl, run_equalIn_struct W 9999 57 _ _ (by kernel_rfl) (by kernel_rfl)]
  simp only [Program.fieldsOf, Tryd.underlying57]
  have hs := fun i (hi : i < 64) => mac_key key b hk i hi
  have hin := mac_inner key b hk
  have hh := hash_eqi9 b
  obtain ⟨xs, hxs⟩ : ∃ xs, xs = (mcell key b).toArray := ⟨_, rfl⟩
  rw [← hxs] at hs hin ⊢
  rw [← hin] at hh
  have e0 := fun W => eqIn_array (P := Tryd.prog) (d := 9997) Tryd.underlying41 Tryd.underlying5 (by kernel_rfl) (xs.extract 0 (0 + 64)) hs W
  have p0 := fun W => run_part_array (P := Tryd.prog) Tryd.underlying41 (by kernel_rfl : (Tryd.prog.info? 41).map (·.size) = some 64) xs 0 W
  have p1 : ∀ W, (part 43 xs 64).run Tryd.prog W = .ok (.agg (xs.extract 64 (64 + 73))) W := fun W => by
    simp [part, isAgg, run_underlying Tryd.underlying43, size_run (by kernel_rfl : (Tryd.prog.info? 43).map (·.size) = some 73)]
  unfold Op.eqFields
  rw [if_pos (by decide)]
  simp only [Sem.run_bind, p0, e0, Result.andThen_ok, Bool.not_true, Bool.false_eq_true, if_false]
  unfold Op.eqFields
  rw [if_pos (by decide)]
  simp only [Sem.run_bind, p1, hh, Result.andThen_ok, Bool.not_true, Bool.false_eq_true, if_false]
  unfold Op.eqFields
  simp
theorem macD_eqi (m : MacD) (W : World) : (Op.equalIn 10000 57 (.agg m.cells.toArray) (.agg m.cells.toArray)).run Tryd.prog W = .ok true W := mac_eqi _ _ (keyOf_length _) W
theorem macD_neq (m : MacD) (W : World) : (binOp .neq 57 (.agg m.cells.toArray) (.agg m.cells.toArray)).run Tryd.prog W = .ok (.bool false) W := by
  rw [run_neq_struct, macD_eqi]; rfl
end Go.Proofs.YtoemceehmiaigaaDoor.Sha
