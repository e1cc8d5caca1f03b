/- WireWrites: the argument (an answer), the table of powers of ten. -/
import Derived.Test.YtojemdggbcklkaaDoorLawWrites
import Derived.Test.YtojemdggbcklkaaDoorOpen
import Derived.Test.YtojemdggbcklkaaDoorCards
import Derived.Test.YtojemdggbcklkaaDoorTie
import Derived.Deep.DeepHandedRow
import Derived.Lib.LaidTab
import Derived.ChangeSame
namespace Go.Proofs.YtojemdggbcklkaaDoor.WireW
open Go.RowKit Go.WideShapes Go.ChangeShapes Go.Deep Go.Proofs.YtojemdggbcklkaaDoor.Mem
set_option linter.unusedVariables false
set_option maxRecDepth 8000

theorem own : ownKnob Tryd.prog.godebug = none := by kernel_rfl
theorem laidOut : laidOutB Tryd.prog = true := by kernel_rfl
/-- a variable's block with these cells -/
def setTab (cs : Array Value) : Obj → Obj
  | .cells _ t frozen => .cells cs t frozen
  | o => o
theorem gPow : Tryd.prog.globalNamed "internal/strconv.uint64pow10" = some 1 := by kernel_rfl
theorem gPowType : (Tryd.prog.globals[1]?).map (·.type) = some 126 := by kernel_rfl
theorem cellsPow : Tryd.prog.cellsOf 126 = 20 := by kernel_rfl
theorem cells64 : Tryd.prog.cellsOf 110 = 1 := by kernel_rfl
theorem powData {H : Type} : (Rows.laid_internal_strconv_uint64pow10 : DataW H) = Lib.tabData .u64 Lib.pow10Tab := by
  unfold Lib.tabData Lib.pow10Tab
  rfl
theorem gt_of {d1 d2 : String × DataW Unit} {W : World} (h : laidMet Tryd.prog [d1, d2, ("internal/strconv.uint64pow10", Rows.laid_internal_strconv_uint64pow10)] W) : GT W := by
  rw [powData] at h
  obtain ⟨ps, h1, _⟩ := h
  obtain ⟨_, _, _, _, _, _, _, _, _, _, h2, _⟩ := h1
  obtain ⟨_, _, _, _, _, _, _, _, _, _, h3, _⟩ := h2
  obtain ⟨g', t', cs, fuel, p, q, hg', ht', hvar, hd, _, _⟩ := h3
  obtain rfl := Option.some.inj (gPow.symm.trans hg')
  obtain rfl := Option.some.inj (gPowType.symm.trans ht')
  unfold GT Lib.TabIs
  rw [hvar, ← Lib.cells_of_tab Tryd.underlying126 Tryd.underlying110 cells64 cellsPow hd]
theorem open_answer {H : Type} {enc : TypeId × Value → H} {W : World} {v : Value} {d : DataW H} {p : List MemPlace} (h : DataW.Trod enc Tryd.prog W 0 (fun _ => true) true 24 v d p) (hs : ∃ cs, v = .agg cs ∧ cs.size = Tryd.prog.cellsOf 24) :
    ∃ (z : Int) (A : Option Addr) (c : Nat) (l : List UInt8) (b : Bool), v = .agg #[.int .i64 z, .slice A l.length c, .bool b] ∧ RB W A l ∧ l.length ≤ Rows.uptoBulk d := by
  obtain ⟨cs, rfl, hsz⟩ := hs
  obtain ⟨fuel, hf⟩ := h
  obtain ⟨xs, n, _, hx, hl, hlen, hfl⟩ := DataW.trod_struct Tryd.underlying24 hf
  rw [show Tryd.prog.cellsOf 24 = 3 from by kernel_rfl] at hsz
  obtain ⟨c0, c1, c2, rfl⟩ : ∃ a b c, cs = #[a, b, c] := by
    rcases cs with ⟨l⟩
    match l, hsz with
    | [a, b, c], _ => exact ⟨a, b, c, rfl⟩
  have h0 : DataW.trod enc Tryd.prog W 0 (fun _ => true) true n 3 (List.take (Tryd.prog.cellsOf 3) (List.drop 0 (Value.agg #[c0, c1, c2]).cells.toList)) = xs[0]? := hfl 0 _ rfl
  have h1 : DataW.trod enc Tryd.prog W 0 (fun _ => true) true n 22 (List.take (Tryd.prog.cellsOf 22) (List.drop 1 (Value.agg #[c0, c1, c2]).cells.toList)) = xs[1]? := hfl 1 _ rfl
  have h2 : DataW.trod enc Tryd.prog W 0 (fun _ => true) true n 4 (List.take (Tryd.prog.cellsOf 4) (List.drop 2 (Value.agg #[c0, c1, c2]).cells.toList)) = xs[2]? := hfl 2 _ rfl
  rw [show Tryd.prog.cellsOf 3 = 1 from by kernel_rfl] at h0
  rw [show Tryd.prog.cellsOf 22 = 1 from by kernel_rfl] at h1
  rw [show Tryd.prog.cellsOf 4 = 1 from by kernel_rfl] at h2
  simp only [Value.cells, List.drop_zero, List.drop_succ_cons, List.take_succ_cons, List.take_zero] at h0 h1 h2
  have hlen3 : xs.length = 3 := hlen
  obtain ⟨y0, y1, y2, rfl⟩ : ∃ a b c, xs = [a, b, c] := by
    match xs, hlen3 with
    | [a, b, c], _ => exact ⟨a, b, c, rfl⟩
  simp only [List.getElem?_cons_zero, List.getElem?_cons_succ] at h0 h1 h2
  simp only [Prod.mk.injEq] at hx
  obtain ⟨rfl, _⟩ := hx
  have m1 : y1.1 ∈ [y0, y1, y2].map (·.1) := by simp
  have b1 := bulk_part m1
  obtain ⟨z, hz, _, _⟩ := DataW.trod_int Tryd.underlying3 h0
  injection hz with hz _
  obtain ⟨A, c, l, hv1, hr, _, hb⟩ := open_bytes Tryd.underlying22 Tryd.underlying5 (by kernel_rfl) h1
  obtain ⟨b, hb2, _⟩ := DataW.trod_bool Tryd.underlying4 h2
  injection hb2 with hb2 _
  exact ⟨z, A, c, l, b, by rw [hz, hv1, hb2], hr, by rw [← bulk_agg]; omega⟩
end Go.Proofs.YtojemdggbcklkaaDoor.WireW
