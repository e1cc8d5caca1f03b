/- uri: every Escape and Unescape. -/
import Derived.Test.YtompcngeikjfiaaDoorLawUNames
namespace Go.Proofs.YtompcngeikjfiaaDoor.Uri
open Go.RowKit Go.Proofs.YtompcngeikjfiaaDoor.Mem Go.Proofs.YtompcngeikjfiaaDoor.Seal Go.Proofs.YtompcngeikjfiaaDoor.Strs Go.Proofs.YtompcngeikjfiaaDoor.Split
set_option linter.unusedVariables false

def ub (o : Option (List UInt8)) : ByteArray := ⟨(o.getD []).toArray⟩
def uz (o : Option (List UInt8)) : Int := if o.isSome then 0 else 270
theorem unpost_eq {w w' : World} {o : Option (List UInt8)} {e : Ending} (h : UnPost w o e w') : e = .returned (.tuple #[.string (ub o), .int .i64 (uz o)]) ∧ Below w.heap.size w w' := by
  unfold UnPost at h
  cases o with
  | none => exact h
  | some d => exact h

set_option maxRecDepth 4000 in
set_option maxHeartbeats 1600000 in
theorem law_escapes (l : List UInt8) (w : World) (hl : l.length ≤ 1073741824) :
    Calls Tryd.prog 4 #[.string ⟨l.toArray⟩] w fun e w' => e = .returned (.bool true) ∧ Below w.heap.size w w' := by
  have cU := Lib.hid (fun b W => unescape_any l b W hl)
  have cR := Lib.hid (fun b W => runescape_any l b W hl)
  have cE := Lib.hid (fun W => escape_any l W hl)
  have cF := Lib.hid (fun W => rescape_any l W hl)
  clear hl
  go_enter Tryd.func4, Tryd.ntmps4
  go_wp2_with (first
    | (go_at_call 10; refine (alive_any _).mono ?_; rintro e w1 ⟨rfl, hb1⟩))
  go_loopw [3] (fun v wr => ∃ k : Nat, k ≤ 2 ∧ v = .int .i64 k ∧ Below w.heap.size w wr) (fun v _ => 2 - (intOf v).toNat)
  case atStart => exact ⟨0, by omega, rfl, hb1⟩
  case round =>
    clear hb1
    obtain ⟨k, hk, rfl, hb⟩ := hrel
    by_cases hlt : k < 2
    · obtain ⟨b, hb0⟩ : ∃ b, b = decide ((k : Int) = 1) := ⟨_, rfl⟩
      have hki : (k : Int) < 2 := by omega
      have hk0 : (0 : Int) ≤ (k : Int) := by omega
      go_wp2_with (first
        | (go_at_call 11; refine (cR.out _ _).mono ?_; rintro e w2 hp2; obtain ⟨rfl, hb2⟩ := unpost_eq hp2; clear hp2)
        | (go_at_call 12; refine (cU.out _ _).mono ?_; rintro e w3 hp3; obtain ⟨rfl, hb3⟩ := unpost_eq hp3; clear hp3))
      exact ⟨⟨k + 1, by omega, by go_num, gt (gt hb hb2) hb3⟩, by simp [intOf] <;> omega⟩
    · obtain rfl : k = 2 := by omega
      go_wp2_with (first
        | (go_at_call 13; refine (cE.out _).mono ?_; rintro e w2 ⟨rfl, hb2⟩)
        | (go_at_call 14; refine (cF.out _).mono ?_; rintro e w3 ⟨rfl, hb3⟩))
      go_ret
      exact ⟨rfl, gt (gt hb hb2) hb3⟩
end Go.Proofs.YtompcngeikjfiaaDoor.Uri
