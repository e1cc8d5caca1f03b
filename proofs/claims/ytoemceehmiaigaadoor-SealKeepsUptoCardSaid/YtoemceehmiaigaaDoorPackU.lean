/- A claim's payload: Pack's answers of both kinds in one word. -/
import Derived.Test.YtoemceehmiaigaaDoorAlive
namespace Go.Proofs.YtoemceehmiaigaaDoor.Seal
open Go.RowKit Go.Proofs.YtoemceehmiaigaaDoor.Mem Go.Proofs.YtoemceehmiaigaaDoor.Loan
set_option linter.unusedVariables false

def packB (z : Int) (p : List UInt8) : List UInt8 := if 1024 < p.length then [] else pack z p
def packE (p : List UInt8) : Int := if 1024 < p.length then 1 else 0
def PackU (w : World) (z : Int) (p : List UInt8) (e : Ending) (w' : World) : Prop :=
  (∃ A c, e = .returned (.tuple #[.slice A (packB z p).length c, .int .i64 (packE p)]) ∧ RB w' A (packB z p) ∧ (packB z p).length ≤ c ∧ c ≤ maxLen) ∧ Below w.heap.size w w'
theorem own_cap {w : World} {B n size n' c : Nat} {A : Option Addr} {T : TypeId} {xs : List Value} (h : w.ownsRow B T size (.slice A n' c) n xs) : n' ≤ c ∧ c ≤ maxLen := by
  rcases h.2 with ⟨e, _⟩ | ⟨g, cap, cur, e, _, _, h1, h2, _⟩
  · injection e with _ e1 e2
    subst e1 e2
    exact ⟨Nat.le_refl _, by decide⟩
  · injection e with _ e1 e2
    subst e1 e2
    exact ⟨h1, h2⟩
theorem packU_of {w : World} {z : Int} {p : List UInt8} {e : Ending} {w' : World} (h : PackPost w z p e w') : PackU w z p e w' := by
  unfold PackPost at h
  unfold PackU packB packE
  by_cases hp : 1024 < p.length
  · simp only [if_pos hp] at h ⊢
    exact ⟨⟨none, 0, h.1, RB.nil _ _, Nat.le_refl _, by decide⟩, h.2⟩
  · simp only [if_neg hp] at h ⊢
    obtain ⟨v, rfl, ho, hb⟩ := h
    obtain ⟨A, n, c, rfl, hn⟩ := own_form ho
    subst hn
    exact ⟨⟨A, c, rfl, own_rb' ho, (own_cap ho).1, (own_cap ho).2⟩, hb⟩
theorem packB_len (z : Int) (p : List UInt8) : (packB z p).length ≤ 1032 := by
  unfold packB
  split
  · simp
  · rw [pack_length]; omega
theorem unP_len (b : List UInt8) : (unP b).length ≤ 1024 := by
  unfold unP
  split
  · simp
  · split
    · simp
    · simp; omega
theorem unZ_wf (b : List UInt8) : -9223372036854775808 ≤ unZ b ∧ unZ b ≤ 9223372036854775807 := by
  unfold unZ
  split
  · omega
  · split
    · omega
    · have h := num_lt (b.take 8)
      have h2 : (b.take 8).length = 8 := by rw [List.length_take]; omega
      rw [h2] at h
      exact toI_wf _ (by omega)
theorem unE_cases (b : List UInt8) : unE b = 53 ∨ unE b = 1 ∨ unE b = 0 ∧ pack (unZ b) (unP b) = b := by
  unfold unE
  split
  · exact .inl rfl
  · split
    · exact .inr (.inl rfl)
    · exact .inr (.inr ⟨rfl, pack_un b (by omega) (by omega)⟩)
theorem packE_un (b : List UInt8) : packE (unP b) = 0 := by unfold packE; have := unP_len b; rw [if_neg (by omega)]
theorem packB_un (b : List UInt8) : packB (unZ b) (unP b) = pack (unZ b) (unP b) := by unfold packB; have := unP_len b; rw [if_neg (by omega)]
end Go.Proofs.YtoemceehmiaigaaDoor.Seal
