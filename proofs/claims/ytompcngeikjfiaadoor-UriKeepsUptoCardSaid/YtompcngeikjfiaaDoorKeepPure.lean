/- uri: what a z behind every name changes; Query, whatever it answers. -/
import Derived.Test.YtompcngeikjfiaaDoorApart
import Derived.Test.YtompcngeikjfiaaDoorLawUBack
import Derived.Test.YtompcngeikjfiaaDoorOpenUri
namespace Go.Proofs.YtompcngeikjfiaaDoor.Uri
open Go.RowKit Go.Proofs.YtompcngeikjfiaaDoor.Mem Go.Proofs.YtompcngeikjfiaaDoor.Seal Go.Proofs.YtompcngeikjfiaaDoor.Strs Go.Proofs.YtompcngeikjfiaaDoor.Split
set_option linter.unusedVariables false

/-- a z behind the name -/
def zz (p : PD) : PD := (p.1 ++ [122], p.2)
theorem esc_zz (l : List UInt8) : (esc (l ++ [122])).length = (esc l).length + 1 := by
  induction l with
  | nil => decide +kernel
  | cons c r ih =>
    rw [List.cons_append, esc_cons, esc_cons, List.length_append, List.length_append, ih]
    omega
theorem formF_zz : ∀ (f : Bool) (ps : List PD), (formF f (ps.map zz)).length = (formF f ps).length + ps.length
  | _, [] => rfl
  | f, p :: r => by
    rw [List.map_cons, formF, formF, List.length_append, List.length_append, List.length_append, List.length_append, formF_zz false r, List.length_cons]
    have : (pair (zz p)).length = (pair p).length + 1 := by
      unfold pair zz
      simp only [List.length_append, List.length_cons, List.length_nil, esc_zz]
      omega
    rw [this]
    omega
theorem form_zz {ps : List PD} (h : 0 < ps.length) : form (ps.map zz) ≠ form ps := fun e => by
  have := formF_zz true ps
  have e' := congrArg List.length e
  unfold form at e'
  omega
theorem vals_zz (ps : List PD) (name : List UInt8) : (vals (ps.map zz) (name ++ [122])).length = (vals ps name).length := by
  unfold vals
  rw [List.length_map, List.length_map, List.filter_map, List.length_map]
  congr 2
  funext p
  unfold hit zz
  simp
/-- the first k names with a z -/
def zk (ps : List PD) (k : Nat) : List PD := (ps.take k).map zz ++ ps.drop k
theorem zk_len (ps : List PD) (k : Nat) : (zk ps k).length = ps.length := by unfold zk; simp; omega
theorem zk_zero (ps : List PD) : zk ps 0 = ps := rfl
theorem zk_all (ps : List PD) : zk ps ps.length = ps.map zz := by unfold zk; simp
theorem zk_get {ps : List PD} {k : Nat} (h : k < ps.length) : (zk ps k)[k]'(by rw [zk_len]; exact h) = ps[k] := by
  unfold zk
  rw [List.getElem_append_right (by simp; omega)]
  simp
  congr 1
  omega
theorem zk_set {ps : List PD} {k : Nat} (h : k < ps.length) : (zk ps k).set k (zz ps[k]) = zk ps (k + 1) := by
  unfold zk
  have hk : ((ps.take k).map zz).length = k := by simp; omega
  rw [List.set_append_right _ _ (by omega), hk, Nat.sub_self, List.drop_eq_getElem_cons h, List.set_cons_zero, take_succ_ h, List.map_append, List.append_assoc]
  rfl
/-- two cells of an element are set -/
theorem cells_set (ps : List PD) (k : Nat) (h : k < ps.length) (x y : List UInt8) (tail : List Value) :
    (((ps.flatMap PD.cells ++ tail).set (k * 2) (.string ⟨x.toArray⟩)).set (k * 2 + 1) (.string ⟨y.toArray⟩)) = (ps.set k (x, y)).flatMap PD.cells ++ tail := by
  rw [List.set_append_left _ _ (by rw [pd_len]; omega), List.set_append_left _ _ (by rw [List.length_set, pd_len]; omega)]
  congr 1
  induction ps generalizing k with
  | nil => simp at h
  | cons p r ih =>
    cases k with
    | zero => simp [PD.cells]
    | succ k =>
      have := ih k (by simpa using h)
      rw [List.set_cons_succ, List.flatMap_cons, List.flatMap_cons, List.set_append_right _ _ (by simp [PD.cells]; omega), List.set_append_right _ _ (by simp [PD.cells]; omega)]
      rw [show (k + 1) * 2 - p.cells.length = k * 2 by simp [PD.cells]; omega, show (k + 1) * 2 + 1 - p.cells.length = k * 2 + 1 by simp [PD.cells]; omega, this]

theorem own_base {w : World} {B B' n size : Nat} {T : TypeId} {v : Value} {xs : List Value} (h : w.ownsRow B T size v n xs) (hB : B' ≤ B) : w.ownsRow B' T size v n xs := by
  refine ⟨h.1, ?_⟩
  rcases h.2 with hn | ⟨g, cap, cur, rfl, hb, rest⟩
  · exact .inl hn
  · exact .inr ⟨g, cap, cur, rfl, Nat.le_trans hB hb, rest⟩

/-- Query's answer as one row, and its number -/
def qn (o : Option (List PD)) : Int := match o with | none => 270 | some _ => 0
theorem query_u (l : List UInt8) (w : World) (hl : l.length ≤ 1073741823) : Calls Tryd.prog 16 #[.string ⟨l.toArray⟩] w fun e w' =>
    ∃ A c, e = .returned (.tuple #[.slice A ((queryL l).getD []).length c, .int .i64 (qn (queryL l))]) ∧ w'.ownsRow w.heap.size 51 2 (.slice A ((queryL l).getD []).length c) ((queryL l).getD []).length (((queryL l).getD []).flatMap PD.cells) ∧ Below w.heap.size w w' := by
  refine (query_le l w hl).mono ?_
  intro e w' h
  cases hq : queryL l with
  | none =>
    rw [hq] at h
    obtain ⟨rfl, hb⟩ := h
    exact ⟨none, 0, rfl, World.ownsRow_nil w' _ _ _, hb⟩
  | some hs =>
    obtain ⟨A, c, rfl, ho, hb⟩ := qpost_some h hq
    exact ⟨A, c, rfl, ho, hb⟩
theorem all_u (A : Option Addr) (n c : Nat) (hs : List PD) (name : List UInt8) (w : World) (hA : RV w A (hs.flatMap PD.cells)) (hn : n = hs.length) (hl : n ≤ 1048576) :
    Calls Tryd.prog 26 #[.slice A n c, .string ⟨name.toArray⟩] w fun e w' => ∃ A1 c1, e = .returned (.slice A1 (vals hs name).length c1) ∧ w'.ownsRow w.heap.size 9 1 (.slice A1 (vals hs name).length c1) (vals hs name).length ((vals hs name).map strV) ∧ Below w.heap.size w w' := by
  refine (all_any A n c hs name w hA hn hl).mono ?_
  rintro e w' ⟨v, rfl, ho, hb⟩
  obtain ⟨A1, n1, c1, rfl, hn1⟩ := own_form ho
  subst hn1
  exact ⟨A1, c1, rfl, ho, hb⟩
end Go.Proofs.YtompcngeikjfiaaDoor.Uri
