/- uri: every Query and Target. -/
import Derived.Test.YtompcngeikjfiaaDoorLawUEscapes
namespace Go.Proofs.YtompcngeikjfiaaDoor.Uri
open Go.RowKit Go.Proofs.YtompcngeikjfiaaDoor.Mem Go.Proofs.YtompcngeikjfiaaDoor.Seal Go.Proofs.YtompcngeikjfiaaDoor.Strs Go.Proofs.YtompcngeikjfiaaDoor.Split
set_option linter.unusedVariables false

def qerr (o : Option (List PD)) : Int := if o.isSome then 0 else 270
theorem qpost_any {w : World} {o : Option (List PD)} {e : Ending} {w' : World} (h : QPost w o e w') :
    ∃ A c, e = .returned (.tuple #[.slice A (o.getD []).length c, .int .i64 (qerr o)]) ∧ RV w' A ((o.getD []).flatMap PD.cells) ∧ Below w.heap.size w w' := by
  cases o with
  | none =>
    unfold QPost at h
    exact ⟨none, 0, h.1, RV.nil _ _, h.2⟩
  | some hs =>
    obtain ⟨A, c, he, hr, hb⟩ := qpost_some h rfl
    exact ⟨A, c, he, own_rv hr, hb⟩
theorem query_le (l : List UInt8) (w : World) (hl : l.length ≤ 1073741823) : Calls Tryd.prog 16 #[.string ⟨l.toArray⟩] w (QPost w (queryL l)) :=
  query_any l w (by omega) (by have := splitL_len 38 l; omega) (fun p hp => by have := splitL_piece 38 l p hp; omega)
theorem queryL_len {l : List UInt8} : ((queryL l).getD []).length ≤ l.length + 1 := by
  cases h : queryL l with
  | none => simp
  | some hs =>
    have h1 := queryP_len (a := splitL 38 l) h
    have h2 := splitL_len 38 l
    simp only [Option.getD_some]
    omega

set_option maxRecDepth 4000 in
set_option maxHeartbeats 3200000 in
theorem law_texts (A : Option Addr) (c : Nat) (l : List (List UInt8)) (w : World) (hA : RV w A (l.map strV)) (hok : ∀ s ∈ l, s.length ≤ 1048576) (hl : l.length ≤ 1048576) :
    Calls Tryd.prog 5 #[.slice A l.length c] w fun e w' => e = .returned (.bool true) ∧ Below w.heap.size w w' := by
  obtain ⟨n, hn⟩ : ∃ n, n = l.length := ⟨_, rfl⟩
  have hni : (n : Int) ≤ 1048576 := by omega
  rw [← hn]
  have HA := Lib.hid (And.intro hA (And.intro hok hn))
  clear hA hok hn hl
  go_enter Tryd.func5, Tryd.ntmps5
  go_wp2_with (first
    | (go_at_call 10; refine (alive_any _).mono ?_; rintro e w1 ⟨rfl, hb1⟩))
  go_loopw [3] (fun v wr => ∃ k : Nat, k ≤ n ∧ v = .int .i64 k ∧ Below w.heap.size w wr) (fun v _ => n - (intOf v).toNat)
  case atStart => exact ⟨0, by omega, rfl, hb1⟩
  case round =>
    clear hb1
    obtain ⟨k, hk, rfl, hb⟩ := hrel
    by_cases hlt : k < n
    · have hkl : k < l.length := by have := HA.out.2.2; omega
      have hsl := HA.out.2.1 l[k] (List.getElem_mem hkl)
      have cell := fun W (hW : Below w.heap.size w W) => (HA.out.1.below hW) k (by rw [List.length_map]; exact hkl)
      simp only [List.getElem_map] at cell
      obtain ⟨s, hs⟩ : ∃ x, x = l[k] := ⟨_, rfl⟩
      simp only [← hs] at cell hsl
      obtain ⟨ad, hA', a0⟩ := cell wr hb
      subst hA'
      have HC := Lib.hid (fun W hW => (fun (h : ∃ ad', some ad = some ad' ∧ _) => (by obtain ⟨ad', e, h1⟩ := h; injection e with e; subst e; exact h1 : W.cell? (ad.add k) = some (.string ⟨s.toArray⟩))) (cell W hW))
      unfold strV at a0
      have cQ := Lib.hid (fun W => query_le s W (by omega))
      have cR := Lib.hid (fun W => rquery_any s W (by omega))
      have cT := Lib.hid (fun W => target_any s W (by omega))
      have cU := Lib.hid (fun W => rtarget_any s W (by omega))
      have hql := queryL_len (l := s)
      have hki : (k : Int) < (n : Int) := by omega
      have hk0 : (0 : Int) ≤ (k : Int) := by omega
      obtain ⟨q, hq⟩ : ∃ q, q = queryL s := ⟨_, rfl⟩
      obtain ⟨⟨tz, tp, tq⟩, ht⟩ : ∃ t, t = target s := ⟨_, rfl⟩
      simp only [← hq] at cQ cR hql
      simp only [← ht] at cT cU
      obtain ⟨qz, hqz⟩ : ∃ z, z = qerr q := ⟨_, rfl⟩
      obtain ⟨qs, hqs⟩ : ∃ z, z = q.getD [] := ⟨_, rfl⟩
      rw [← hqs] at hql
      have hqN : qs.length ≤ 1073741824 := by omega
      have HQ := Lib.hid (And.intro hqz hqs)
      clear cell hlt hkl hsl hs hq ht hqz hqs hql
      go_upto_region 7 with (first
        | (go_at_call 15; refine (cR.out _).mono ?_; clear cR; rintro e w2 hp2; obtain ⟨A2, c2, rfl, hr2, hb2⟩ := qpost_any hp2; clear hp2; rw [← HQ.out.1, ← HQ.out.2]; rw [← HQ.out.2] at hr2))
      have B2 := gt hb hb2
      have R2 := Lib.hid hr2
      replace a0 := HC.out w2 B2
      clear hr2 hb2
      go_upto_region 8 with (first
        | (go_at_call 16; refine (cQ.out _).mono ?_; clear cQ; rintro e w3 hp3; obtain ⟨A3, c3, rfl, hr3, hb3⟩ := qpost_any hp3; clear hp3; rw [← HQ.out.1, ← HQ.out.2]; rw [← HQ.out.2] at hr3))
      have B3 := gt B2 hb3
      have R3 := Lib.hid (And.intro (R2.out.below hb3) hr3)
      clear hr3 hb3 B2 R2 a0
      go_upto_region 10 with (first
        | (go_at_call 17; refine (same_any A3 A2 _ _ c3 c2 qs qs w3 R3.out.2 R3.out.1 rfl rfl (by omega) (by omega)).mono ?_; rw [decide_eq_true rfl]; rintro e w4 ⟨rfl, d, rfl⟩))
      have B4 := gn B3 d
      have a0 := HC.out _ B4
      clear B3
      go_upto_region 11 with (first
        | (go_at_call 18; refine (cU.out _).mono ?_; clear cU; rintro e w5 ⟨rfl, hb5⟩))
      have B5 := gt B4 hb5
      replace a0 := HC.out w5 B5
      go_wp2_with (first
        | (go_at_call 19; refine (cT.out _).mono ?_; clear cT; rintro e w6 ⟨rfl, hb6⟩))
      exact ⟨⟨k + 1, by omega, by go_num, gt B5 hb6⟩, by simp [intOf] <;> omega⟩
    · obtain rfl : k = n := by omega
      have hkk : ¬ (k : Int) < (k : Int) := by omega
      clear hlt
      go_wp2_with fail
      go_ret
      exact ⟨rfl, hb⟩
end Go.Proofs.YtompcngeikjfiaaDoor.Uri
