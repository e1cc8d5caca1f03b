import Derived.Test.YtoemceehmiaigaaLaws
import Derived.Test.YtoemceehmiaigaaLoan
import Derived.Test.YtoemceehmiaigaaProg
import Derived.Laws.BitsAllLaws
namespace Go.Proofs.Ytoemceehmiaigaa.Hex
open Go.RowKit Go.Proofs.Ytoemceehmiaigaa.Mem Go.Proofs.Ytoemceehmiaigaa.Loan

def hexd (n : Nat) : UInt8 := if n < 10 then UInt8.ofNat (48 + n) else UInt8.ofNat (87 + n)
def hexl (l : List UInt8) : List UInt8 := l.flatMap fun c => [hexd (c.toNat / 16), hexd (c.toNat % 16)]
theorem hexl_length (l : List UInt8) : (hexl l).length = 2 * l.length := by
  induction l with
  | nil => rfl
  | cons c r ih => simp only [hexl, List.flatMap_cons, List.length_append, List.length_cons, List.length_nil] at *; omega
theorem hexl_take {l : List UInt8} {k : Nat} (h : k < l.length) : hexl (l.take (k + 1)) = hexl (l.take k) ++ [hexd (l[k].toNat / 16), hexd (l[k].toNat % 16)] := by
  rw [take_succ_ h]; simp only [hexl, List.flatMap_append, List.flatMap_cons, List.flatMap_nil, List.append_nil]

abbrev digits : ByteArray := { data := #[48, 49, 50, 51, 52, 53, 54, 55, 56, 57, 97, 98, 99, 100, 101, 102] }
theorem digit_at : ∀ n, n < 16 → digits.data[n]? = some (hexd n) := by decide
theorem run_digit (W : World) (n : Nat) (h : n < 16) : (Instr.index 9 (.string digits) (.int .u8 (n : Int))).run Try.prog W = .ok (bv (hexd n)) W := by
  have h1 : (0 : Int) ≤ (n : Int) ∧ (n : Int) < 16 := by omega
  have h2 := digit_at n h
  have h3 : n < digits.data.size := h
  rw [Array.getElem?_eq_getElem h3] at h2
  injection h2 with h2
  rw [run_index_string (P := Try.prog) (w := W) _ _ _ _ Try.underlying9, dif_pos (by exact h1)]
  have e : (digits[((n : Int)).toNat]'(by show n < 16; omega)) = hexd n := h2
  rw [e]

set_option maxHeartbeats 400000 in
theorem any (A : Option Addr) (c : Nat) (l : List UInt8) (w : World) (ha : RB w A l) (hl : l.length ≤ 70368744177664) :
    Calls Try.prog 7 #[.slice A l.length c] w fun e w' => e = .returned (.string ⟨(hexl l).toArray⟩) ∧ Below w.heap.size w w' := by
  have HA := Lib.hid ha
  clear ha
  have h0 : (0 : Int) ≤ 2 * (l.length : Int) := by omega
  have h1 : 2 * (l.length : Int) ≤ 9223372036854775807 := by omega
  go_enter Try.func7, Try.ntmps7
  go_wp2_with (first
    | (at_make; go_must (refine wpList_make0 E8 rfl _ _ rfl .i64 .i64 _ (2 * l.length) rfl rfl (by omega) (by omega) (by unfold maxLen; omega) w.heap.size (Nat.le_refl _) ?_); intro v1 w1 hown1 hv1 hb1 hz1 hv1'; obtain ⟨ad1, rfl⟩ := hv1'))
  have X0 := Lib.hid (And.intro hown1 hb1)
  clear hown1 hb1 hz1 hv1
  go_loopw [3, 12] (fun v i wr => ∃ k : Nat, k ≤ l.length ∧ i = .int .i64 k ∧ wr.ownsRow w.heap.size 5 1 v (2 * k) ((hexl (l.take k)).map bv) ∧ Below w.heap.size w wr)
    (fun _ i _ => l.length - (intOf i).toNat)
  case atStart => exact ⟨0, by omega, rfl, by simpa [hexl] using X0.out.1, X0.out.2⟩
  case round =>
    obtain ⟨k, hk, rfl, hown, hb⟩ := hrel
    clear X0
    by_cases hlt : k < l.length
    · obtain ⟨ad, rfl, hc0⟩ := HA.out k hlt
      have hc : wr.cell? (ad.add k) = some (bv l[k]) := (hb.cell (by exact block_lt_of_cell hc0)).trans hc0
      have X := Lib.hid (And.intro hown hb)
      clear hown hb hc0
      have hlt' : (k : Int) < (l.length : Int) := by omega
      have hc8 : (l[k].toNat : Int) < 256 := by have := l[k].toNat_lt; omega
      have hc0' : (0 : Int) ≤ (l[k].toNat : Int) := by omega
      have hx1 := fun W => run_digit W (l[k].toNat / 16) (by omega)
      have hx2 := fun W => run_digit W (l[k].toNat % 16) (by omega)
      have hand : bits .and .u8 (l[k].toNat : Int) 15 = ((l[k].toNat % 16 : Nat) : Int) := by rw [← nat_mask4]; exact u8_and_nat _ 15 l[k].toNat_lt (by omega)
      push_cast at hx1 hx2 hand
      go_wp2_with fail
      go_region_held3 (fun _ => True) (trivial) ((refine step_app E8 (by rfl) (.tmp 16) (.tmp 23) (by rfl) w.heap.size u3 (2 * k) _ (by rfl) ((X.out.1.drew).alloc _) (some ⟨wr.heap.size, 0, none⟩) 2 2 [bv (hexd (l[k].toNat / 16)), bv (hexd (l[k].toNat % 16))] (by rfl) (rv_new _ _ _) (by rfl) (bytes_oneCell [_, _]) (by unfold maxLen; omega) (by omega) (by have := X.out.2.size; simp; omega) ?_; intro v2 w2 hown2 hg2 hv2))
      all_goals
        have Y := Lib.hid (And.intro hown2 (below_own ((X.out.2.alloc X.out.2.size _).drew) ((X.out.1.alloc _).drew) hg2 (by have := X.out.2.size; simp; omega)))
        clear hown2 hg2 hv2
        go_wp2
        exact ⟨⟨k + 1, by omega, by go_num, by rw [hexl_take hlt]; simpa [Nat.mul_add] using Y.out.1, Y.out.2⟩, by simp [intOf]; omega⟩
    · obtain rfl : k = l.length := by omega
      rw [List.take_length] at hown
      obtain ⟨A', n', c', rfl, hn'⟩ := own_form hown
      have hlen : (hexl l).length = n' := by rw [hexl_length]; omega
      have hcv := conv_rb (P := Try.prog) (src := 24) (dst := 9) Try.underlying24 Try.underlying5 Try.underlying9 (own_rb' hown) c'
      rw [hlen] at hcv
      have Y := Lib.hid (And.intro hown hb)
      clear hown hb hlen hn'
      go_wp2
      go_ret
      exact ⟨rfl, Y.out.2⟩

set_option maxHeartbeats 400000 in
theorem ref_any (A : Option Addr) (c : Nat) (l : List UInt8) (w : World) (ha : RB w A l) (hl : l.length ≤ 70368744177664) :
    Calls Try.prog 11 #[.slice A l.length c] w fun e w' => e = .returned (.string ⟨(hexl l).toArray⟩) ∧ Below w.heap.size w w' := by
  have HA := Lib.hid ha
  clear ha
  have hlm : (l.length : Int) ≤ 9223372036854775807 := by omega
  go_enter Try.func11, Try.ntmps11
  go_wp2
  go_loopw [4, 5] (fun v i wr => ∃ k : Nat, k ≤ l.length ∧ i = .int .i64 k ∧ wr.ownsRow w.heap.size 5 1 v (2 * k) ((hexl (l.take k)).map bv) ∧ Below w.heap.size w wr)
    (fun _ i _ => l.length - (intOf i).toNat)
  case atStart => exact ⟨0, by omega, rfl, by simpa [hexl] using World.ownsRow_nil w _ _ _, Below.refl _ _⟩
  case round =>
    obtain ⟨k, hk, rfl, hown, hb⟩ := hrel
    by_cases hlt : k < l.length
    · obtain ⟨ad, rfl, hc0⟩ := HA.out k hlt
      have hc : wr.cell? (ad.add k) = some (bv l[k]) := (hb.cell (by exact block_lt_of_cell hc0)).trans hc0
      have X := Lib.hid (And.intro hown hb)
      have HC := Lib.hid (And.intro hc0 (block_lt_of_cell hc0))
      clear hown hb hc0
      have hlt' : (k : Int) < (l.length : Int) := by omega
      have h0k : (0 : Int) ≤ (k : Int) := by omega
      have hc8 : (l[k].toNat : Int) < 256 := by have := l[k].toNat_lt; omega
      have hc0' : (0 : Int) ≤ (l[k].toNat : Int) := by omega
      have hx1 := fun W => run_digit W (l[k].toNat / 16) (by omega)
      have hx2 := fun W => run_digit W (l[k].toNat % 16) (by omega)
      push_cast at hx1 hx2
      have hw1 : IntKind.u8.wrap ((l[k].toNat : Int) / 16) = (l[k].toNat : Int) / 16 := by rw [IntKind.wrap_u8']; omega
      have hw2 : (l[k].toNat : Int).tmod 16 = (l[k].toNat : Int) % 16 := Int.tmod_eq_emod_of_nonneg hc0'
      go_wp2_with fail
      go_region_held3 (fun w' => w'.cell? (ad.add k) = some (bv l[k])) (first | go_keep | exact ((below_own ((X.out.2.alloc X.out.2.size _).drew) ((X.out.1.alloc _).drew) hg2 (by have := X.out.2.size; simp; omega)).cell HC.out.2).trans HC.out.1) ((refine step_app E8 (by rfl) (.tmp 12) (.tmp 27) (by rfl) w.heap.size u4 (2 * k) _ (by rfl) ((X.out.1.drew).alloc _) (some ⟨wr.heap.size, 0, none⟩) 2 2 [bv (hexd (l[k].toNat / 16)), bv (hexd (l[k].toNat % 16))] (by rfl) (rv_new _ _ _) (by rfl) (bytes_oneCell [_, _]) (by unfold maxLen; omega) (by omega) (by have := X.out.2.size; simp; omega) ?_; intro v2 w2 hown2 hg2 hv2))
      clear hw1 hw2 hx1 hx2
      all_goals
        have Y := Lib.hid (And.intro hown2 (below_own ((X.out.2.alloc X.out.2.size _).drew) ((X.out.1.alloc _).drew) hg2 (by have := X.out.2.size; simp; omega)))
        clear hown2 hg2 hv2
        go_wp2
        exact ⟨⟨k + 1, by omega, by go_num, by rw [hexl_take hlt]; simpa [Nat.mul_add] using Y.out.1, Y.out.2⟩, by simp [intOf]; omega⟩
    · obtain rfl : k = l.length := by omega
      rw [List.take_length] at hown
      obtain ⟨A', n', c', rfl, hn'⟩ := own_form hown
      have hlen : (hexl l).length = n' := by rw [hexl_length]; omega
      have hcv := conv_rb (P := Try.prog) (src := 24) (dst := 9) Try.underlying24 Try.underlying5 Try.underlying9 (own_rb' hown) c'
      rw [hlen] at hcv
      have Y := Lib.hid (And.intro hown hb)
      clear hown hb hlen hn'
      go_wp2
      go_ret
      exact ⟨rfl, Y.out.2⟩

set_option maxHeartbeats 400000 in
theorem ref_equal (A B : Option Addr) (ca cb : Nat) (la lb : List UInt8) (w : World) (ha : RB w A la) (hb : RB w B lb) :
    Calls Try.prog 10 #[.slice A la.length ca, .slice B lb.length cb] w fun e w' => e = .returned (.bool (decide (la = lb))) ∧ ∃ n, w' = w.drewN n := by
  have kc1 := conv_rb (P := Try.prog) (src := 24) (dst := 9) Try.underlying24 Try.underlying5 Try.underlying9 ha ca
  have kc2 := conv_rb (P := Try.prog) (src := 24) (dst := 9) Try.underlying24 Try.underlying5 Try.underlying9 hb cb
  clear ha hb
  go_enter Try.func10, Try.ntmps10
  go_wp2
  go_ret
  exact ⟨ret_bool (by rw [Bool.eq_iff_iff]; simp), 0, rfl⟩
end Go.Proofs.Ytoemceehmiaigaa.Hex
