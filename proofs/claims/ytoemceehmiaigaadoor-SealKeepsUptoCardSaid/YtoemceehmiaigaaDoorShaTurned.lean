/- The two ways to turn a 32-bit word right, for the ten distances in use. -/
import Derived.Test.YtoemceehmiaigaaDoorShaPure
import Derived.Test.YtoemceehmiaigaaDoorProg
namespace Go.Proofs.YtoemceehmiaigaaDoor.Sha
open Go.RowKit Go.Proofs.YtoemceehmiaigaaDoor.Mem

theorem or_rot (x : UInt32) (n : Nat) (h : n < 32) (a b : Int) (ha : a = (x.toNat : Int) / (2 ^ n : Nat)) (hb : b = (x.toNat : Int) * (2 ^ (32 - n) : Nat) % 4294967296) :
    bits .or .u32 a b = ((rotr x n).toNat : Int) := by
  have ea : a = ((x.toNat / 2 ^ n : Nat) : Int) := by rw [ha, Int.natCast_ediv]
  have eb : b = ((x.toNat * 2 ^ (32 - n) % 4294967296 : Nat) : Int) := by rw [hb, Int.natCast_emod, Int.natCast_mul]; rfl
  rw [ea, eb, u32_or_nat _ _ (Nat.lt_of_le_of_lt (Nat.div_le_self _ _) x.toNat_lt) (Nat.mod_lt _ (by omega)), rotr_nat x n h]
theorem or_rot' (x : UInt32) (n : Nat) (h : n < 32) (a b : Int) (ha : a = (x.toNat : Int) / (2 ^ n : Nat)) (hb : b = (x.toNat : Int) * (2 ^ (32 - n) : Nat) % 4294967296) :
    bits .or .u32 b a = ((rotr x n).toNat : Int) := by
  rw [← or_rot x n h a b ha hb]
  have ea : a = ((x.toNat / 2 ^ n : Nat) : Int) := by rw [ha, Int.natCast_ediv]
  have eb : b = ((x.toNat * 2 ^ (32 - n) % 4294967296 : Nat) : Int) := by rw [hb, Int.natCast_emod, Int.natCast_mul]; rfl
  rw [ea, eb, u32_or_nat _ _ (Nat.lt_of_le_of_lt (Nat.div_le_self _ _) x.toNat_lt) (Nat.mod_lt _ (by omega)), u32_or_nat _ _ (Nat.mod_lt _ (by omega)) (Nat.lt_of_le_of_lt (Nat.div_le_self _ _) x.toNat_lt), Nat.or_comm]

set_option maxHeartbeats 400000 in
theorem turned_2 (x : UInt32) (w : World) :
    Calls Tryd.prog 71 #[w32 x, .int .i64 2] w fun e w' => e = .returned (w32 (rotr x 2)) ∧ w' = w := by
  have h0 : (0 : Int) ≤ (x.toNat : Int) := by omega
  have h1 : (x.toNat : Int) < 4294967296 := by have := x.toNat_lt; omega
  have hk : bits .and .u64 (IntKind.u64.wrap (-2)) 31 = 30 := by decide
  have hr : bits .or .u32 ((x.toNat : Int) * 1073741824 % 4294967296) ((x.toNat : Int) / 4) = ((rotr x 2).toNat : Int) := or_rot' x 2 (by omega) _ _ rfl rfl
  go_enter Tryd.func71, Tryd.ntmps71
  go_wp2
  go_ret
  exact ⟨rfl, rfl⟩
set_option maxHeartbeats 400000 in
theorem rturned_2 (x : UInt32) (w : World) :
    Calls Tryd.prog 69 #[w32 x, .int .i64 2] w fun e w' => e = .returned (w32 (rotr x 2)) ∧ ∃ n, w' = w.drewN n := by
  have h0 : (0 : Int) ≤ (x.toNat : Int) := by omega
  have h1 : (x.toNat : Int) < 4294967296 := by have := x.toNat_lt; omega
  have hr : bits .or .u32 ((x.toNat : Int) / 4) ((x.toNat : Int) * 1073741824 % 4294967296) = ((rotr x 2).toNat : Int) := or_rot x 2 (by omega) _ _ rfl rfl
  go_enter Tryd.func69, Tryd.ntmps69
  go_wp2
  go_quiet (fail)
  go_wp2
  go_ret
  exact ⟨rfl, _, rfl⟩

set_option maxHeartbeats 400000 in
theorem turned_6 (x : UInt32) (w : World) :
    Calls Tryd.prog 71 #[w32 x, .int .i64 6] w fun e w' => e = .returned (w32 (rotr x 6)) ∧ w' = w := by
  have h0 : (0 : Int) ≤ (x.toNat : Int) := by omega
  have h1 : (x.toNat : Int) < 4294967296 := by have := x.toNat_lt; omega
  have hk : bits .and .u64 (IntKind.u64.wrap (-6)) 31 = 26 := by decide
  have hr : bits .or .u32 ((x.toNat : Int) * 67108864 % 4294967296) ((x.toNat : Int) / 64) = ((rotr x 6).toNat : Int) := or_rot' x 6 (by omega) _ _ rfl rfl
  go_enter Tryd.func71, Tryd.ntmps71
  go_wp2
  go_ret
  exact ⟨rfl, rfl⟩
set_option maxHeartbeats 400000 in
theorem rturned_6 (x : UInt32) (w : World) :
    Calls Tryd.prog 69 #[w32 x, .int .i64 6] w fun e w' => e = .returned (w32 (rotr x 6)) ∧ ∃ n, w' = w.drewN n := by
  have h0 : (0 : Int) ≤ (x.toNat : Int) := by omega
  have h1 : (x.toNat : Int) < 4294967296 := by have := x.toNat_lt; omega
  have hr : bits .or .u32 ((x.toNat : Int) / 64) ((x.toNat : Int) * 67108864 % 4294967296) = ((rotr x 6).toNat : Int) := or_rot x 6 (by omega) _ _ rfl rfl
  go_enter Tryd.func69, Tryd.ntmps69
  go_wp2
  go_quiet (fail)
  go_wp2
  go_ret
  exact ⟨rfl, _, rfl⟩

set_option maxHeartbeats 400000 in
theorem turned_7 (x : UInt32) (w : World) :
    Calls Tryd.prog 71 #[w32 x, .int .i64 7] w fun e w' => e = .returned (w32 (rotr x 7)) ∧ w' = w := by
  have h0 : (0 : Int) ≤ (x.toNat : Int) := by omega
  have h1 : (x.toNat : Int) < 4294967296 := by have := x.toNat_lt; omega
  have hk : bits .and .u64 (IntKind.u64.wrap (-7)) 31 = 25 := by decide
  have hr : bits .or .u32 ((x.toNat : Int) * 33554432 % 4294967296) ((x.toNat : Int) / 128) = ((rotr x 7).toNat : Int) := or_rot' x 7 (by omega) _ _ rfl rfl
  go_enter Tryd.func71, Tryd.ntmps71
  go_wp2
  go_ret
  exact ⟨rfl, rfl⟩
set_option maxHeartbeats 400000 in
theorem rturned_7 (x : UInt32) (w : World) :
    Calls Tryd.prog 69 #[w32 x, .int .i64 7] w fun e w' => e = .returned (w32 (rotr x 7)) ∧ ∃ n, w' = w.drewN n := by
  have h0 : (0 : Int) ≤ (x.toNat : Int) := by omega
  have h1 : (x.toNat : Int) < 4294967296 := by have := x.toNat_lt; omega
  have hr : bits .or .u32 ((x.toNat : Int) / 128) ((x.toNat : Int) * 33554432 % 4294967296) = ((rotr x 7).toNat : Int) := or_rot x 7 (by omega) _ _ rfl rfl
  go_enter Tryd.func69, Tryd.ntmps69
  go_wp2
  go_quiet (fail)
  go_wp2
  go_ret
  exact ⟨rfl, _, rfl⟩

set_option maxHeartbeats 400000 in
theorem turned_11 (x : UInt32) (w : World) :
    Calls Tryd.prog 71 #[w32 x, .int .i64 11] w fun e w' => e = .returned (w32 (rotr x 11)) ∧ w' = w := by
  have h0 : (0 : Int) ≤ (x.toNat : Int) := by omega
  have h1 : (x.toNat : Int) < 4294967296 := by have := x.toNat_lt; omega
  have hk : bits .and .u64 (IntKind.u64.wrap (-11)) 31 = 21 := by decide
  have hr : bits .or .u32 ((x.toNat : Int) * 2097152 % 4294967296) ((x.toNat : Int) / 2048) = ((rotr x 11).toNat : Int) := or_rot' x 11 (by omega) _ _ rfl rfl
  go_enter Tryd.func71, Tryd.ntmps71
  go_wp2
  go_ret
  exact ⟨rfl, rfl⟩
set_option maxHeartbeats 400000 in
theorem rturned_11 (x : UInt32) (w : World) :
    Calls Tryd.prog 69 #[w32 x, .int .i64 11] w fun e w' => e = .returned (w32 (rotr x 11)) ∧ ∃ n, w' = w.drewN n := by
  have h0 : (0 : Int) ≤ (x.toNat : Int) := by omega
  have h1 : (x.toNat : Int) < 4294967296 := by have := x.toNat_lt; omega
  have hr : bits .or .u32 ((x.toNat : Int) / 2048) ((x.toNat : Int) * 2097152 % 4294967296) = ((rotr x 11).toNat : Int) := or_rot x 11 (by omega) _ _ rfl rfl
  go_enter Tryd.func69, Tryd.ntmps69
  go_wp2
  go_quiet (fail)
  go_wp2
  go_ret
  exact ⟨rfl, _, rfl⟩

set_option maxHeartbeats 400000 in
theorem turned_13 (x : UInt32) (w : World) :
    Calls Tryd.prog 71 #[w32 x, .int .i64 13] w fun e w' => e = .returned (w32 (rotr x 13)) ∧ w' = w := by
  have h0 : (0 : Int) ≤ (x.toNat : Int) := by omega
  have h1 : (x.toNat : Int) < 4294967296 := by have := x.toNat_lt; omega
  have hk : bits .and .u64 (IntKind.u64.wrap (-13)) 31 = 19 := by decide
  have hr : bits .or .u32 ((x.toNat : Int) * 524288 % 4294967296) ((x.toNat : Int) / 8192) = ((rotr x 13).toNat : Int) := or_rot' x 13 (by omega) _ _ rfl rfl
  go_enter Tryd.func71, Tryd.ntmps71
  go_wp2
  go_ret
  exact ⟨rfl, rfl⟩
set_option maxHeartbeats 400000 in
theorem rturned_13 (x : UInt32) (w : World) :
    Calls Tryd.prog 69 #[w32 x, .int .i64 13] w fun e w' => e = .returned (w32 (rotr x 13)) ∧ ∃ n, w' = w.drewN n := by
  have h0 : (0 : Int) ≤ (x.toNat : Int) := by omega
  have h1 : (x.toNat : Int) < 4294967296 := by have := x.toNat_lt; omega
  have hr : bits .or .u32 ((x.toNat : Int) / 8192) ((x.toNat : Int) * 524288 % 4294967296) = ((rotr x 13).toNat : Int) := or_rot x 13 (by omega) _ _ rfl rfl
  go_enter Tryd.func69, Tryd.ntmps69
  go_wp2
  go_quiet (fail)
  go_wp2
  go_ret
  exact ⟨rfl, _, rfl⟩

set_option maxHeartbeats 400000 in
theorem turned_17 (x : UInt32) (w : World) :
    Calls Tryd.prog 71 #[w32 x, .int .i64 17] w fun e w' => e = .returned (w32 (rotr x 17)) ∧ w' = w := by
  have h0 : (0 : Int) ≤ (x.toNat : Int) := by omega
  have h1 : (x.toNat : Int) < 4294967296 := by have := x.toNat_lt; omega
  have hk : bits .and .u64 (IntKind.u64.wrap (-17)) 31 = 15 := by decide
  have hr : bits .or .u32 ((x.toNat : Int) * 32768 % 4294967296) ((x.toNat : Int) / 131072) = ((rotr x 17).toNat : Int) := or_rot' x 17 (by omega) _ _ rfl rfl
  go_enter Tryd.func71, Tryd.ntmps71
  go_wp2
  go_ret
  exact ⟨rfl, rfl⟩
set_option maxHeartbeats 400000 in
theorem rturned_17 (x : UInt32) (w : World) :
    Calls Tryd.prog 69 #[w32 x, .int .i64 17] w fun e w' => e = .returned (w32 (rotr x 17)) ∧ ∃ n, w' = w.drewN n := by
  have h0 : (0 : Int) ≤ (x.toNat : Int) := by omega
  have h1 : (x.toNat : Int) < 4294967296 := by have := x.toNat_lt; omega
  have hr : bits .or .u32 ((x.toNat : Int) / 131072) ((x.toNat : Int) * 32768 % 4294967296) = ((rotr x 17).toNat : Int) := or_rot x 17 (by omega) _ _ rfl rfl
  go_enter Tryd.func69, Tryd.ntmps69
  go_wp2
  go_quiet (fail)
  go_wp2
  go_ret
  exact ⟨rfl, _, rfl⟩

set_option maxHeartbeats 400000 in
theorem turned_18 (x : UInt32) (w : World) :
    Calls Tryd.prog 71 #[w32 x, .int .i64 18] w fun e w' => e = .returned (w32 (rotr x 18)) ∧ w' = w := by
  have h0 : (0 : Int) ≤ (x.toNat : Int) := by omega
  have h1 : (x.toNat : Int) < 4294967296 := by have := x.toNat_lt; omega
  have hk : bits .and .u64 (IntKind.u64.wrap (-18)) 31 = 14 := by decide
  have hr : bits .or .u32 ((x.toNat : Int) * 16384 % 4294967296) ((x.toNat : Int) / 262144) = ((rotr x 18).toNat : Int) := or_rot' x 18 (by omega) _ _ rfl rfl
  go_enter Tryd.func71, Tryd.ntmps71
  go_wp2
  go_ret
  exact ⟨rfl, rfl⟩
set_option maxHeartbeats 400000 in
theorem rturned_18 (x : UInt32) (w : World) :
    Calls Tryd.prog 69 #[w32 x, .int .i64 18] w fun e w' => e = .returned (w32 (rotr x 18)) ∧ ∃ n, w' = w.drewN n := by
  have h0 : (0 : Int) ≤ (x.toNat : Int) := by omega
  have h1 : (x.toNat : Int) < 4294967296 := by have := x.toNat_lt; omega
  have hr : bits .or .u32 ((x.toNat : Int) / 262144) ((x.toNat : Int) * 16384 % 4294967296) = ((rotr x 18).toNat : Int) := or_rot x 18 (by omega) _ _ rfl rfl
  go_enter Tryd.func69, Tryd.ntmps69
  go_wp2
  go_quiet (fail)
  go_wp2
  go_ret
  exact ⟨rfl, _, rfl⟩

set_option maxHeartbeats 400000 in
theorem turned_19 (x : UInt32) (w : World) :
    Calls Tryd.prog 71 #[w32 x, .int .i64 19] w fun e w' => e = .returned (w32 (rotr x 19)) ∧ w' = w := by
  have h0 : (0 : Int) ≤ (x.toNat : Int) := by omega
  have h1 : (x.toNat : Int) < 4294967296 := by have := x.toNat_lt; omega
  have hk : bits .and .u64 (IntKind.u64.wrap (-19)) 31 = 13 := by decide
  have hr : bits .or .u32 ((x.toNat : Int) * 8192 % 4294967296) ((x.toNat : Int) / 524288) = ((rotr x 19).toNat : Int) := or_rot' x 19 (by omega) _ _ rfl rfl
  go_enter Tryd.func71, Tryd.ntmps71
  go_wp2
  go_ret
  exact ⟨rfl, rfl⟩
set_option maxHeartbeats 400000 in
theorem rturned_19 (x : UInt32) (w : World) :
    Calls Tryd.prog 69 #[w32 x, .int .i64 19] w fun e w' => e = .returned (w32 (rotr x 19)) ∧ ∃ n, w' = w.drewN n := by
  have h0 : (0 : Int) ≤ (x.toNat : Int) := by omega
  have h1 : (x.toNat : Int) < 4294967296 := by have := x.toNat_lt; omega
  have hr : bits .or .u32 ((x.toNat : Int) / 524288) ((x.toNat : Int) * 8192 % 4294967296) = ((rotr x 19).toNat : Int) := or_rot x 19 (by omega) _ _ rfl rfl
  go_enter Tryd.func69, Tryd.ntmps69
  go_wp2
  go_quiet (fail)
  go_wp2
  go_ret
  exact ⟨rfl, _, rfl⟩

set_option maxHeartbeats 400000 in
theorem turned_22 (x : UInt32) (w : World) :
    Calls Tryd.prog 71 #[w32 x, .int .i64 22] w fun e w' => e = .returned (w32 (rotr x 22)) ∧ w' = w := by
  have h0 : (0 : Int) ≤ (x.toNat : Int) := by omega
  have h1 : (x.toNat : Int) < 4294967296 := by have := x.toNat_lt; omega
  have hk : bits .and .u64 (IntKind.u64.wrap (-22)) 31 = 10 := by decide
  have hr : bits .or .u32 ((x.toNat : Int) * 1024 % 4294967296) ((x.toNat : Int) / 4194304) = ((rotr x 22).toNat : Int) := or_rot' x 22 (by omega) _ _ rfl rfl
  go_enter Tryd.func71, Tryd.ntmps71
  go_wp2
  go_ret
  exact ⟨rfl, rfl⟩
set_option maxHeartbeats 400000 in
theorem rturned_22 (x : UInt32) (w : World) :
    Calls Tryd.prog 69 #[w32 x, .int .i64 22] w fun e w' => e = .returned (w32 (rotr x 22)) ∧ ∃ n, w' = w.drewN n := by
  have h0 : (0 : Int) ≤ (x.toNat : Int) := by omega
  have h1 : (x.toNat : Int) < 4294967296 := by have := x.toNat_lt; omega
  have hr : bits .or .u32 ((x.toNat : Int) / 4194304) ((x.toNat : Int) * 1024 % 4294967296) = ((rotr x 22).toNat : Int) := or_rot x 22 (by omega) _ _ rfl rfl
  go_enter Tryd.func69, Tryd.ntmps69
  go_wp2
  go_quiet (fail)
  go_wp2
  go_ret
  exact ⟨rfl, _, rfl⟩

set_option maxHeartbeats 400000 in
theorem turned_25 (x : UInt32) (w : World) :
    Calls Tryd.prog 71 #[w32 x, .int .i64 25] w fun e w' => e = .returned (w32 (rotr x 25)) ∧ w' = w := by
  have h0 : (0 : Int) ≤ (x.toNat : Int) := by omega
  have h1 : (x.toNat : Int) < 4294967296 := by have := x.toNat_lt; omega
  have hk : bits .and .u64 (IntKind.u64.wrap (-25)) 31 = 7 := by decide
  have hr : bits .or .u32 ((x.toNat : Int) * 128 % 4294967296) ((x.toNat : Int) / 33554432) = ((rotr x 25).toNat : Int) := or_rot' x 25 (by omega) _ _ rfl rfl
  go_enter Tryd.func71, Tryd.ntmps71
  go_wp2
  go_ret
  exact ⟨rfl, rfl⟩
set_option maxHeartbeats 400000 in
theorem rturned_25 (x : UInt32) (w : World) :
    Calls Tryd.prog 69 #[w32 x, .int .i64 25] w fun e w' => e = .returned (w32 (rotr x 25)) ∧ ∃ n, w' = w.drewN n := by
  have h0 : (0 : Int) ≤ (x.toNat : Int) := by omega
  have h1 : (x.toNat : Int) < 4294967296 := by have := x.toNat_lt; omega
  have hr : bits .or .u32 ((x.toNat : Int) / 33554432) ((x.toNat : Int) * 128 % 4294967296) = ((rotr x 25).toNat : Int) := or_rot x 25 (by omega) _ _ rfl rfl
  go_enter Tryd.func69, Tryd.ntmps69
  go_wp2
  go_quiet (fail)
  go_wp2
  go_ret
  exact ⟨rfl, _, rfl⟩
end Go.Proofs.YtoemceehmiaigaaDoor.Sha
