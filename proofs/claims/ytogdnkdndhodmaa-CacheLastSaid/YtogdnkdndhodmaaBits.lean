/- Plain: a number of 64 bits under a mask, of whatever sign. -/
import Derived.WalkKit
import Derived.IntWalk
namespace Go.Proofs.Ytogdnkdndhodmaa
open Go.RowKit

theorem and_mask (x : Int) (m : Nat) (hm : m ≤ 62) : bits .and .i64 x ((2 : Int) ^ m - 1) = x % (2 : Int) ^ m := by
  have hp : (2 : Nat) ^ m ≤ 2 ^ 62 := Nat.pow_le_pow_right (by omega) hm
  have hpos : 0 < (2 : Nat) ^ m := Nat.pow_pos (by omega)
  have e62 : (2 : Nat) ^ 62 = 4611686018427387904 := by decide
  have e64 : ((2 ^ 64 : Nat) : Int) = 18446744073709551616 := by decide
  have ez : ((2 : Int) ^ m) = (((2 : Nat) ^ m : Nat) : Int) := by push_cast; rfl
  have h1 : (BitVec.ofInt 64 x &&& BitVec.ofInt 64 ((2 : Int) ^ m - 1)).toNat = (x % (2 : Int) ^ m).toNat := by
    rw [BitVec.toNat_and, BitVec.toNat_ofInt, BitVec.toNat_ofInt]
    have e1 : (((2 : Int) ^ m - 1) % ((2 ^ 64 : Nat) : Int)).toNat = 2 ^ m - 1 := by
      rw [e64, ez]; omega
    rw [e1, Nat.and_two_pow_sub_one_eq_mod]
    have e2 : ((x % ((2 ^ 64 : Nat) : Int)).toNat % 2 ^ m : Nat) = (x % (2 : Int) ^ m).toNat := by
      have h0 : 0 ≤ x % ((2 ^ 64 : Nat) : Int) := Int.emod_nonneg _ (by rw [e64]; decide)
      have h2 : (((x % ((2 ^ 64 : Nat) : Int)).toNat % 2 ^ m : Nat) : Int) = x % (2 : Int) ^ m := by
        rw [Int.natCast_emod, Int.toNat_of_nonneg h0, ← ez]
        refine Int.emod_emod_of_dvd x ?_
        refine ⟨(2 : Int) ^ (64 - m), ?_⟩
        rw [← Int.pow_add, show m + (64 - m) = 64 by omega]
        rfl
      omega
    exact e2
  have h2 : 0 ≤ x % (2 : Int) ^ m := Int.emod_nonneg _ (by rw [ez]; omega)
  have h3 : x % (2 : Int) ^ m < (2 : Int) ^ m := Int.emod_lt_of_pos _ (by rw [ez]; omega)
  show IntKind.i64.wrap ((BitVec.ofInt 64 x &&& BitVec.ofInt 64 ((2 : Int) ^ m - 1)).toNat : Int) = _
  rw [h1, Int.toNat_of_nonneg h2]
  rw [ez] at h3
  exact IntWalk.i64_in _ (by omega)

theorem and_15 (x : Int) : bits .and .i64 x 15 = x % 16 := and_mask x 4 (by omega)
theorem and_31 (x : Int) : bits .and .i64 x 31 = x % 32 := and_mask x 5 (by omega)
theorem and_255 (x : Int) : bits .and .i64 x 255 = x % 256 := and_mask x 8 (by omega)
theorem and_65535 (x : Int) : bits .and .i64 x 65535 = x % 65536 := and_mask x 16 (by omega)
theorem and_u32 (x : Int) : bits .and .i64 x 4294967295 = x % 4294967296 := and_mask x 32 (by omega)
theorem and_30 (x : Int) : bits .and .i64 x 1073741823 = x % 1073741824 := and_mask x 30 (by omega)
theorem and_29 (x : Int) : bits .and .i64 x 536870911 = x % 536870912 := and_mask x 29 (by omega)

end Go.Proofs.Ytogdnkdndhodmaa
