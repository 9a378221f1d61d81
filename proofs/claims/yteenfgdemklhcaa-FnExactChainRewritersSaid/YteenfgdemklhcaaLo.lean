/- Sets of states: two machine words of bits. -/
import Derived.Test.YteenfgdemklhcaaLi
set_option linter.unusedSimpArgs false
set_option linter.unusedVariables false
namespace Go.Fw
open Go Go.Proofs

/-- A set of states as the program keeps it. -/
def stD (a b : Nat) : D := .agg [.int .u64 a, .int .u64 b]
def stHas (a b : Nat) (s : Nat) : Bool := if s < 64 then a.testBit s else b.testBit (s - 64)

theorem ofNat64 (x : Nat) (hx : x < 18446744073709551616) : (BitVec.ofInt 64 (x : Int)).toNat = x := by
  rw [BitVec.toNat_ofInt]; omega
theorem wrapU64 (x : Nat) (hx : x < 18446744073709551616) : IntKind.u64.wrap (x : Int) = x := by
  have : IntKind.u64.wrap (x : Int) = (x : Int) % 18446744073709551616 := by
    simp [IntKind.wrap, IntKind.signed, IntKind.bits]
  rw [this]; omega
theorem and1 (x : Nat) (hx : x < 18446744073709551616) : bitsV .and .u64 (x : Int) 1 = ((x % 2 : Nat) : Int) := by
  have h1 := ofNat64 x hx
  have h2 := ofNat64 1 (by omega)
  show IntKind.u64.wrap (((BitVec.ofInt 64 (x : Int)) &&& (BitVec.ofInt 64 ((1 : Nat) : Int))).toNat : Int) = _
  rw [BitVec.toNat_and, h1, h2, Nat.and_one_is_mod, wrapU64 _ (by omega)]
theorem or64 (x y : Nat) (hx : x < 18446744073709551616) (hy : y < 18446744073709551616) : bitsV .or .u64 (x : Int) (y : Int) = ((x ||| y : Nat) : Int) := by
  have h1 := ofNat64 x hx
  have h2 := ofNat64 y hy
  show IntKind.u64.wrap (((BitVec.ofInt 64 (x : Int)) ||| (BitVec.ofInt 64 (y : Int))).toNat : Int) = _
  rw [BitVec.toNat_or, h1, h2, wrapU64 _ (Nat.or_lt_two_pow (n := 64) hx hy)]
theorem shr64 (x m : Nat) (hm : m < 64) : shiftV .shr .u64 (x : Int) (m : Int) = ((x / 2 ^ m : Nat) : Int) := by
  show Int.fdiv (x : Int) (2 ^ (min (m : Int).toNat 64)) = _
  rw [show min (m : Int).toNat 64 = m by omega, Int.fdiv_eq_ediv_of_nonneg _ (Int.le_of_lt (Int.pow_pos (by omega)))]
  simp
theorem shl64 (m : Nat) (hm : m < 64) : shiftV .shl .u64 1 (m : Int) = ((2 ^ m : Nat) : Int) := by
  show IntKind.u64.wrap (1 * 2 ^ (min (m : Int).toNat 64)) = _
  rw [show min (m : Int).toNat 64 = m by omega, Int.one_mul]
  have := wrapU64 (2 ^ m) (Nat.pow_lt_pow_right (by omega) hm)
  simpa using this
theorem bit_of (x m : Nat) (hx : x < 18446744073709551616) (hm : m < 64) : (bitsV .and .u64 (shiftV .shr .u64 (x : Int) (m : Int)) 1 == 1) = x.testBit m := by
  rw [shr64 x m hm, and1 _ (Nat.lt_of_le_of_lt (Nat.div_le_self _ _) hx), Nat.testBit_eq_decide_div_mod_eq]
  rcases Nat.mod_two_eq_zero_or_one (x / 2 ^ m) with h | h <;> simp [h]

end Go.Fw
