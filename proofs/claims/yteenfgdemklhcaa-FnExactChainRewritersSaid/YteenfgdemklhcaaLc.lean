/- Contracts of the functions that draw. -/
import Derived.Test.YteenfgdemklhcaaLb
set_option linter.unusedSimpArgs false
set_option linter.unusedVariables false
namespace Go.Fw
open Go Go.Proofs

/-- The value of a draw below 'n'. -/
def pickOk (n v : Int) : Prop := 0 ≤ v ∧ (1 ≤ n → v < n) ∧ (n < 1 → v = 0)

theorem bits_nn {x : Int} (h : 0 ≤ x) (h2 : x < 4611686018427387904) : (BitVec.ofInt 64 x).toNat = x.toNat := by
  rw [BitVec.toNat_ofInt]; omega
theorem xor_nn {a b : Int} (ha : 0 ≤ a) (hb : 0 ≤ b) (ha2 : a < 4611686018427387904) (hb2 : b < 4611686018427387904) : 0 ≤ bitsV .xor .i64 a b ∧ bitsV .xor .i64 a b < 4611686018427387904 := by
  have h1 := bits_nn ha ha2
  have h2 := bits_nn hb hb2
  have h3 : (BitVec.ofInt 64 a ^^^ BitVec.ofInt 64 b).toNat < 2 ^ 62 := by
    rw [BitVec.toNat_xor, h1, h2]
    exact Nat.xor_lt_two_pow (by omega) (by omega)
  have : bitsV .xor .i64 a b = IntKind.i64.wrap ((BitVec.ofInt 64 a ^^^ BitVec.ofInt 64 b).toNat : Int) := rfl
  rw [this, wrap64 (by omega) (by omega)]
  omega

theorem getD_byte (code : List UInt8) (i : Nat) (h : i < code.length) : (codeD code)[i]? = some (byteD code[i]) := by
  simp [codeD, h]

/-- What a function that draws leaves behind: the reader has moved on, by 'k' at most. -/
def Drew (code : List UInt8) (p k : Int) (ok : RV → Prop) (r : RV) (b' : List D) : Prop := ∃ p', b' = rdB (codeD code) p' ∧ p ≤ p' ∧ p' ≤ p + k ∧ ok r

theorem drew_roads (code : List UInt8) {p q : Int} (h1 : p ≤ q) (h2 : q ≤ p + 100) (M : Int) (xs : List Rd) (hx : xs.length ≤ 14) {ys : List D} (hy : ys = xs.map Rd.d) :
    ∃ b', [AV.d (D.list (codeD code)), AV.d (iD q)] = List.map AV.d b' ∧ Drew code p 100 (fun r => ∃ m rs, r = RV.one (roadsD m rs) ∧ rs.length ≤ 14) (RV.one (D.agg [D.int IntKind.i64 M, D.list ys])) b' :=
  ⟨rdB (codeD code) q, rfl, q, rfl, h1, h2, M, xs, by subst hy; rfl, hx⟩
theorem take_map_all {α β : Type} (f : α → β) (xs : List α) : List.take xs.length (xs.map f) = xs.map f := List.take_of_length_le (by simp)

theorem take_map_snoc (rs : List Rd) (a b c d : Int) : List.take (rs.length + 1) (rs.map Rd.d ++ [D.agg [iD a, iD b, iD c, iD d]]) = (rs ++ [Rd.mk a b c d]).map Rd.d := by
  rw [List.take_of_length_le (by simp)]; simp [Rd.d]

end Go.Fw
