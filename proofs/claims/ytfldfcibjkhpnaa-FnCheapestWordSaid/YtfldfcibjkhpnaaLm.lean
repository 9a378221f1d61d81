/- The product of two words of 64 bits: the library's contract. -/
import Derived.Test.YtfldfcibjkhpnaaTy
import Derived.Test.YtfldfcibjkhpnaaFwX
import Derived.Shelf.Bits.Mul64
set_option linter.unusedSimpArgs false
set_option linter.unusedVariables false
namespace Go.Fw
open Go Go.Proofs Go.Shelf

def rhoM : Ren := ⟨fun k => if k = 264 then 94 else k, fun t => if t = 46 then 112 else if t = 53 then 81 else t, fun g => g⟩
theorem zero_of {P : Program} {t : TypeId} {v : Value} (h : (P.info? t).bind (·.zero) = some v) (w : World) : (zeroValue t).run P w = .ok v w := by
  cases hi : P.info? t with
  | none => rw [hi] at h; cases h
  | some i =>
    rw [hi] at h
    have hz : i.zero = some v := h
    simp [zeroValue, typeInfo, hi, hz]
theorem tI_uint : tI Try.prog 112 = some (false, 1, [Value.int IntKind.u64 0]) := by kernel_rfl
theorem tI_uint64 : tI Try.prog 81 = some (false, 1, [Value.int IntKind.u64 0]) := by kernel_rfl
theorem laysM : Lays.n264 Try.prog rhoM where
  mixed := Ty.mixed
  f264 := by kernel_rfl
  t46 := by kernel_rfl
  a46 := fun w => (tI_runs tI_uint).1
  z46 := fun w => (tI_runs tI_uint).2.1
  v46 := zero_of (by kernel_rfl)
  t53 := by kernel_rfl
  a53 := fun w => (tI_runs tI_uint64).1
  z53 := fun w => (tI_runs tI_uint64).2.1
  v53 := zero_of (by kernel_rfl)

theorem c_Mul64 (x n : Nat) (hx : x < 18446744073709551616) (hn : n < 18446744073709551616) : TCalls Try.prog 94 [.d (.int .u64 x), .d (.int .u64 n)] fun r => r = [.int .u64 ((x * n / 18446744073709551616 : Nat) : Int), .int .u64 ((x * n % 18446744073709551616 : Nat) : Int)] := by
  intro c vals hr
  have hl : vals.length = 2 := hr.len
  obtain ⟨v0, v1, rfl⟩ : ∃ v0 v1, vals = [v0, v1] := by
    match vals, hl with
    | [a, b], _ => exact ⟨a, b, rfl⟩
  have e0 : v0 = .int .u64 x := RepA.inv_int (hr.vals 0 v0 _ rfl rfl)
  have e1 : v1 = .int .u64 n := RepA.inv_int (hr.vals 1 v1 _ rfl rfl)
  subst e0; subst e1
  refine (Any.bits_Mul64 laysM x n hx hn c.w0).mono fun e w' ⟨he, hw⟩ => ?_
  subst hw
  refine ⟨_, .tp ([D.int .u64 ((x * n / 18446744073709551616 : Nat) : Int), D.int .u64 ((x * n % 18446744073709551616 : Nat) : Int)].map .d), [], [], c.floc, he, ⟨⟨_, rfl, rfl⟩, rfl⟩, rfl, by simp, ?_⟩
  refine hr.setVal1 (.tp rfl fun i v y hv hy => ?_)
  match i with
  | 0 => simp at hv hy; subst hv; subst hy; exact .int _ _
  | 1 => simp at hv hy; subst hv; subst hy; exact .int _ _
  | i + 2 => simp at hv
end Go.Fw
