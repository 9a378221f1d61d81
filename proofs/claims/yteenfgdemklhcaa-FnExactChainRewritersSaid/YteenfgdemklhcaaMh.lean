/- Sets of states in rows of their own; the laws that say what is exact of them. -/
import Derived.Test.YteenfgdemklhcaaMf
set_option linter.unusedSimpArgs false
set_option linter.unusedVariables false
namespace Go.Fw
open Go Go.Proofs

/-! ### Copies in rows of their own -/

theorem c_toIntSF (xs : List Int) (hlen : xs.length ≤ 1048576) : SCalls Try.prog 65 [.d (intsD xs)] fun sz ys => sz = 1 ∧ ys = xs.map iD := by
  refine scalls_intro Ty.mixed Try.func65 rfl rfl rfl [] (by kernel_rfl) (by simp) ?_
  simp
  refine ⟨by omega, ?_⟩
  refine LoopVC.at { i : Nat // i ≤ xs.length } (fun i => [(0, .d (intsD xs)), (3, .sl 1 700 0 xs.length), (4, iA i.1)]) (fun i => [(700, .ar 1 (mixL (xs.map iD) (iD 0) i.1))]) [700] (fun i => xs.length - i.1) ⟨0, by simp⟩ (by simp) (by simp [mixL_zero]) ?_
  rintro ⟨i, hi⟩
  rcases Nat.lt_or_ge i xs.length with h | h
  · have hl : (mixL (xs.map iD) (iD 0) i).length = xs.length := by rw [mixL_len (by simpa using hi)]; simp
    simp [h, hl]
    refine ⟨i + 1, .mk (by simp; exact wrap64 (by omega) (by omega)) (by simp; rw [← mixL_set (by simpa using h)]; simp), h, by omega⟩
  · simp [Nat.not_lt.2 h]
    rw [mixL_all (by simpa using h)]
    simp
/-! ### What the program computes, in a row of its own -/

/-- A row of its own, or nil. -/
def rowAV (ok : Bool) (n : Nat) : AV := if ok then .sl 1 901 0 n else .nl
def rowRes (ok : Bool) (xs : List Int) : List (Nat × Blk) := if ok then [(901, .ar 1 (xs.map iD))] else []

def closeOk (a : Na) (f : List Int) : Bool := okNa a && stOk a.n f
def closeNa (a : Na) (f : List Int) : List Int := listE (closeE a.ms (flagsE a.n.toNat f))
def stepOk (a : Na) (f : List Int) (c : Int) : Bool := okNa a && stOk a.n f && inR c 0 2
def stepNa (a : Na) (f : List Int) (c : Int) : List Int := listE (nextE a.n.toNat a.ms (flagsE a.n.toNat f) c)
def runOk (a : Na) (s : List UInt8) : Bool := okNa a && wordOk s
/-! ### The specification's -/

end Go.Fw
