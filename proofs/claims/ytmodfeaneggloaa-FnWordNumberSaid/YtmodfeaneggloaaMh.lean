/- Sets of states in rows of their own; the laws that say what is exact of them. -/
import Derived.Test.YtmodfeaneggloaaMf
set_option linter.unusedSimpArgs false
set_option linter.unusedVariables false
namespace Go.Fw
open Go Go.Proofs

/-! ### Copies in rows of their own -/

/-! ### What the program computes, in a row of its own -/

/-- A row of its own, or nil. -/
def rowAV (ok : Bool) (n : Nat) : AV := if ok then .sl 1 901 0 n else .nl
def rowRes (ok : Bool) (xs : List Int) : List (Nat × Blk) := if ok then [(901, .ar 1 (xs.map iD))] else []

def closeOk (a : Na) (f : List Int) : Bool := okNa a && stOk a.n f
def closeNa (a : Na) (f : List Int) : List Int := listE (closeE a.ms (flagsE a.n.toNat f))
def stepOk (a : Na) (f : List Int) (c : Int) : Bool := okNa a && stOk a.n f && inR c 0 2
def stepNa (a : Na) (f : List Int) (c : Int) : List Int := listE (nextE a.n.toNat a.ms (flagsE a.n.toNat f) c)
def runOk (a : Na) (s : List UInt8) : Bool := okNa a && wordOk s
/-! ### The specification's -/

end Go.Fw
