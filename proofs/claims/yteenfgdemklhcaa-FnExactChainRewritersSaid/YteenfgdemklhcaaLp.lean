/- The automaton with choices of roads. -/
import Derived.Test.YteenfgdemklhcaaLo
import Derived.Test.YteenfgdemklhcaaLd
set_option linter.unusedSimpArgs false
set_option linter.unusedVariables false
namespace Go.Fw
open Go Go.Proofs

def mvOf (r : Rd) : D := .agg [iD r.f, iD r.l, iD r.t]
def roadsNa (n : Int) (rs : List Rd) : D := .agg [iD n, .list (rs.map mvOf), .list [iD 0], .list [iD (n - 1)]]
def zeroNa : D := .agg [iD 0, .list [], .list [], .list []]
def naOf (n : Int) (rs : List Rd) : D := if okRoads n rs then roadsNa n rs else zeroNa

theorem take_mv {rs : List Rd} {i : Nat} (h : i < rs.length) : (rs.map mvOf).take (i + 1) = (rs.map mvOf).take i ++ [D.agg [iD rs[i].f, iD rs[i].l, iD rs[i].t]] := by
  rw [take_snoc (by simpa using h)]; simp [mvOf]

/-! ### Equality -/

structure Mv where
  f : Int
  l : Int
  t : Int
deriving DecidableEq
def Mv.d (m : Mv) : D := .agg [iD m.f, iD m.l, iD m.t]
/-- An automaton with choices. -/
structure Na where
  n : Int
  ms : List Mv
  fs : List Int
  es : List Int
deriving DecidableEq
def Na.d (a : Na) : D := .agg [iD a.n, .list (a.ms.map Mv.d), intsD a.fs, intsD a.es]
def naM (n : Int) (rs : List Rd) : Na := if okRoads n rs then ⟨n, rs.map fun r => ⟨r.f, r.l, r.t⟩, [0], [n - 1]⟩ else ⟨0, [], [], []⟩
theorem naM_d (n : Int) (rs : List Rd) : naOf n rs = (naM n rs).d := by
  unfold naOf naM
  split
  · simp [roadsNa, Na.d, mvOf, Mv.d]
  · simp [zeroNa, Na.d]

end Go.Fw
