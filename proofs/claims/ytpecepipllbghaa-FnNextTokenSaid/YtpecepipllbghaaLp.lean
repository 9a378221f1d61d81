/- The automaton with choices of roads. -/
import Derived.Test.YtpecepipllbghaaLo
import Derived.Test.YtpecepipllbghaaLd
set_option linter.unusedSimpArgs false
set_option linter.unusedVariables false
namespace Go.Fw
open Go Go.Proofs

def mvOf (r : Rd) : D := .agg [iD r.f, iD r.l, iD r.t]
def roadsNa (n : Int) (rs : List Rd) : D := .agg [iD n, .list (rs.map mvOf), .list [iD 0], .list [iD (n - 1)]]
def zeroNa : D := .agg [iD 0, .list [], .list [], .list []]
def naOf (n : Int) (rs : List Rd) : D := if okRoads n rs then roadsNa n rs else zeroNa

theorem take_mv {rs : List Rd} {i : Nat} (h : i < rs.length) : (rs.map mvOf).take (i + 1) = (rs.map mvOf).take i ++ [D.agg [iD rs[i].f, iD rs[i].l, iD rs[i].t]] := by
  rw [take_snoc (by simpa using h)]; simp [mvOf]

/-! ### Equality -/

theorem c_sameInts (xs ys : List Int) (h1 : xs.length ≤ 9223372036854775807) : DCalls Try.prog 72 [.d (intsD xs), .d (intsD ys)] fun y => y = .bool (decide (xs = ys)) := by
  refine dcalls_intro Ty.mixed Try.func72 rfl rfl rfl [] (by kernel_rfl) (by simp) ?_
  simp
  refine ⟨fun hne e => hne (by rw [e]), fun hlen => ?_⟩
  refine LoopVC.at { i : Nat // i ≤ xs.length ∧ ∀ j (h : j < xs.length), j < i → ∃ h' : j < ys.length, xs[j] = ys[j] } (fun i => [(0, .d (intsD xs)), (1, .d (intsD ys)), (5, iA i.1)]) (fun _ => []) [] (fun i => xs.length - i.1) ⟨0, by simp⟩ (by simp) (by simp) ?_
  rintro ⟨i, hi, hp⟩
  rcases Nat.lt_or_ge i xs.length with h | h
  · have h' : i < ys.length := by omega
    simp [h]
    refine .one (sch [.pur 0, .pur 1, .pur 2, .pur 3, .pur 4, .pur 5, .pur 6, .pur 7, .pur 8]) (by kernel_rfl) ?_
    simp [h, h']
    refine ⟨fun hne e => hne (by subst e; rfl), fun he => ⟨i + 1, .mk (by simp; exact wrap64 (by omega) (by omega)) (by simp), ⟨h, upto_succ hp h ⟨h', he⟩⟩, by omega⟩⟩
  · simp [Nat.not_lt.2 h]
    refine List.ext_getElem (by omega) fun j hj hj' => ?_
    obtain ⟨_, he⟩ := hp j hj (by omega)
    exact he

structure Mv where
  f : Int
  l : Int
  t : Int
deriving DecidableEq
def Mv.d (m : Mv) : D := .agg [iD m.f, iD m.l, iD m.t]
/-- An automaton with choices. -/
structure Na where
  n : Int
  ms : List Mv
  fs : List Int
  es : List Int
deriving DecidableEq
def Na.d (a : Na) : D := .agg [iD a.n, .list (a.ms.map Mv.d), intsD a.fs, intsD a.es]
def naM (n : Int) (rs : List Rd) : Na := if okRoads n rs then ⟨n, rs.map fun r => ⟨r.f, r.l, r.t⟩, [0], [n - 1]⟩ else ⟨0, [], [], []⟩
theorem naM_d (n : Int) (rs : List Rd) : naOf n rs = (naM n rs).d := by
  unfold naOf naM
  split
  · simp [roadsNa, Na.d, mvOf, Mv.d]
  · simp [zeroNa, Na.d]

end Go.Fw
