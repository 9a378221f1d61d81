/- The automaton with choices of roads. -/
import Derived.Test.YtfldfcibjkhpnaaLo
import Derived.Test.YtfldfcibjkhpnaaLd
set_option linter.unusedSimpArgs false
set_option linter.unusedVariables false
namespace Go.Fw
open Go Go.Proofs

def mvOf (r : Rd) : D := .agg [iD r.f, iD r.l, iD r.t]
def roadsNa (n : Int) (rs : List Rd) : D := .agg [iD n, .list (rs.map mvOf), .list [iD 0], .list [iD (n - 1)]]
def zeroNa : D := .agg [iD 0, .list [], .list [], .list []]
def naOf (n : Int) (rs : List Rd) : D := if okRoads n rs then roadsNa n rs else zeroNa

theorem take_mv {rs : List Rd} {i : Nat} (h : i < rs.length) : (rs.map mvOf).take (i + 1) = (rs.map mvOf).take i ++ [D.agg [iD rs[i].f, iD rs[i].l, iD rs[i].t]] := by
  rw [take_snoc (by simpa using h)]; simp [mvOf]

set_option maxRecDepth 100000 in
theorem c_RoadsNfa (n : Int) (rs : List Rd) (hl : rs.length ≤ 9223372036854775807) : DCalls Try.prog 25 [.d (roadsD n rs)] fun y => y = naOf n rs := by
  refine dcalls_intro Ty.mixed Try.func25 rfl rfl rfl [1] (by kernel_rfl) (by simp) ?_
  simp [roadsD]
  refine .dval (c_RoadsValid n rs hl) rfl (by simp [roadsD]) rfl ?_
  simp
  refine ⟨fun hno => by simp [naOf, hno, zeroNa], fun hv => ?_⟩
  obtain ⟨n1, n2, n3, hrs⟩ := okRoads_of hv
  have hw : IntKind.i64.wrap (n - 1) = n - 1 := wrap64 (by omega) (by omega)
  simp [hw, rsD]
  refine LoopVC.wk (Wk.adoptBx 300 1 801 3 (cs := [iA n, .nl, .sl 1 1200 0 1, .sl 1 1600 0 1]) (by simp) rfl (by simp)) ?_
  refine LoopVC.at { i : Nat // i ≤ rs.length } (fun i => [(2, .ptr 200 0), (3, .ptr 300 0), (19, .d (rsD rs)), (20, iA rs.length), (21, iA i.1)])
    (fun i => [(200, .bx [iA 0, .nl, .nl, .nl]), (300, .bx [iA n, .sl 3 801 0 i.1, .sl 1 1200 0 1, .sl 1 1600 0 1]), (801, .ar 3 ((rs.take i.1).map mvOf)), (1200, .ar 1 [iD 0]), (1600, .ar 1 [iD (n - 1)])]) [200, 300, 801, 1200, 1600] (fun i => rs.length - i.1) ⟨0, by simp⟩ (by simp [rsD]) (by simp) ?_
  rintro ⟨i, hi⟩
  rcases Nat.lt_or_ge i rs.length with h | h
  · have hlt : ((rs.take i).map mvOf).length = i := by simp; omega
    simp [h, rsD, Rd.d, hlt]
    refine ⟨⟨by omega, by omega, by omega⟩, i + 1, .mk (by simp; exact wrap64 (by omega) (by omega)) (by simp [take_mv h]), h, by omega⟩
  · have : i = rs.length := by omega
    subst this
    simp [rsD, naOf, hv, roadsNa]
    exact List.take_of_length_le (by simp)

set_option maxRecDepth 100000 in
theorem c_sRoadsNfa (n : Int) (rs : List Rd) (hl : rs.length ≤ 9223372036854775807) : DCalls Try.prog 27 [.d (roadsD n rs)] fun y => y = naOf n rs := by
  refine dcalls_intro Ty.mixed Try.func27 rfl rfl rfl [1] (by kernel_rfl) (by simp) ?_
  simp [roadsD]
  refine .dval (c_sRoadsValid n rs hl) rfl (by simp [roadsD]) rfl ?_
  simp
  refine ⟨fun hno => by simp [naOf, hno, zeroNa], fun hv => ?_⟩
  obtain ⟨n1, n2, n3, hrs⟩ := okRoads_of hv
  have hw : IntKind.i64.wrap (n - 1) = n - 1 := wrap64 (by omega) (by omega)
  simp [hw, rsD]
  refine LoopVC.wk (Wk.adoptBx 300 1 801 3 (cs := [iA n, .nl, .sl 1 1100 0 1, .sl 1 1500 0 1]) (by simp) rfl (by simp)) ?_
  refine LoopVC.at { i : Nat // i ≤ rs.length } (fun i => [(1, .dp [iA n, .d (rsD rs)]), (2, .ptr 200 0), (3, .ptr 300 0), (4, iA i.1)])
    (fun i => [(200, .bx [iA 0, .nl, .nl, .nl]), (300, .bx [iA n, .sl 3 801 0 i.1, .sl 1 1100 0 1, .sl 1 1500 0 1]), (801, .ar 3 ((rs.take i.1).map mvOf)), (1100, .ar 1 [iD 0]), (1500, .ar 1 [iD (n - 1)])]) [200, 300, 801, 1100, 1500] (fun i => rs.length - i.1) ⟨0, by simp⟩ (by simp [rsD]) (by simp) ?_
  rintro ⟨i, hi⟩
  rcases Nat.lt_or_ge i rs.length with h | h
  · have hlt : ((rs.take i).map mvOf).length = i := by simp; omega
    simp [h, rsD, Rd.d, hlt]
    refine .one (sch [.pur 0, .pur 1, .pur 2, .pur 3, .pur 4, .pur 5, .pur 6, .pur 7, .pur 8, .pur 9, .pur 10, .pur 11, .pur 12, .pur 13, .pur 14, .pur 15, .pur 16, .pur 17, .pur 18, .pur 19, .pur 20, .eff 21 [0, 1], .eff 22 [], .pur 23, .eff 24 []]) (by kernel_rfl) ?_
    simp [h, rsD, Rd.d, hlt]
    refine ⟨⟨by omega, by omega, by omega⟩, i + 1, .mk (by simp; exact wrap64 (by omega) (by omega)) (by simp [take_mv h]), h, by omega⟩
  · have : i = rs.length := by omega
    subst this
    simp [rsD, naOf, hv, roadsNa]
    exact List.take_of_length_le (by simp)

/-! ### Equality -/

theorem c_sameInts (xs ys : List Int) (h1 : xs.length ≤ 9223372036854775807) : DCalls Try.prog 55 [.d (intsD xs), .d (intsD ys)] fun y => y = .bool (decide (xs = ys)) := by
  refine dcalls_intro Ty.mixed Try.func55 rfl rfl rfl [] (by kernel_rfl) (by simp) ?_
  simp
  refine ⟨fun hne e => hne (by rw [e]), fun hlen => ?_⟩
  refine LoopVC.at { i : Nat // i ≤ xs.length ∧ ∀ j (h : j < xs.length), j < i → ∃ h' : j < ys.length, xs[j] = ys[j] } (fun i => [(0, .d (intsD xs)), (1, .d (intsD ys)), (5, iA i.1)]) (fun _ => []) [] (fun i => xs.length - i.1) ⟨0, by simp⟩ (by simp) (by simp) ?_
  rintro ⟨i, hi, hp⟩
  rcases Nat.lt_or_ge i xs.length with h | h
  · have h' : i < ys.length := by omega
    simp [h]
    refine .one (sch [.pur 0, .pur 1, .pur 2, .pur 3, .pur 4, .pur 5, .pur 6, .pur 7, .pur 8]) (by kernel_rfl) ?_
    simp [h, h']
    refine ⟨fun hne e => hne (by subst e; rfl), fun he => ⟨i + 1, .mk (by simp; exact wrap64 (by omega) (by omega)) (by simp), ⟨h, upto_succ hp h ⟨h', he⟩⟩, by omega⟩⟩
  · simp [Nat.not_lt.2 h]
    refine List.ext_getElem (by omega) fun j hj hj' => ?_
    obtain ⟨_, he⟩ := hp j hj (by omega)
    exact he

structure Mv where
  f : Int
  l : Int
  t : Int
deriving DecidableEq
def Mv.d (m : Mv) : D := .agg [iD m.f, iD m.l, iD m.t]
/-- An automaton with choices. -/
structure Na where
  n : Int
  ms : List Mv
  fs : List Int
  es : List Int
deriving DecidableEq
def Na.d (a : Na) : D := .agg [iD a.n, .list (a.ms.map Mv.d), intsD a.fs, intsD a.es]
def naM (n : Int) (rs : List Rd) : Na := if okRoads n rs then ⟨n, rs.map fun r => ⟨r.f, r.l, r.t⟩, [0], [n - 1]⟩ else ⟨0, [], [], []⟩
theorem naM_d (n : Int) (rs : List Rd) : naOf n rs = (naM n rs).d := by
  unfold naOf naM
  split
  · simp [roadsNa, Na.d, mvOf, Mv.d]
  · simp [zeroNa, Na.d]

/-- An automaton is the same as itself. -/
theorem c_sameNfa (a : Na) (h1 : a.ms.length ≤ 9223372036854775807) (h2 : a.fs.length ≤ 9223372036854775807) (h3 : a.es.length ≤ 9223372036854775807) : DCalls Try.prog 26 [.d a.d, .d a.d] fun y => y = .bool true := by
  refine dcalls_intro Ty.mixed Try.func26 rfl rfl rfl [2, 3] (by kernel_rfl) (by simp) ?_
  simp [Na.d]
  refine LoopVC.at { i : Nat // i ≤ a.ms.length } (fun i => [(2, .dp [iA a.n, .d (.list (a.ms.map Mv.d)), .d (intsD a.fs), .d (intsD a.es)]), (3, .dp [iA a.n, .d (.list (a.ms.map Mv.d)), .d (intsD a.fs), .d (intsD a.es)]), (5, iA i.1)]) (fun _ => []) [] (fun i => a.ms.length - i.1) ⟨0, by simp⟩ (by simp) (by simp) ?_
  rintro ⟨i, hi⟩
  rcases Nat.lt_or_ge i a.ms.length with h | h
  · simp [h]
    refine .one (sch [.pur 0, .pur 1, .pur 2, .pur 3, .pur 4, .pur 5, .pur 6, .pur 7, .pur 8, .pur 9, .pur 10]) (by kernel_rfl) ?_
    simp [h, Mv.d]
    refine ⟨i + 1, .mk (by simp; exact wrap64 (by omega) (by omega)) (by simp), h, by omega⟩
  · simp [Nat.not_lt.2 h]
    refine .dval (c_sameInts a.fs a.fs h2) rfl (by simp) rfl ?_
    simp
    refine .flat (fun _ => c_sameInts a.es a.es h3) rfl (by simp) rfl (by simp) ?_
    simp

end Go.Fw
