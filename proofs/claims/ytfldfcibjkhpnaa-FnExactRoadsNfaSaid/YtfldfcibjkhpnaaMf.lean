/- Marks in rows, and what is found of them. -/
import Derived.Test.YtfldfcibjkhpnaaMe
import Derived.Test.YtfldfcibjkhpnaaFwY
set_option linter.unusedSimpArgs false
set_option linter.unusedVariables false
namespace Go.Fw
open Go Go.Proofs

/-- Numbers from k on. -/
def marksI (k : Int) (n : Nat) : List Int := (List.range n).map fun (i : Nat) => k + i
theorem marksI_len (k : Int) (n : Nat) : (marksI k n).length = n := by simp [marksI]
theorem marksI_succ (k : Int) (n : Nat) : marksI k (n + 1) = marksI k n ++ [k + n] := by simp [marksI, List.range_succ]
theorem marksI_get (k : Int) {n i : Nat} (h : i < n) : (marksI k n)[i]'(by rw [marksI_len]; exact h) = k + i := by simp [marksI]

theorem take_set_snoc {α : Type} {ys : List α} {i : Nat} (h : i < ys.length) (x : α) : (ys.set i x).take (i + 1) = ys.take i ++ [x] := by
  rw [take_snoc (by simpa using h), List.take_set_of_le (Nat.le_refl _)]; simp

theorem c_markIntS (xs : List Int) (k : Int) (hk : 0 ≤ k) (hk2 : k + xs.length ≤ 1099511627776) : LCalls Try.prog 70 [.sl 1 1 0 xs.length, iA k] [(1, .ar 1 (xs.map iD))] fun r bs => r = iD (k + xs.length) ∧ bs = [.ar 1 ((marksI k xs.length).map iD)] := by
  refine lcalls_intro Ty.mixed Try.func70 rfl rfl rfl [] (by kernel_rfl) (by simp) ?_
  simp
  refine LoopVC.at { p : Nat × List Int // p.1 ≤ xs.length ∧ p.2.length = xs.length ∧ p.2.take p.1 = marksI k p.1 } (fun p => [(0, .sl 1 1 0 xs.length), (1, iA (k + p.1.1)), (5, iA p.1.1)]) (fun p => [(1, .ar 1 (p.1.2.map iD))]) [] (fun p => xs.length - p.1.1) ⟨(0, xs), by simp [marksI]⟩ (by simp) (by simp) ?_
  rintro ⟨⟨i, ys⟩, hi, hl, ht⟩
  simp only at hi hl ht
  rcases Nat.lt_or_ge i xs.length with h | h
  · simp [h, hl]
    refine ⟨i + 1, ys.set i (k + i), .mk ?_ (by simp [List.map_set]), ⟨h, by simpa using hl, ?_⟩, by omega⟩
    · simp
      exact ⟨by rw [wrap64 (by omega) (by omega)]; omega, wrap64 (by omega) (by omega)⟩
    · rw [take_set_snoc (by omega), ht, marksI_succ]
  · have : i = xs.length := by omega
    subst this
    rw [List.take_of_length_le (by omega)] at ht
    subst ht
    simp

theorem c_heldIntS (n : Nat) (k : Int) (hk : 0 ≤ k) (hk2 : k + n ≤ 1099511627776) : DCalls Try.prog 72 [.d (intsD (marksI k n)), iA k] fun r => r = iD (k + n) := by
  refine dcalls_intro Ty.mixed Try.func72 rfl rfl rfl [] (by kernel_rfl) (by simp) ?_
  have hml := marksI_len k n
  simp
  refine LoopVC.at { i : Nat // i ≤ n } (fun i => [(0, .d (intsD (marksI k n))), (1, iA (k + i.1)), (5, iA i.1)]) (fun _ => []) [] (fun i => n - i.1) ⟨0, by simp⟩ (by simp) (by simp) ?_
  rintro ⟨i, hi⟩
  rcases Nat.lt_or_ge i n with h | h
  · have hg := marksI_get k h
    simp [h, hml, hg]
    refine ⟨i + 1, .mk ?_ (by simp), h, by omega⟩
    simp
    exact ⟨by rw [wrap64 (by omega) (by omega)]; omega, wrap64 (by omega) (by omega)⟩
  · have : i = n := by omega
    subst this
    simp [hml]

/-! ### Moves -/

def marksM (k : Int) (n : Nat) : List Mv := (List.range n).map fun (i : Nat) => ⟨k + 3 * i, k + 3 * i + 1, k + 3 * i + 2⟩
theorem marksM_len (k : Int) (n : Nat) : (marksM k n).length = n := by simp [marksM]
theorem marksM_succ (k : Int) (n : Nat) : marksM k (n + 1) = marksM k n ++ [⟨k + 3 * n, k + 3 * n + 1, k + 3 * n + 2⟩] := by simp [marksM, List.range_succ]
theorem marksM_get (k : Int) {n i : Nat} (h : i < n) : (marksM k n)[i]'(by rw [marksM_len]; exact h) = ⟨k + 3 * i, k + 3 * i + 1, k + 3 * i + 2⟩ := by simp [marksM]

set_option maxRecDepth 100000 in
theorem c_markMoveS (xs : List Mv) (k : Int) (hk : 0 ≤ k) (hk2 : k + 3 * xs.length ≤ 1099511627776) : LCalls Try.prog 69 [.sl 3 1 0 xs.length, iA k] [(1, .ar 3 (xs.map Mv.d))] fun r bs => r = iD (k + 3 * xs.length) ∧ bs = [.ar 3 ((marksM k xs.length).map Mv.d)] := by
  refine lcalls_intro Ty.mixed Try.func69 rfl rfl rfl [] (by kernel_rfl) (by simp) ?_
  simp
  refine LoopVC.at { p : Nat × List Mv // p.1 ≤ xs.length ∧ p.2.length = xs.length ∧ p.2.take p.1 = marksM k p.1 } (fun p => [(0, .sl 3 1 0 xs.length), (1, iA (k + 3 * p.1.1)), (5, iA p.1.1)]) (fun p => [(1, .ar 3 (p.1.2.map Mv.d))]) [] (fun p => xs.length - p.1.1) ⟨(0, xs), by simp [marksM]⟩ (by simp) (by simp) ?_
  rintro ⟨⟨i, ys⟩, hi, hl, ht⟩
  simp only at hi hl ht
  rcases Nat.lt_or_ge i xs.length with h | h
  · have e1 : IntKind.i64.wrap (k + 3 * i + 1) = k + 3 * i + 1 := wrap64 (by omega) (by omega)
    have e2 : IntKind.i64.wrap (k + 3 * i + 1 + 1) = k + 3 * i + 2 := by rw [wrap64 (by omega) (by omega)]; omega
    have e3 : IntKind.i64.wrap (k + 3 * i + 2 + 1) = k + 3 * i + 3 := by rw [wrap64 (by omega) (by omega)]; omega
    simp [h, hl, Mv.d, e1, e2, e3]
    refine ⟨i + 1, ys.set i ⟨k + 3 * i, k + 3 * i + 1, k + 3 * i + 2⟩, .mk ?_ (by simp [List.map_set, Mv.d]), ⟨h, by simpa using hl, ?_⟩, by omega⟩
    · simp
      exact ⟨by omega, wrap64 (by omega) (by omega)⟩
    · rw [take_set_snoc (by omega), ht, marksM_succ]
  · have : i = xs.length := by omega
    subst this
    rw [List.take_of_length_le (by omega)] at ht
    subst ht
    simp

set_option maxRecDepth 100000 in
theorem c_heldMoveS (n : Nat) (k : Int) (hk : 0 ≤ k) (hk2 : k + 3 * n ≤ 1099511627776) : DCalls Try.prog 71 [.d (.list ((marksM k n).map Mv.d)), iA k] fun r => r = iD (k + 3 * n) := by
  refine dcalls_intro Ty.mixed Try.func71 rfl rfl rfl [] (by kernel_rfl) (by simp) ?_
  have hml := marksM_len k n
  simp
  refine LoopVC.at { i : Nat // i ≤ n } (fun i => [(0, .d (.list ((marksM k n).map Mv.d))), (1, iA (k + 3 * i.1)), (5, iA i.1)]) (fun _ => []) [] (fun i => n - i.1) ⟨0, by simp⟩ (by simp) (by simp) ?_
  rintro ⟨i, hi⟩
  rcases Nat.lt_or_ge i n with h | h
  · have hg := marksM_get k h
    have e1 : IntKind.i64.wrap (k + 3 * i + 1) = k + 3 * i + 1 := wrap64 (by omega) (by omega)
    have e2 : IntKind.i64.wrap (k + 3 * i + 1 + 1) = k + 3 * i + 2 := by rw [wrap64 (by omega) (by omega)]; omega
    have e3 : IntKind.i64.wrap (k + 3 * i + 2 + 1) = k + 3 * i + 3 := by rw [wrap64 (by omega) (by omega)]; omega
    simp [h, hml, hg, Mv.d, e1, e2, e3]
    refine ⟨i + 1, .mk ?_ (by simp), h, by omega⟩
    simp
    exact ⟨by omega, wrap64 (by omega) (by omega)⟩
  · have : i = n := by omega
    subst this
    simp [hml]

/-- The automaton with choices in which all cells are marked. -/
def marksNa (k n : Int) (x y z : Nat) : Na := ⟨n, marksM k x, marksI (k + 3 * x) y, marksI (k + 3 * x + y) z⟩

set_option maxRecDepth 100000 in
theorem c_markNfa (a : Na) (k : Int) (hk : 0 ≤ k) (hk2 : k + 3 * a.ms.length + a.fs.length + a.es.length ≤ 1099511627776) : LCalls Try.prog 37 [.ag [iA a.n, .sl 3 1 0 a.ms.length, .sl 1 2 0 a.fs.length, .sl 1 3 0 a.es.length], iA k]
    [(1, .ar 3 (a.ms.map Mv.d)), (2, .ar 1 (a.fs.map iD)), (3, .ar 1 (a.es.map iD))] fun r bs => r = iD (k + 3 * a.ms.length + a.fs.length + a.es.length) ∧ bs = [.ar 3 ((marksNa k a.n a.ms.length a.fs.length a.es.length).ms.map Mv.d), .ar 1 ((marksNa k a.n a.ms.length a.fs.length a.es.length).fs.map iD), .ar 1 ((marksNa k a.n a.ms.length a.fs.length a.es.length).es.map iD)] := by
  refine lcalls_intro Ty.mixed Try.func37 rfl rfl rfl [] (by kernel_rfl) (by simp) ?_
  have e1 : IntKind.i64.wrap (k + 3 * a.ms.length + a.fs.length) = k + 3 * a.ms.length + a.fs.length := wrap64 (by omega) (by omega)
  simp
  refine .lend1 1 (c_markMoveS a.ms k hk (by omega)) (by simp [AV.ren, g1]) rfl (by simp) ?_
  rintro _ _ ⟨rfl, h1⟩ _
  simp only [List.cons.injEq, and_true] at h1
  subst h1
  simp
  refine .lend1 2 (c_markIntS a.fs (k + 3 * a.ms.length) (by omega) (by omega)) (by simp [AV.ren, g1]) rfl (by simp) ?_
  rintro _ _ ⟨rfl, h2⟩ _
  simp only [List.cons.injEq, and_true] at h2
  subst h2
  simp
  refine .lend1 3 (c_markIntS a.es (k + 3 * a.ms.length + a.fs.length) (by omega) (by omega)) (by simp [AV.ren, g1]) rfl (by simp) ?_
  rintro _ _ ⟨rfl, h3⟩ _
  simp only [List.cons.injEq, and_true] at h3
  subst h3
  simp [marksNa]

theorem c_heldNfa (n k : Int) (x y z : Nat) (hk : 0 ≤ k) (hk2 : k + 3 * x + y + z ≤ 1099511627776) : DCalls Try.prog 38 [.d (marksNa k n x y z).d, iA k] fun r => r = iD (k + 3 * x + y + z) := by
  refine dcalls_intro Ty.mixed Try.func38 rfl rfl rfl [2] (by kernel_rfl) (by simp) ?_
  simp [Na.d, marksNa]
  refine .dval (c_heldMoveS x k hk (by omega)) rfl (by simp) rfl ?_
  simp [show ¬ (k + 3 * (x : Int) < 0) by omega]
  refine .dval (c_heldIntS y (k + 3 * x) (by omega) (by omega)) rfl (by simp) rfl ?_
  simp [show ¬ (k + 3 * (x : Int) + y < 0) by omega]
  refine .dval (c_heldIntS z (k + 3 * x + y) (by omega) (by omega)) rfl (by simp) rfl ?_
  simp [show ¬ (k + 3 * (x : Int) + y + z < 0) by omega]

/-! ### Roads -/

set_option maxRecDepth 100000 in
theorem c_markRoadS (xs : List Rd) (k : Int) (hk : 0 ≤ k) (hk2 : k + 4 * xs.length ≤ 1099511627776) : LCalls Try.prog 68 [.sl 4 1 0 xs.length, iA k] [(1, .ar 4 (xs.map Rd.d))] fun r bs => r = iD (k + 4 * xs.length) ∧ ∃ ys : List Rd, bs = [.ar 4 (ys.map Rd.d)] := by
  refine lcalls_intro Ty.mixed Try.func68 rfl rfl rfl [] (by kernel_rfl) (by simp) ?_
  simp
  refine LoopVC.at { p : Nat × List Rd // p.1 ≤ xs.length ∧ p.2.length = xs.length } (fun p => [(0, .sl 4 1 0 xs.length), (1, iA (k + 4 * p.1.1)), (5, iA p.1.1)]) (fun p => [(1, .ar 4 (p.1.2.map Rd.d))]) [] (fun p => xs.length - p.1.1) ⟨(0, xs), by simp⟩ (by simp) (by simp) ?_
  rintro ⟨⟨i, ys⟩, hi, hl⟩
  simp only at hi hl
  rcases Nat.lt_or_ge i xs.length with h | h
  · have e1 : IntKind.i64.wrap (k + 4 * i + 1) = k + 4 * i + 1 := wrap64 (by omega) (by omega)
    have e2 : IntKind.i64.wrap (k + 4 * i + 1 + 1) = k + 4 * i + 2 := by rw [wrap64 (by omega) (by omega)]; omega
    have e3 : IntKind.i64.wrap (k + 4 * i + 2 + 1) = k + 4 * i + 3 := by rw [wrap64 (by omega) (by omega)]; omega
    have e4 : IntKind.i64.wrap (k + 4 * i + 3 + 1) = k + 4 * i + 4 := by rw [wrap64 (by omega) (by omega)]; omega
    simp [h, hl, Rd.d, e1, e2, e3, e4]
    refine ⟨i + 1, ys.set i ⟨k + 4 * i, k + 4 * i + 1, k + 4 * i + 2, k + 4 * i + 3⟩, .mk ?_ (by simp [List.map_set, Rd.d]), ⟨h, by simpa using hl⟩, by omega⟩
    simp
    exact ⟨by omega, wrap64 (by omega) (by omega)⟩
  · have : i = xs.length := by omega
    subst this
    simp
    exact ⟨_, ⟨ys, rfl⟩, rfl, by simp⟩
theorem c_markRoads (n : Int) (xs : List Rd) (k : Int) (hk : 0 ≤ k) (hk2 : k + 4 * xs.length ≤ 1099511627776) : LCalls Try.prog 36 [.ag [iA n, .sl 4 1 0 xs.length], iA k] [(1, .ar 4 (xs.map Rd.d))] fun r bs => r = iD (k + 4 * xs.length) ∧ ∃ ys : List Rd, bs = [.ar 4 (ys.map Rd.d)] := by
  refine lcalls_intro Ty.mixed Try.func36 rfl rfl rfl [] (by kernel_rfl) (by simp) ?_
  simp
  refine .lend1 1 (c_markRoadS xs k hk hk2) (by simp [AV.ren, g1]) rfl (by simp) ?_
  rintro _ _ ⟨rfl, ys, h1⟩ _
  simp only [List.cons.injEq, and_true] at h1
  subst h1
  simp
  exact ⟨_, ⟨ys, rfl⟩, rfl, by simp⟩
end Go.Fw
