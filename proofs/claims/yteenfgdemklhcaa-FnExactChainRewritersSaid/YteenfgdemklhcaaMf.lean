/- Marks in rows, and what is found of them. -/
import Derived.Test.YteenfgdemklhcaaMe
import Derived.Test.YteenfgdemklhcaaFwb
set_option linter.unusedSimpArgs false
set_option linter.unusedVariables false
namespace Go.Fw
open Go Go.Proofs

/-- Numbers from k on. -/
def marksI (k : Int) (n : Nat) : List Int := (List.range n).map fun (i : Nat) => k + i
theorem marksI_len (k : Int) (n : Nat) : (marksI k n).length = n := by simp [marksI]
theorem marksI_succ (k : Int) (n : Nat) : marksI k (n + 1) = marksI k n ++ [k + n] := by simp [marksI, List.range_succ]
theorem marksI_get (k : Int) {n i : Nat} (h : i < n) : (marksI k n)[i]'(by rw [marksI_len]; exact h) = k + i := by simp [marksI]

theorem take_set_snoc {α : Type} {ys : List α} {i : Nat} (h : i < ys.length) (x : α) : (ys.set i x).take (i + 1) = ys.take i ++ [x] := by
  rw [take_snoc (by simpa using h), List.take_set_of_le (Nat.le_refl _)]; simp

theorem c_markIntS (xs : List Int) (k : Int) (hk : 0 ≤ k) (hk2 : k + xs.length ≤ 8796093022208) : LCalls Try.prog 78 [.sl 1 1 0 xs.length, iA k] [(1, .ar 1 (xs.map iD))] fun r bs => r = iD (k + xs.length) ∧ bs = [.ar 1 ((marksI k xs.length).map iD)] := by
  refine lcalls_intro Ty.mixed Try.func78 rfl rfl rfl [] (by kernel_rfl) (by simp) ?_
  simp
  refine LoopVC.at { p : Nat × List Int // p.1 ≤ xs.length ∧ p.2.length = xs.length ∧ p.2.take p.1 = marksI k p.1 } (fun p => [(0, .sl 1 1 0 xs.length), (1, iA (k + p.1.1)), (5, iA p.1.1)]) (fun p => [(1, .ar 1 (p.1.2.map iD))]) [] (fun p => xs.length - p.1.1) ⟨(0, xs), by simp [marksI]⟩ (by simp) (by simp) ?_
  rintro ⟨⟨i, ys⟩, hi, hl, ht⟩
  simp only at hi hl ht
  rcases Nat.lt_or_ge i xs.length with h | h
  · simp [h, hl]
    refine ⟨i + 1, ys.set i (k + i), .mk ?_ (by simp [List.map_set]), ⟨h, by simpa using hl, ?_⟩, by omega⟩
    · simp
      exact ⟨by rw [wrap64 (by omega) (by omega)]; omega, wrap64 (by omega) (by omega)⟩
    · rw [take_set_snoc (by omega), ht, marksI_succ]
  · have : i = xs.length := by omega
    subst this
    rw [List.take_of_length_le (by omega)] at ht
    subst ht
    simp

theorem c_heldIntS (n : Nat) (k : Int) (hk : 0 ≤ k) (hk2 : k + n ≤ 8796093022208) : DCalls Try.prog 79 [.d (intsD (marksI k n)), iA k] fun r => r = iD (k + n) := by
  refine dcalls_intro Ty.mixed Try.func79 rfl rfl rfl [] (by kernel_rfl) (by simp) ?_
  have hml := marksI_len k n
  simp
  refine LoopVC.at { i : Nat // i ≤ n } (fun i => [(0, .d (intsD (marksI k n))), (1, iA (k + i.1)), (5, iA i.1)]) (fun _ => []) [] (fun i => n - i.1) ⟨0, by simp⟩ (by simp) (by simp) ?_
  rintro ⟨i, hi⟩
  rcases Nat.lt_or_ge i n with h | h
  · have hg := marksI_get k h
    simp [h, hml, hg]
    refine ⟨i + 1, .mk ?_ (by simp), h, by omega⟩
    simp
    exact ⟨by rw [wrap64 (by omega) (by omega)]; omega, wrap64 (by omega) (by omega)⟩
  · have : i = n := by omega
    subst this
    simp [hml]

theorem c_markInt0 (k : Int) : DCalls Try.prog 78 [.d (.list []), iA k] fun r => r = iD k := by
  refine dcalls_intro Ty.mixed Try.func78 rfl rfl rfl [] (by kernel_rfl) (by simp) ?_
  simp
  refine LoopVC.at Unit (fun _ => [(0, .d (.list [])), (1, iA k), (5, iA 0)]) (fun _ => []) [] (fun _ => 0) () (by simp) (by simp) ?_
  intro _
  simp

/-! ### Moves -/

def marksM (k : Int) (n : Nat) : List Mv := (List.range n).map fun (i : Nat) => ⟨k + 3 * i, k + 3 * i + 1, k + 3 * i + 2⟩
theorem marksM_len (k : Int) (n : Nat) : (marksM k n).length = n := by simp [marksM]
theorem marksM_succ (k : Int) (n : Nat) : marksM k (n + 1) = marksM k n ++ [⟨k + 3 * n, k + 3 * n + 1, k + 3 * n + 2⟩] := by simp [marksM, List.range_succ]
theorem marksM_get (k : Int) {n i : Nat} (h : i < n) : (marksM k n)[i]'(by rw [marksM_len]; exact h) = ⟨k + 3 * i, k + 3 * i + 1, k + 3 * i + 2⟩ := by simp [marksM]

/-- The automaton with choices in which all cells are marked. -/
def marksNa (k n : Int) (x y z : Nat) : Na := ⟨n, marksM k x, marksI (k + 3 * x) y, marksI (k + 3 * x + y) z⟩

/-- An automaton with choices in three new rows. -/
def naAg (a : Na) (i1 i2 i3 : Nat) : AV := .ag [iA a.n, .sl 3 i1 0 a.ms.length, .sl 1 i2 0 a.fs.length, .sl 1 i3 0 a.es.length]
def naRes (a : Na) (i1 i2 i3 : Nat) : List (Nat × Blk) := [(i1, .ar 3 (a.ms.map Mv.d)), (i2, .ar 1 (a.fs.map iD)), (i3, .ar 1 (a.es.map iD))]
theorem naAg_flat (a : Na) (i1 i2 i3 : Nat) : (naAg a i1 i2 i3).flatR = true := by simp [naAg, AV.flatR, AV.flat2, AV.flat1, D.flat, D.one]
theorem naRes_flat (a : Na) (i1 i2 i3 : Nat) : (naRes a i1 i2 i3).all (fun p => p.2.flatR) = true := by
  simp [naRes, Blk.flatR, Mv.d, D.flat, D.one]
theorem naAg_back (a : Na) (base i1 i2 i3 : Nat) (h1 : 100 ≤ i1 ∧ i1 < 1000000000000) (h2 : 100 ≤ i2 ∧ i2 < 1000000000000) (h3 : 100 ≤ i3 ∧ i3 < 1000000000000) (n12 : i1 ≠ i2) (n13 : i1 ≠ i3) (n23 : i2 ≠ i3) : (naAg a i1 i2 i3).back (fun _ => 0) base [] (naRes a i1 i2 i3) = naAg a base (base + 1) (base + 2) := by
  simp [naAg, naRes, AV.back, AV.kp, AV.kpL, AV.ren, AV.renL, outE, renOf, posOf, show ¬ i1 < 100 by omega, show ¬ i2 < 100 by omega, show ¬ i3 < 100 by omega, show ¬ 1000000000000 ≤ i1 by omega, show ¬ 1000000000000 ≤ i2 by omega, show ¬ 1000000000000 ≤ i3 by omega, n12.symm, n13.symm, n23.symm]

/-! ### Roads -/

end Go.Fw
