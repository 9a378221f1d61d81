/- Marks in texts, and in rows of rows. -/
import Derived.Test.YtafegamilfnmcaaMf
import Derived.Test.YtafegamilfnmcaaLk
import Derived.Test.YtafegamilfnmcaaGwC
set_option linter.unusedSimpArgs false
set_option linter.unusedVariables false
namespace Go.Fw
open Go Go.Proofs
set_option linter.unusedSectionVars false
set_option linter.unnecessarySimpa false

/-! ### The text of a mark -/
def digsF : Nat → Nat → List UInt8 → List UInt8
  | 0, _, out => out
  | n + 1, k, out => if k = 0 then out else digsF n (k / 10) (UInt8.ofNat (48 + k % 10) :: out)
def mt (k : Nat) : List UInt8 := 109 :: digsF k k []
theorem digs_zero : ∀ (n : Nat) (out : List UInt8), digsF n 0 out = out
  | 0, _ => rfl
  | _ + 1, _ => rfl
theorem digs_pos {n k : Nat} {out : List UInt8} (h : 0 < k) (hn : k ≤ n) : digsF n k out = digsF (n - 1) (k / 10) (UInt8.ofNat (48 + k % 10) :: out) := by
  obtain ⟨m, rfl⟩ : ∃ m, n = m + 1 := ⟨n - 1, by omega⟩
  rw [digsF, if_neg (by omega)]; rfl
theorem dig_wrap (k : Nat) : IntKind.u8.wrap (IntKind.i64.wrap (48 + (k % 10 : Nat))) = ((48 + k % 10 : Nat) : Int) := by
  have h : k % 10 < 10 := Nat.mod_lt _ (by omega)
  generalize k % 10 = d at *
  have : ∀ n : Fin 10, IntKind.u8.wrap (IntKind.i64.wrap (48 + (n.1 : Nat))) = ((48 + n.1 : Nat) : Int) := by decide
  exact this ⟨d, h⟩

set_option maxRecDepth 100000 in
theorem c_markText (k : Nat) (h : 0 < k) (hk : k ≤ 1099511627776) : DCalls Try.prog 39 [iA k] fun y => y = sD (mt k) := by
  refine dcalls_intro Ty.mixed Try.func39 rfl rfl rfl [] (by kernel_rfl) (by simp) ?_
  simp [show ¬ ((k : Int) ≤ 0) by omega, show ¬ k = 0 by omega]
  refine LoopVC.at { p : Nat × Nat × List UInt8 // p.2.1 ≤ p.1 ∧ digsF p.1 p.2.1 p.2.2 = digsF k k [] ∧ p.2.2.length + p.2.1 ≤ k } (fun p => [(0, iA p.1.2.1), (3, sA p.1.2.2)]) (fun _ => []) [] (fun p => p.1.2.1) ⟨(k, k, []), by simp⟩ (by simp) (by simp) ?_
  rintro ⟨⟨n, q, out⟩, h1, h2, h3⟩
  simp only at h1 h2 h3
  rcases Nat.eq_zero_or_pos q with rfl | hq
  · rw [digs_zero] at h2
    have hl : (digsF k k []).length ≤ k := by rw [← h2]; omega
    simp [mt, h2]
    omega
  · rw [digs_pos hq h1] at h2
    have hw := dig_wrap q
    have hm : q % 10 < 10 := Nat.mod_lt _ (by omega)
    have ht : (q : Int).tmod 10 = ((q % 10 : Nat) : Int) := by rw [Int.tmod_eq_emod_of_nonneg (by omega)]; omega
    have hd : IntKind.i64.wrap ((q : Int) / 10) = ((q / 10 : Nat) : Int) := by rw [wrap64 (by omega) (by omega)]; omega
    have hw2 : UInt8.ofNat (IntKind.u8.wrap (IntKind.i64.wrap (48 + (q : Int) % 10))).toNat = UInt8.ofNat (48 + q % 10) := by
      rw [show (48 + (q : Int) % 10) = 48 + ((q % 10 : Nat) : Int) by omega, hw, Int.toNat_natCast]
    clear hw
    simp [hq, ht, hd]
    refine ⟨by omega, n - 1, q / 10, UInt8.ofNat (48 + q % 10) :: out, .mk ?_ (by simp), ⟨by omega, h2, by simp; omega⟩, by omega⟩
    simpa using hw2

def marksS (k n : Nat) : List (List UInt8) := (List.range n).map fun i => mt (k + i)
theorem marksS_len (k n : Nat) : (marksS k n).length = n := by simp [marksS]
theorem marksS_succ (k n : Nat) : marksS k (n + 1) = marksS k n ++ [mt (k + n)] := by simp [marksS, List.range_succ]
theorem marksS_get (k : Nat) {n i : Nat} (h : i < n) : (marksS k n)[i]'(by rw [marksS_len]; exact h) = mt (k + i) := by simp [marksS]

set_option maxRecDepth 100000 in
theorem c_markStringS (xs : List (List UInt8)) (k : Nat) (hk : 0 < k) (hk2 : k + xs.length ≤ 1099511627776) : LCalls Try.prog 20 [.sl 1 1 0 xs.length, iA k] [(1, .ar 1 (xs.map sD))] fun r bs => r = iD (k + xs.length : Nat) ∧ bs = [.ar 1 ((marksS k xs.length).map sD)] := by
  refine lcalls_intro Ty.mixed Try.func20 rfl rfl rfl [] (by kernel_rfl) (by simp) ?_
  simp
  refine LoopVC.at { p : Nat × List (List UInt8) // p.1 ≤ xs.length ∧ p.2.length = xs.length ∧ p.2.take p.1 = marksS k p.1 } (fun p => [(0, .sl 1 1 0 xs.length), (1, iA (k + p.1.1 : Nat)), (5, iA p.1.1)]) (fun p => [(1, .ar 1 (p.1.2.map sD))]) [] (fun p => xs.length - p.1.1) ⟨(0, xs), by simp [marksS]⟩ (by simp) (by simp) ?_
  rintro ⟨⟨i, ys⟩, hi, hl, ht⟩
  simp only at hi hl ht
  rcases Nat.lt_or_ge i xs.length with h | h
  · simp [h, hl]
    refine .dval (c_markText (k + i) (by omega) (by omega)) rfl (by simp) rfl ?_
    simp [h, hl]
    refine ⟨i + 1, ys.set i (mt (k + i)), .mk ?_ (by simp [List.map_set]), ⟨h, by simpa using hl, ?_⟩, by omega⟩
    · simp
      exact ⟨by rw [wrap64 (by omega) (by omega)]; omega, wrap64 (by omega) (by omega)⟩
    · rw [take_set_snoc (by omega), ht, marksS_succ]
  · have : i = xs.length := by omega
    subst this
    rw [List.take_of_length_le (by omega)] at ht
    subst ht
    simp

/-! ### One row in a row -/
def g2 (i1 i2 : Nat) (q : Nat) : Nat := if q = 1 then i1 else if q = 2 then i2 else 0

set_option maxRecDepth 100000 in
theorem c_markIntSS1 (xs : List Int) (k : Nat) (hk2 : k + xs.length ≤ 1099511627776) : MCalls Try.prog 18 [.sl 1 1 0 1, iA k] [(1, .bx [.sl 1 2 0 xs.length]), (2, .ar 1 (xs.map iD))] fun r bs => r = iD (k + xs.length : Nat) ∧ bs = [.bx [.sl 1 2 0 xs.length], .ar 1 ((marksI k xs.length).map iD)] := by
  refine mcalls_intro Ty.mixed Try.func18 rfl rfl rfl [] (by kernel_rfl) (by simp) ?_
  simp
  refine LoopVC.at Bool (fun b => [(0, .sl 1 1 0 1), (1, iA (if b then k + xs.length else k : Nat)), (5, iA (if b then 1 else 0))]) (fun b => [(1, .bx [.sl 1 2 0 xs.length]), (2, .ar 1 ((if b then marksI k xs.length else xs).map iD))]) [] (fun b => if b then 0 else 1) false (by simp) (by simp) ?_
  rintro (_ | _)
  · simp
    refine .lend1 2 (c_markIntS xs k (by omega) (by omega)) (by simp [g1, AV.ren]) rfl rfl ?_
    rintro _ _ ⟨rfl, h⟩ _
    simp at h
    subst h
    simp
    exact .mk (by simp; decide) (by simp)
  · simp
    rfl
set_option maxRecDepth 100000 in
theorem c_markStringSS1 (xs : List (List UInt8)) (k : Nat) (hk : 0 < k) (hk2 : k + xs.length ≤ 1099511627776) : MCalls Try.prog 19 [.sl 1 1 0 1, iA k] [(1, .bx [.sl 1 2 0 xs.length]), (2, .ar 1 (xs.map sD))] fun r bs => r = iD (k + xs.length : Nat) ∧ bs = [.bx [.sl 1 2 0 xs.length], .ar 1 ((marksS k xs.length).map sD)] := by
  refine mcalls_intro Ty.mixed Try.func19 rfl rfl rfl [] (by kernel_rfl) (by simp) ?_
  simp
  refine LoopVC.at Bool (fun b => [(0, .sl 1 1 0 1), (1, iA (if b then k + xs.length else k : Nat)), (5, iA (if b then 1 else 0))]) (fun b => [(1, .bx [.sl 1 2 0 xs.length]), (2, .ar 1 ((if b then marksS k xs.length else xs).map sD))]) [] (fun b => if b then 0 else 1) false (by simp) (by simp) ?_
  rintro (_ | _)
  · simp
    refine .lend1 2 (c_markStringS xs k (by omega) (by omega)) (by simp [g1, AV.ren]) rfl rfl ?_
    rintro _ _ ⟨rfl, h⟩ _
    simp at h
    subst h
    simp
    exact .mk (by simp; decide) (by simp)
  · simp
    rfl
end Go.Fw
