/- Words and their numbers. -/
import Derived.Test.YtmodfeaneggloaaRcn
set_option linter.unusedSimpArgs false
set_option linter.unusedVariables false
namespace Go.Fw
open Go Go.Proofs
set_option linter.unusedSectionVars false
set_option linter.unnecessarySimpa false

/-- The letters of a number. -/
theorem lowD_num : ∀ (k : Nat) (v : Int), 0 ≤ v → (lowD k v).length = k ∧ (lowD k v).all isL = true ∧ wv (lowD k v) = v % 3 ^ k
  | 0, v, _ => ⟨rfl, rfl, by simp [lowD, wv]⟩
  | k + 1, v, h => by
    obtain ⟨h1, h2, h3⟩ := lowD_num k v h
    have hp : (0 : Int) < 3 ^ k := Int.pow_pos (by decide)
    have hd : 0 ≤ v / 3 ^ k % 3 ∧ v / 3 ^ k % 3 < 3 := ⟨Int.emod_nonneg _ (by decide), Int.emod_lt_of_pos _ (by decide)⟩
    obtain ⟨b, hb1, hb2, hb3⟩ := ltxt_ex (l := (v / 3 ^ k % 3).toNat) (by omega)
    rw [Int.toNat_of_nonneg hd.1] at hb1 hb3
    have e : lowD (k + 1) v = b :: lowD k v := by simp only [lowD]; rw [hb1]; rfl
    have hwc : ∀ (b : UInt8) (s : List UInt8) (n : Int), (b :: s).foldl (fun n b => 3 * n + ltr b) n = (3 * n + ltr b) * 3 ^ s.length + wv s := by
      intro b s n
      have : ∀ (s : List UInt8) (m : Int), s.foldl (fun n b => 3 * n + ltr b) m = m * 3 ^ s.length + wv s := by
        intro s
        induction s with
        | nil => intro m; simp [wv]
        | cons c s ih =>
          intro m
          have i1 := ih (3 * m + ltr c)
          have i2 := ih (3 * 0 + ltr c)
          unfold wv
          simp only [List.foldl_cons, List.length_cons]
          rw [i1, i2, Int.pow_succ]
          generalize (3 : Int) ^ s.length = P
          have : (3 * m + ltr c) * P = m * (P * 3) + (3 * 0 + ltr c) * P := by
            rw [Int.add_mul, Int.add_mul]; simp; rw [Int.mul_comm 3 m, Int.mul_assoc, Int.mul_comm 3 P]
          omega
      exact this s _
    have hw : wv (b :: lowD k v) = v / 3 ^ k % 3 * 3 ^ k + v % 3 ^ k := by
      have := hwc b (lowD k v) 0
      unfold wv at this ⊢
      rw [this, h1, hb3]
      simp only [Int.mul_zero, Int.zero_add]
      have h3' := h3
      unfold wv at h3'
      rw [h3']
    refine ⟨by rw [e]; simp [h1], by rw [e]; simp only [List.all_cons, hb2, h2]; rfl, ?_⟩
    rw [e, hw, Int.pow_succ]
    have m1 := Int.emod_add_mul_ediv v (3 ^ k)
    have m2 := Int.emod_add_mul_ediv (v / 3 ^ k) 3
    have m3 : v % (3 ^ k * 3) = v % 3 ^ k + 3 ^ k * (v / 3 ^ k % 3) := by
      rw [Int.emod_def v (3 ^ k * 3), Int.emod_def v (3 ^ k), Int.emod_def (v / 3 ^ k) 3, ← Int.ediv_ediv_of_nonneg (by omega), Int.mul_sub, Int.mul_assoc]
      omega
    rw [m3, Int.mul_comm (3 ^ k)]; omega
theorem valL_wv : ∀ s : List UInt8, s.all isL = true → (valL (s.map ltr) : Int) = wv s := by
  intro s
  induction s using snocInd with
  | nil => intro _; rfl
  | snoc s b ih =>
    intro h
    rw [List.all_append, Bool.and_eq_true] at h
    have hb := ltr_of (b := b) (by simpa using h.2)
    have hv : ∀ (w : List Int) (c : Int), valL (w ++ [c]) = 3 * valL w + c.toNat := by
      intro w
      induction w with
      | nil => intro c; simp [valL]
      | cons d w ih2 =>
        intro c
        simp only [List.cons_append, valL, ih2, List.length_append, List.length_singleton, Nat.pow_succ]
        have : d.toNat * (3 ^ w.length * 3) = 3 * (d.toNat * 3 ^ w.length) := by rw [← Nat.mul_assoc, Nat.mul_comm]
        omega
    rw [List.map_append, List.map_cons, List.map_nil, hv, wv_snoc, ← ih h.1]
    push_cast
    omega
theorem csum_shorter : ∀ n : Nat, (csum n (fun _ => true) : Int) = shorterN n
  | 0 => rfl
  | n + 1 => by
    have h1 := csum_all n
    have h2 := csum_all (n + 1)
    have h3 := shorterN_eq n
    have h4 := shorterN_eq (n + 1)
    have e : ((3 ^ n : Nat) : Int) = (3 : Int) ^ n := by simp
    have e2 : ((3 ^ (n + 1) : Nat) : Int) = (3 : Int) ^ (n + 1) := by simp
    omega
theorem numL_wv {s : List UInt8} (h : s.all isL = true) : (numL (s.map ltr) : Int) = shorterN s.length + wv s := by
  rw [numL_eq]; push_cast; rw [csum_shorter, valL_wv s h]; simp
theorem rank_is {s : List UInt8} (h : wordOk s = true) : rank s = numL (s.map ltr) := by rw [rank, h, numL_wv (letters_all h)]; rfl
theorem wordAt_num {m : Int} (h0 : 0 ≤ m) (h9 : m < shorterN 9) : wordOk (wordAt m) = true ∧ (numL ((wordAt m).map ltr) : Int) = m := by
  have hex : ∃ k, k < 9 ∧ shorterN k ≤ m ∧ m < shorterN (k + 1) := by
    have : ∀ n, m < shorterN n → ∃ k, k < n ∧ shorterN k ≤ m ∧ m < shorterN (k + 1) := by
      intro n
      induction n with
      | zero => intro h; simp [shorterN] at h; omega
      | succ n ih =>
        intro h
        by_cases hc : m < shorterN n
        · obtain ⟨k, a1, a2, a3⟩ := ih hc
          exact ⟨k, by omega, a2, a3⟩
        · exact ⟨n, by omega, by omega, h⟩
    exact this 9 h9
  obtain ⟨k, hk, h1, h2⟩ := hex
  have hwl := wlen_is hk h2 h1
  obtain ⟨l1, l2, l3⟩ := lowD_num k (m - shorterN k) (by omega)
  have e : wordAt m = lowD k (m - shorterN k) := by unfold wordAt; rw [hwl]
  rw [e]
  refine ⟨by simp only [wordOk, lettersOk, Bool.and_eq_true, decide_eq_true_eq]; exact ⟨l2, by omega⟩, ?_⟩
  rw [numL_wv l2, l1, l3, Int.emod_eq_of_lt (by omega) (by rw [shorterN] at h2; omega)]
  omega

end Go.Fw
