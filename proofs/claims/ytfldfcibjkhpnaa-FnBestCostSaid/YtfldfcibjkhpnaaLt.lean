/- Which states are reached: as bits, as costs, and as counts of ways. -/
import Derived.Test.YtfldfcibjkhpnaaLq
set_option linter.unusedSimpArgs false
set_option linter.unusedVariables false
namespace Go.Fw
open Go Go.Proofs

theorem stHas_with (p : Nat × Nat) {s i : Nat} (hs : s < 128) (hi : i < 128) : stHas (stWith p s).1 (stWith p s).2 i = (decide (s = i) || stHas p.1 p.2 i) := by
  unfold stWith stHas
  by_cases h1 : s < 64 <;> by_cases h2 : i < 64 <;> simp [h1, h2, Nat.testBit_or, Nat.testBit_two_pow]
  · cases p.1.testBit i <;> simp
  · omega
  · omega
  · have : (s - 64 = i - 64) ↔ s = i := by omega
    simp [this]
    cases p.2.testBit (i - 64) <;> simp
theorem stHas_zero (i : Nat) : stHas 0 0 i = false := by simp [stHas]

/-- One move, while the states behind a letter are found. -/
def stepN (x : Nat × Nat) (l : Int) (q : Nat × Nat) (m : Rd) : Nat × Nat := if m.l = l ∧ stHas x.1 x.2 m.f.toNat = true then stWith q m.t.toNat else q
def nextN (rs : List Rd) (x : Nat × Nat) (l : Int) : Nat × Nat := rs.foldl (stepN x l) (0, 0)
def runN (rs : List Rd) (s : List UInt8) : Nat × Nat := s.foldl (fun x b => nextN rs x (ltr b)) (1, 0)

def RelP (N : Nat) (P : Int → Bool) (cs : List Int) (x : Nat × Nat) : Prop := cs.length = N ∧ ∀ i, i < N → stHas x.1 x.2 i = P (cs.getD i 0)

theorem getD_set (xs : List Int) (k : Nat) (v : Int) (i : Nat) (hk : k < xs.length) : (xs.set k v).getD i 0 = if k = i then v else xs.getD i 0 := by
  simp only [List.getD_eq_getElem?_getD, List.getElem?_set]
  by_cases hki : k = i
  · subst hki; simp [hk]
  · simp [hki]

theorem relC_step {N : Nat} (hN : N ≤ 40) {a c : List Int} {x q : Nat × Nat} {l : Int} {m : Rd} (ha : RelP N (fun v => decide (0 ≤ v)) a x) (hc : RelP N (fun v => decide (0 ≤ v)) c q) (hf : m.f.toNat < N) (ht : m.t.toNat < N) (hm : 0 ≤ m.c) :
    RelP N (fun v => decide (0 ≤ v)) (stepC a l c m) (stepN x l q m) := by
  refine ⟨by rw [stepC_len]; exact hc.1, fun i hi => ?_⟩
  have h1 := ha.2 _ hf
  have h2 := hc.2 i hi
  have h3 := hc.2 _ ht
  have hcl := hc.1
  unfold stepN stepC
  by_cases hl : m.l = l
  · by_cases hp : 0 ≤ a.getD m.f.toNat 0
    · rw [if_pos (show m.l = l ∧ stHas x.1 x.2 m.f.toNat = true by simp [-List.getD_eq_getElem?_getD, hl, h1, hp]), stHas_with _ (by omega) (by omega), h2]
      by_cases hq : c.getD m.t.toNat 0 < 0 ∨ a.getD m.f.toNat 0 + m.c < c.getD m.t.toNat 0
      · rw [if_pos ⟨hl, hp, hq⟩, getD_set _ _ _ _ (by omega)]
        by_cases hti : m.t.toNat = i
        · simp [-List.getD_eq_getElem?_getD, hti]; omega
        · simp [-List.getD_eq_getElem?_getD, hti]
      · rw [if_neg (fun h => hq h.2.2)]
        by_cases hti : m.t.toNat = i
        · subst hti; simp [-List.getD_eq_getElem?_getD]; omega
        · simp [-List.getD_eq_getElem?_getD, hti]
    · rw [if_neg (show ¬ (m.l = l ∧ stHas x.1 x.2 m.f.toNat = true) by simp [-List.getD_eq_getElem?_getD, h1]; omega), if_neg (fun h => hp h.2.1), h2]
  · rw [if_neg (fun h => hl h.1), if_neg (fun h => hl h.1), h2]

theorem relW_step {N : Nat} (hN : N ≤ 40) {a c : List Int} {x q : Nat × Nat} {l : Int} {m : Rd} (ha0 : ∀ i, i < N → 0 ≤ a.getD i 0) (hc0 : ∀ i, i < N → 0 ≤ c.getD i 0) (ha : RelP N (fun v => decide (0 < v)) a x) (hc : RelP N (fun v => decide (0 < v)) c q) (hf : m.f.toNat < N) (ht : m.t.toNat < N) :
    RelP N (fun v => decide (0 < v)) (stepW a l c m) (stepN x l q m) ∧ ∀ i, i < N → 0 ≤ (stepW a l c m).getD i 0 := by
  have h1 := ha.2 _ hf
  have g1 := ha0 _ hf
  have g2 := hc0 _ ht
  have hcl := hc.1
  refine ⟨⟨by rw [stepW_len]; exact hc.1, fun i hi => ?_⟩, fun i hi => ?_⟩
  · have h2 := hc.2 i hi
    have g3 := hc0 i hi
    unfold stepN stepW
    by_cases hl : m.l = l
    · rw [if_pos hl, getD_set _ _ _ _ (by omega)]
      by_cases hp : 0 < a.getD m.f.toNat 0
      · rw [if_pos (show m.l = l ∧ stHas x.1 x.2 m.f.toNat = true by simp [-List.getD_eq_getElem?_getD, hl, h1, hp]), stHas_with _ (by omega) (by omega), h2]
        by_cases hti : m.t.toNat = i
        · simp [-List.getD_eq_getElem?_getD, hti]; rw [hti] at g2; omega
        · simp [-List.getD_eq_getElem?_getD, hti]
      · rw [if_neg (show ¬ (m.l = l ∧ stHas x.1 x.2 m.f.toNat = true) by simp [-List.getD_eq_getElem?_getD, h1]; omega), h2]
        by_cases hti : m.t.toNat = i
        · subst hti; simp [-List.getD_eq_getElem?_getD, show a.getD m.f.toNat 0 = 0 by omega]
        · simp [-List.getD_eq_getElem?_getD, hti]
    · rw [if_neg (fun h => hl h.1), if_neg hl, h2]
  · have g3 := hc0 i hi
    unfold stepW
    split
    · rw [getD_set _ _ _ _ (by omega)]
      split
      · omega
      · exact g3
    · exact g3

theorem relC_next {N : Nat} (hN : N ≤ 40) {a : List Int} {x : Nat × Nat} {l : Int} (ha : RelP N (fun v => decide (0 ≤ v)) a x) (rs : List Rd) (hrs : ∀ m ∈ rs, m.f.toNat < N ∧ m.t.toNat < N ∧ 0 ≤ m.c) :
    RelP N (fun v => decide (0 ≤ v)) (nextC N rs a l) (nextN rs x l) := by
  have gen : ∀ (qs : List Rd) (c : List Int) (q : Nat × Nat), (∀ m ∈ qs, m.f.toNat < N ∧ m.t.toNat < N ∧ 0 ≤ m.c) → RelP N (fun v => decide (0 ≤ v)) c q → RelP N (fun v => decide (0 ≤ v)) (qs.foldl (stepC a l) c) (qs.foldl (stepN x l) q) := by
    intro qs
    induction qs with
    | nil => intro c q _ h; exact h
    | cons m qs ih =>
      intro c q hq h
      have hm := hq m (by simp)
      exact ih _ _ (fun r hr => hq r (by simp [hr])) (relC_step hN ha h hm.1 hm.2.1 hm.2.2)
  refine gen rs _ _ hrs ⟨by simp, fun i hi => ?_⟩
  rw [stHas_zero]; simp [List.getD_eq_getElem?_getD, List.getElem?_replicate, hi]
theorem relC_run {N : Nat} (hN : N ≤ 40) (h1 : 1 ≤ N) (rs : List Rd) (hrs : ∀ m ∈ rs, m.f.toNat < N ∧ m.t.toNat < N ∧ 0 ≤ m.c) (s : List UInt8) : RelP N (fun v => decide (0 ≤ v)) (costsC N rs s) (runN rs s) := by
  induction s using snocInd with
  | nil =>
    refine ⟨by simp [costsC, initC], fun i hi => ?_⟩
    show stHas 1 0 i = _
    have : stHas 1 0 i = decide (0 = i) := by
      rw [stHas, if_pos (by omega), show (1 : Nat) = 2 ^ 0 from rfl, Nat.testBit_two_pow]
    rw [this]
    show _ = decide (0 ≤ (initC N).getD i 0)
    rw [initC, getD_set _ _ _ _ (by simp; omega)]
    split
    · rename_i h; simp [h]
    · rename_i h; simp [h, List.getD_eq_getElem?_getD, List.getElem?_replicate, hi]
  | snoc s b ih =>
    unfold costsC runN at ih ⊢
    rw [List.foldl_append, List.foldl_append]
    exact relC_next hN ih rs hrs
theorem relW_run {N : Nat} (hN : N ≤ 40) (h1 : 1 ≤ N) (rs : List Rd) (hrs : ∀ m ∈ rs, m.f.toNat < N ∧ m.t.toNat < N) (s : List UInt8) : RelP N (fun v => decide (0 < v)) (countsW N rs s) (runN rs s) ∧ ∀ i, i < N → 0 ≤ (countsW N rs s).getD i 0 := by
  have gen : ∀ (a : List Int) (x : Nat × Nat) (l : Int), RelP N (fun v => decide (0 < v)) a x → (∀ i, i < N → 0 ≤ a.getD i 0) → ∀ (qs : List Rd) (c : List Int) (q : Nat × Nat), (∀ m ∈ qs, m.f.toNat < N ∧ m.t.toNat < N) → RelP N (fun v => decide (0 < v)) c q → (∀ i, i < N → 0 ≤ c.getD i 0) → RelP N (fun v => decide (0 < v)) (qs.foldl (stepW a l) c) (qs.foldl (stepN x l) q) ∧ ∀ i, i < N → 0 ≤ (qs.foldl (stepW a l) c).getD i 0 := by
    intro a x l ha ha0 qs
    induction qs with
    | nil => intro c q _ h h0; exact ⟨h, h0⟩
    | cons m qs ih =>
      intro c q hq h h0
      have hm := hq m (by simp)
      have := relW_step (l := l) (m := m) hN ha0 h0 ha h hm.1 hm.2
      exact ih _ _ (fun r hr => hq r (by simp [hr])) this.1 this.2
  induction s using snocInd with
  | nil =>
    refine ⟨⟨by simp [countsW, initW], fun i hi => ?_⟩, fun i hi => ?_⟩
    · show stHas 1 0 i = _
      have : stHas 1 0 i = decide (0 = i) := by
        rw [stHas, if_pos (by omega), show (1 : Nat) = 2 ^ 0 from rfl, Nat.testBit_two_pow]
      rw [this]
      show _ = decide (0 < (initW N).getD i 0)
      rw [initW, getD_set _ _ _ _ (by simp; omega)]
      split
      · rename_i h; simp [h]
      · rename_i h; simp [h, List.getD_eq_getElem?_getD, List.getElem?_replicate, hi]
    · show 0 ≤ (initW N).getD i 0
      rw [initW, getD_set _ _ _ _ (by simp; omega)]
      split
      · omega
      · simp [List.getD_eq_getElem?_getD, List.getElem?_replicate, hi]
  | snoc s b ih =>
    unfold countsW runN at ih ⊢
    rw [List.foldl_append, List.foldl_append]
    refine gen _ _ _ ih.1 ih.2 rs _ _ hrs ⟨by simp, fun i hi => ?_⟩ fun i hi => ?_
    · rw [stHas_zero]; simp [List.getD_eq_getElem?_getD, List.getElem?_replicate, hi]
    · simp [List.getD_eq_getElem?_getD, List.getElem?_replicate, hi]

/-! ### The walk -/

theorem stepN_lt {x q : Nat × Nat} {l : Int} {m : Rd} (hq : q.1 < 18446744073709551616 ∧ q.2 < 18446744073709551616) (ht : m.t.toNat < 128) : (stepN x l q m).1 < 18446744073709551616 ∧ (stepN x l q m).2 < 18446744073709551616 := by
  unfold stepN
  split
  · exact stWith_lt hq ht
  · exact hq
theorem foldN_lt {x : Nat × Nat} {l : Int} : ∀ (rs : List Rd) (q : Nat × Nat), (∀ m ∈ rs, m.t.toNat < 128) → q.1 < 18446744073709551616 ∧ q.2 < 18446744073709551616 → (rs.foldl (stepN x l) q).1 < 18446744073709551616 ∧ (rs.foldl (stepN x l) q).2 < 18446744073709551616
  | [], _, _, h => h
  | m :: rs, q, hr, h => foldN_lt rs _ (fun r hm => hr r (by simp [hm])) (stepN_lt h (hr m (by simp)))

end Go.Fw
