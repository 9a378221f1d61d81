/- The greatest number of letters, where there are no words. -/
import Derived.Test.YtmodfeaneggloaaOr
set_option linter.unusedSimpArgs false
set_option linter.unusedVariables false
namespace Go.Fw
open Go Go.Proofs
set_option linter.unusedSectionVars false
set_option linter.unnecessarySimpa false

/-- Flags of states that words lead to. -/
structure FlR (a : Df) (B : List Bool) : Prop where
  len : B.length = a.next.length
  to : ∀ q : Nat, B[q]? = some true → ∃ w : List UInt8, w.all isL = true ∧ a.run 0 w = q
theorem flR_none (a : Df) : FlR a (List.replicate a.next.length false) := ⟨by simp, fun q h => by
  rw [List.getElem?_replicate] at h
  split at h <;> cases h⟩
theorem FlR.set {a : Df} {B : List Bool} (h : FlR a B) {t : Nat} {w : List UInt8} (hw : w.all isL = true) (hr : a.run 0 w = t) : FlR a (B.set t true) := by
  refine ⟨by simp [h.len], fun q hq => ?_⟩
  by_cases e : t = q
  · subst e; exact ⟨w, hw, hr⟩
  · rw [List.getElem?_set_ne e] at hq; exact h.to q hq
theorem lt3_is {c : Nat} (h : c < 3) : ∃ b, isL b = true ∧ ltr b = (c : Nat) := by
  obtain rfl | rfl | rfl : c = 0 ∨ c = 1 ∨ c = 2 := by omega
  · exact ⟨97, by decide, by decide⟩
  · exact ⟨98, by decide, by decide⟩
  · exact ⟨99, by decide, by decide⟩

set_option maxHeartbeats 800000 in
set_option maxRecDepth 100000 in
theorem c_LongestNone (a : Df) (h : okDf a = true) (hno : ∀ v : List UInt8, v.all isL = true → a.acc v = false) : DCalls Try.prog 19 [.d a.d] fun y => y = iD (-2) := by
  refine dcalls_intro Ty.mixed Try.func19 rfl rfl rfl [1] (by kernel_rfl) (by simp) ?_
  obtain ⟨n1, n2, n3⟩ := okDf_len h
  simp [Df.d]
  refine .dval (c_DfaValid a (fine_of_okDf h)) rfl (by simp [Df.d]) rfl ?_
  have hwm : IntKind.i64.wrap (2 * (a.next.length : Int)) = 2 * a.next.length := wrap64 (by omega) (by omega)
  have hwm2 : IntKind.i64.wrap (2 * (a.next.length : Int) + 1) = ((2 * a.next.length + 1 : Nat) : Int) := by rw [wrap64 (by omega) (by omega)]; omega
  have hini : FlR a ((List.replicate a.next.length false).set 0 true) := (flR_none a).set (w := []) rfl rfl
  simp [h, hwm, hwm2]
  refine ⟨by omega, by omega, ?_⟩
  refine LoopVC.wk (Wk.frz 3 rfl (by simp)) ?_
  refine LoopVC.at { g : Nat × List Bool // g.1 ≤ 2 * a.next.length + 1 ∧ FlR a g.2 } (fun g => [(1, dpA a), (3, .d (bsD g.1.2)), (4, iA (-2)), (24, iA (2 * a.next.length + 1 : Nat)), (25, iA g.1.1)]) (fun _ => []) [] (fun g => 2 * a.next.length + 1 - g.1.1) ⟨(0, (List.replicate a.next.length false).set 0 true), by omega, hini⟩ (by simp; exact List.take_of_length_le (by simp)) (by simp) ?_
  rintro ⟨⟨k, B⟩, hk, hB⟩
  simp only at hk hB
  have hBl := hB.len
  rcases Nat.lt_or_ge k (2 * a.next.length + 1) with hk1 | hk1
  · have hkz : (k : Int) < 2 * a.next.length + 1 := by omega
    simp [hk1, hkz]
    refine ⟨⟨by omega, by omega⟩, ?_⟩
    refine LoopVC.at { g : Nat × List Bool // g.1 ≤ a.next.length ∧ FlR a g.2 } (fun g => [(1, dpA a), (4, iA (-2)), (5, iA k), (6, .sl 1 3100 0 a.next.length), (24, iA (2 * a.next.length + 1 : Nat)), (25, iA k), (32, .d (bsD B)), (33, iA a.next.length), (34, iA g.1.1)]) (fun g => [(3100, .ar 1 (g.1.2.map bD))]) [3100] (fun g => a.next.length - g.1.1) ⟨(0, List.replicate a.next.length false), by omega, flR_none a⟩ (by simp [hBl]) (by simp) ?_
    rintro ⟨⟨s, C⟩, hs, hC⟩
    simp only at hs hC
    have hCl := hC.len
    rcases Nat.lt_or_ge s a.next.length with hsn | hsn
    · have hsB : s < B.length := by omega
      obtain ⟨v, b1⟩ : ∃ v, B[s]? = some v := ⟨_, List.getElem?_eq_getElem hsB⟩
      have b2 : ∀ h, B[s]'h = v := fun h => (List.getElem?_eq_some_iff.1 b1).2
      simp [hsn, hsB, b1, b2]
      cases v with
      | false =>
        simp
        refine ⟨s + 1, C, .mk ?_ ?_, ⟨by omega, hC⟩, by omega⟩
        · simp; exact wrap64 (by omega) (by omega)
        · simp
      | true =>
        obtain ⟨w, hw1, hw2⟩ := hB.to s b1
        have hfin : a.fin s = false := by rw [← hw2]; exact hno w hw1
        have hse : s < a.ends.length := by omega
        have b0 := getD_row (xs := a.ends) (i := s) false hse
        have hfk : a.fin s = a.ends.getD s false := by simp [Df.fin]
        rw [← hfk, hfin] at b0
        have a1 := getD_row (xs := a.next) (i := s) [] hsn
        have hnx := okDf_row h hsn
        have hgo : ∀ c : Nat, a.go s c = (a.next.getD s []).getD c 0 := fun c => by simp [Df.go]
        generalize a.next.getD s [] = nx at *
        have hl3 : nx.length = 3 := hnx.1
        simp [hse, b0, a1, hsn, hl3]
        refine LoopVC.at { g : Nat × List Bool // g.1 ≤ 3 ∧ FlR a g.2 } (fun g => [(1, dpA a), (4, iA (-2)), (5, iA k), (6, .sl 1 3100 0 a.next.length), (24, iA (2 * a.next.length + 1 : Nat)), (25, iA k), (32, .d (bsD B)), (33, iA a.next.length), (34, iA s), (51, .d (intsD nx)), (52, iA 3), (53, iA g.1.1)]) (fun g => [(3100, .ar 1 (g.1.2.map bD))]) [3100] (fun g => 3 - g.1.1) ⟨(0, C), by omega, hC⟩ (by simp [hl3]) (by simp) ?_
        rintro ⟨⟨c, C⟩, hc, hC⟩
        simp only at hc hC
        have hCl := hC.len
        rcases Nat.lt_or_ge c 3 with hc3 | hc3
        · have a2 := getD_row (xs := nx) (i := c) 0 (by omega)
          have hgc := hgo c
          rw [← hgc] at a2
          have hgs := go_st h (st_nat hsn) (c := (c : Int)) (by omega)
          have t1 := hgs.1
          have t2 := hgs.2
          obtain ⟨b, hb1, hb2⟩ := lt3_is hc3
          have hrun : a.run 0 (w ++ [b]) = a.go s c := by rw [run_app, hw2, ← hb2]; rfl
          obtain ⟨t, ht⟩ : ∃ t : Nat, a.go s c = t := ⟨(a.go s c).toNat, by omega⟩
          rw [ht] at a2 t1 t2 hrun
          have htn : t < a.next.length := by omega
          have hnew := hC.set (w := w ++ [b]) (by simp [hw1, hb1]) hrun
          have l3 : (c : Int) < 3 := by omega
          simp [l3, a2, hl3, hc3, htn, hCl]
          refine ⟨c + 1, C.set t true, .mk ?_ ?_, ⟨by omega, hnew⟩, by omega⟩
          · simp; exact wrap64 (by omega) (by omega)
          · simp [List.map_set, bD]
        · have : c = 3 := by omega
          subst this
          simp
          refine ⟨s + 1, C, .mk ?_ ?_, ⟨by omega, hC⟩, by omega⟩
          · simp; exact wrap64 (by omega) (by omega)
          · simp
    · have : s = a.next.length := by omega
      subst this
      simp
      refine ⟨k + 1, C, (Wk.frz 3 rfl (by simp [hCl])).trans (.mk ?_ (by simp)), ⟨by omega, hC⟩, by omega⟩
      simp
      refine ⟨List.take_of_length_le (by simp [hCl]), wrap64 (by omega) (by omega)⟩
  · have : k = 2 * a.next.length + 1 := by omega
    subst this
    have hz : ¬ (a.next.length : Int) ≤ -2 := by omega
    simp [hz]
end Go.Fw
