/- The law about counted words. -/
import Derived.Test.YtmodfeaneggloaaRl
import Derived.Test.YtmodfeaneggloaaRw
import Derived.Test.YtmodfeaneggloaaOr
set_option linter.unusedSimpArgs false
set_option linter.unusedVariables false
namespace Go.Fw
open Go Go.Proofs
set_option linter.unusedSectionVars false
set_option linter.unnecessarySimpa false

/-- Accepted words of a length, of the first ones. -/
def manyN (a : Df) (n k : Nat) : Nat := ((List.range k).map fun j => if (wordN j).length = n ∧ a.lang 0 (wordN j) = true then 1 else 0).sum
theorem manyN_succ (a : Df) (n k : Nat) : manyN a n (k + 1) = manyN a n k + if (wordN k).length = n ∧ a.lang 0 (wordN k) = true then 1 else 0 := sum_range_succ _ _
theorem manyN_le (a : Df) (n k : Nat) : manyN a n k ≤ k := by
  induction k with
  | zero => simp [manyN]
  | succ k ih => rw [manyN_succ]; split <;> omega
theorem wordAt_word {k : Nat} (h : k < 13) : (wordAt k).map ltr = wordN k ∧ wordOk (wordAt k) = true := by
  have h9 : shorterN 9 = 9841 := by decide
  obtain ⟨h1, h2⟩ := wordAt_num (m := (k : Int)) (by omega) (by omega)
  refine ⟨numL_inj _ (Nat.le_refl _) (l3_ltr' (letters_all h1)) (wordN_l3 k) (by rw [wordN_num]; omega), h1⟩
set_option maxHeartbeats 800000 in
set_option maxRecDepth 100000 in
theorem c_FnCountWords (code : List UInt8) (hl : code.length ≤ 9223372036854775807) : DCalls Try.prog 5 [.d (.list (codeD code))] fun y => y = .bool true := by
  refine dcalls_intro Ty.mixed Try.func5 rfl rfl rfl [] (by kernel_rfl) (by simp) ?_
  simp [codeD_lenD]
  intro h20
  refine .tdat (c_DrawCountWords code) rfl (by simp) ?_
  rintro _ ⟨a, n, rfl, ha, hn1, hn2⟩
  have hf := ha.fine
  simp [Df.d]
  refine .dval (c_CountWords a n hf) rfl (by simp [Df.d]) rfl ?_
  simp
  refine .dval (c_sCountWords a n hf) rfl (by simp [Df.d]) rfl ?_
  simp
  refine ⟨fun hneg => ?_, fun hpos => ?_⟩
  · rw [cwDf_neg hneg]
    simp
    refine .flat (fun _ => c_alive) rfl (by simp) rfl (by simp) ?_
    simp
  · obtain ⟨h1, n0, n30, he⟩ := cwDf_pos hpos
    obtain ⟨m, rfl⟩ : ∃ k : Nat, n = k := ⟨n.toNat, by omega⟩
    have he : cwDf a m = cq a m 0 := he
    refine LoopVC.at { k : Nat // k ≤ m } (fun k => [(3, .ptr 300 0), (4, iA m), (5, iA (cwDf a m)), (6, iA (3 ^ k.1)), (7, iA k.1)]) (fun _ => [(300, .bx [.d (rowsD a.next), .d (bsD a.ends)])]) [300] (fun k => m - k.1) ⟨0, by omega⟩ (by simp) (by simp) ?_
    rintro ⟨k, hk⟩
    rcases Nat.lt_or_ge k m with hkm | hkm
    · have hp := pow3_le (n := k + 1) (by omega)
      rw [Int.pow_succ] at hp
      simp [hkm]
      refine ⟨k + 1, .mk (by simp; exact ⟨by rw [Int.pow_succ, Int.mul_comm 3]; exact wrap64 (by omega) (by omega), wrap64 (by omega) (by omega)⟩) (by simp), by omega, by omega⟩
    · have : k = m := by omega
      subst this
      simp
      refine LoopVC.at { j : Nat // j ≤ 13 } (fun j => [(3, .ptr 300 0), (4, iA k), (5, iA (cwDf a k)), (6, iA (3 ^ k)), (8, iA (manyN a k j.1 : Nat)), (9, iA j.1)]) (fun _ => [(300, .bx [.d (rowsD a.next), .d (bsD a.ends)])]) [300] (fun j => 13 - j.1) ⟨0, by omega⟩ (by simp [manyN]) (by simp) ?_
      rintro ⟨j, hj⟩
      rcases Nat.lt_or_ge j 13 with hj3 | hj3
      · obtain ⟨w1, w2⟩ := wordAt_word hj3
        have hwl := letters_len w2
        have hacc : accDf a (wordAt j) = a.lang 0 (wordN j) := by rw [accDf_of h1 w2, acc_lang, w1]
        have hlen : (wordN j).length = (wordAt j).length := by rw [← w1]; simp
        have hms := manyN_succ a k j
        have hml := manyN_le a k j
        have h9 : shorterN 9 = 9841 := by decide
        have hjz : (j : Int) < 13 := by omega
        simp [hjz]
        refine .tdat (c_WordAt j (by omega)) rfl (by simp) ?_
        have hin : 0 ≤ (j : Int) ∧ (j : Int) < shorterN 9 := by omega
        rw [if_pos hin]
        rintro _ rfl
        generalize wordAt (j : Int) = w at *
        simp
        refine .flat (fun _ => c_DfaAccepts a w hf (by omega)) rfl (by simp [Df.d]) rfl (by simp) ?_
        rw [hacc]
        simp
        refine ⟨fun e1 e2 => ?_, fun hno => ?_⟩
        · rw [if_pos ⟨by omega, e2⟩] at hms
          refine ⟨j + 1, .mk ?_ (by simp), by omega, by omega⟩
          simp [hms]
          exact ⟨wrap64 (by omega) (by omega), wrap64 (by omega) (by omega)⟩
        · rw [if_neg (fun h => by have h1 := hno (by omega); rw [h.2] at h1; cases h1)] at hms
          refine ⟨j + 1, .mk ?_ (by simp), by omega, by omega⟩
          simp [hms]
          exact wrap64 (by omega) (by omega)
      · have : j = 13 := by omega
        subst this
        simp
        refine .ddat (c_DfaOther a hf) rfl (by simp [Df.d]) ?_
        rintro _ ⟨x, rfl, hx⟩
        have hxf := hx.fine
        obtain ⟨x1, x2⟩ := hx.lang h1
        have hin : inR (k : Int) 0 30 = true := by simp [inR]; omega
        have hcx : cwDf x k = cq x k 0 := by rw [cwDf, x1.ok, hin]; rfl
        have hsum : cq a k 0 + cq x k 0 = 3 ^ k := by
          have e1 := cnt_not k (a.lang 0)
          have e2 := cnt_congr k _ _ fun w hw _ => x2 w hw
          have e3 : ((3 ^ k : Nat) : Int) = (3 : Int) ^ k := by simp
          unfold cq; rw [e2]; omega
        have hb1 := cq_bd a (k := k) (by omega) 0
        have hb2 := cq_bd x (k := k) (by omega) 0
        simp [Df.d]
        refine .dval (c_CountWords x k hxf) rfl (by simp [Df.d]) rfl ?_
        rw [hcx]
        have hw : IntKind.i64.wrap (cwDf a k + cq x k 0) = 3 ^ k := by rw [he, ← hsum]; exact wrap64 (by omega) (by omega)
        have hm : 2 < (k : Int) ∨ (manyN a k 13 : Int) = cwDf a k := by
          by_cases h2 : 2 < (k : Int)
          · exact .inl h2
          · refine .inr ?_
            rw [he]
            unfold cq manyN
            rw [cnt2 (a.lang 0) k (by omega)]
        simp [hw, hm]
end Go.Fw
