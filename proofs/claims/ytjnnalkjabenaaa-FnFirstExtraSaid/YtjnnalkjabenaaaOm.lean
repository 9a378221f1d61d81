/- The law about runs. -/
import Derived.Test.YtjnnalkjabenaaaOl
set_option linter.unusedSimpArgs false
set_option linter.unusedVariables false
namespace Go.Fw
open Go Go.Proofs
set_option linter.unusedSectionVars false
set_option linter.unnecessarySimpa false

theorem codeD_lenD (code : List UInt8) : (codeD code).length = code.length := by simp [codeD]

set_option maxRecDepth 100000 in
theorem c_DrawDfaRun (code : List UInt8) : TCalls Try.prog 13 [.d (.list (codeD code))] fun y => ∃ (a : Df) (q : Int) (s : List UInt8), y = [a.d, iD q, sD s] ∧ a.tiny ∧ s.length ≤ 9 ∧ -2 ≤ q ∧ q ≤ 100 := by
  refine tcalls_intro Ty.mixed Try.func13 rfl rfl rfl [] (by kernel_rfl) (by simp) ?_
  simp
  refine .fresh 900 (c_l20Open code) (by omega) (by simp) rfl (by simp) ?_
  rintro _ ⟨code', rfl, hc⟩
  simp [rdB]
  refine .lend (b := rdB (codeD code') 0) (d_l20Dfa code' (by omega) 0 14 (by omega) (by omega) (by omega)) (by simp [rdB]) (by simp) rfl (by simp) ?_
  rintro _ _ ⟨q, rfl, h1, h2, a, rfl, ha⟩
  have hal := ha.nl
  have hw : IntKind.i64.wrap ((a.next.length : Int) + 1) = a.next.length + 1 := wrap64 (by omega) (by omega)
  simp [rdB, Df.d, hw]
  refine .lend (b := rdB (codeD code') q) (d_pick code' (by omega) q _ (by omega) (by omega) (by omega)) (by simp [rdB]) (by simp) rfl (by simp) ?_
  rintro _ _ ⟨q1, rfl, h3, h4, v, rfl, hv⟩
  simp [rdB]
  refine .lend (b := rdB (codeD code') q1) (d_pick code' (by omega) q1 14 (by omega) (by omega) (by omega)) (by simp [rdB]) (by simp) rfl (by simp) ?_
  rintro _ _ ⟨q2, rfl, h5, h6, w, rfl, hw'⟩
  obtain ⟨v1, v2, _⟩ := hv
  have v2 := v2 (by omega)
  obtain ⟨w1, w2, _⟩ := hw'
  have w2 := w2 (by omega)
  simp [rdB]
  refine .one (sch [.pur 0, .pur 1, .pur 2, .eff 3 [0, 1], .eff 4 [1], .pur 5, .pur 6]) (by kernel_rfl) ?_
  simp
  refine .lend (b := rdB (codeD code') q2) (d_l20Word code' (by omega) q2 14 (by omega) (by omega) (by omega)) (by simp [rdB]) (by simp) rfl (by simp) ?_
  rintro _ _ ⟨q3, rfl, h7, h8, s, rfl, hs⟩
  simp [rdB]
  have hd : 0 ≤ w.tdiv 13 ∧ w.tdiv 13 ≤ 1 := by rw [Int.tdiv_eq_ediv_of_nonneg (by omega)]; omega
  have hw3 : IntKind.i64.wrap (v - IntKind.i64.wrap (w.tdiv 13)) = v - w.tdiv 13 := by rw [wrap64 (n := w.tdiv 13) (by omega) (by omega), wrap64 (by omega) (by omega)]
  exact ⟨a, _, s, ⟨⟨rfl, rfl⟩, hw3, rfl⟩, ha, by omega, by omega, by omega⟩

theorem runDf_cases (a : Df) (q : Int) (s : List UInt8) : (okDf a = true ∧ wordOk s = true ∧ a.st q ∧ runDf a q s = a.run q s ∧ a.st (a.run q s)) ∨ (runDf a q s = -1 ∧ ¬ (okDf a = true ∧ wordOk s = true ∧ a.st q)) := by
  by_cases h : okDf a = true ∧ wordOk s = true ∧ a.st q
  · obtain ⟨h1, h2, h3⟩ := h
    exact .inl ⟨h1, h2, h3, by simp [runDf, h1, h2, inSt_st.2 h3], run_st h1 h3 (letters_all h2)⟩
  · refine .inr ⟨?_, h⟩
    unfold runDf
    rw [if_neg]
    simp only [Bool.and_eq_true]
    rintro ⟨⟨h1, h2⟩, h3⟩
    exact h ⟨h1, h2, inSt_st.1 h3⟩

set_option maxRecDepth 100000 in
theorem c_DrawDfaAccepts (code : List UInt8) : TCalls Try.prog 17 [.d (.list (codeD code))] fun y => ∃ (a : Df) (s : List UInt8), y = [a.d, sD s] ∧ a.tiny ∧ s.length ≤ 9 := by
  refine tcalls_intro Ty.mixed Try.func17 rfl rfl rfl [] (by kernel_rfl) (by simp) ?_
  simp
  refine .fresh 700 (c_l20Open code) (by omega) (by simp) rfl (by simp) ?_
  rintro _ ⟨code', rfl, hc⟩
  simp [rdB]
  refine .lend (b := rdB (codeD code') 0) (d_l20Dfa code' (by omega) 0 14 (by omega) (by omega) (by omega)) (by simp [rdB]) (by simp) rfl (by simp) ?_
  rintro _ _ ⟨q, rfl, h1, h2, a, rfl, ha⟩
  simp [rdB, Df.d]
  refine .one (sch [.pur 0, .pur 1, .eff 2 [0], .eff 3 [], .pur 4]) (by kernel_rfl) ?_
  simp
  refine .lend (b := rdB (codeD code') q) (d_l20Word code' (by omega) q 14 (by omega) (by omega) (by omega)) (by simp [rdB]) (by simp) rfl (by simp) ?_
  rintro _ _ ⟨q2, rfl, h3, h4, s, rfl, hs⟩
  simp [rdB]
  exact ⟨a, s, ⟨⟨rfl, rfl⟩, rfl⟩, ha, by omega⟩

theorem wordOk_take {s : List UInt8} (h : wordOk s = true) (n : Nat) : wordOk (s.take n) = true := by
  have h1 := letters_all h
  have h2 := letters_len h
  simp only [wordOk, lettersOk, Bool.and_eq_true, decide_eq_true_eq]
  refine ⟨take_all h1 n, ?_⟩
  simp; omega
theorem wordOk_drop {s : List UInt8} (h : wordOk s = true) (n : Nat) : wordOk (s.drop n) = true := by
  have h1 := letters_all h
  have h2 := letters_len h
  simp only [wordOk, lettersOk, Bool.and_eq_true, decide_eq_true_eq]
  refine ⟨?_, by simp; omega⟩
  rw [List.all_eq_true] at h1 ⊢
  exact fun x hx => h1 x (List.mem_of_mem_drop hx)
set_option maxRecDepth 100000 in
theorem c_FnDfaRun (code : List UInt8) (hl : code.length ≤ 9223372036854775807) : DCalls Try.prog 3 [.d (.list (codeD code))] fun y => y = .bool true := by
  refine dcalls_intro Ty.mixed Try.func3 rfl rfl rfl [] (by kernel_rfl) (by simp) ?_
  simp [codeD_lenD]
  intro h20
  refine .tdat (c_DrawDfaRun code) rfl (by simp) ?_
  rintro _ ⟨a, q, s, rfl, ha, hs, hq1, hq2⟩
  have hf := ha.fine
  simp [Df.d]
  refine .dval (c_DfaRun a q s hf (by omega)) rfl (by simp [Df.d]) rfl ?_
  simp
  refine .dval (c_sDfaRun a q s hf (by omega)) rfl (by simp [Df.d]) rfl ?_
  simp
  refine ⟨fun hneg => ?_, fun hpos => ?_⟩
  · refine .flat (fun _ => c_alive) rfl (by simp) rfl (by simp) ?_
    rcases runDf_cases a q s with ⟨_, _, _, e, h⟩ | ⟨e, _⟩
    · have := h.1; omega
    · simp [e]
  · refine .one (sch [.pur 0, .pur 1, .pur 2, .pur 3, .pur 4, .pur 5, .pur 6, .pur 7, .pur 8, .pur 9, .pur 10, .pur 11, .pur 13, .pur 14, .pur 15, .pur 17, .eff 12 [6, 13, 14, 15, 17], .eff 16 [17], .pur 18, .pur 19, .pur 20, .pur 21, .pur 22, .pur 24, .eff 23 [24], .pur 25, .pur 26, .pur 27]) (by kernel_rfl) ?_
    rcases runDf_cases a q s with ⟨h1, h2, h3, e, h4⟩ | ⟨e, _⟩
    · rw [e]
      have hlt := h4.2
      have hH : IntKind.i64.wrap ((s.length : Int) / 2) = ((s.length / 2 : Nat) : Int) := by rw [wrap64 (by omega) (by omega)]; omega
      have hHs : s.length / 2 ≤ s.length := by omega
      generalize s.length / 2 = H at *
      have t1 : wordOk (s.take H) = true := wordOk_take h2 H
      have t2 : wordOk (s.drop H) = true := wordOk_drop h2 H
      have r1 := run_st h1 h3 (letters_all t1)
      have hr : a.run (a.run q (s.take H)) (s.drop H) = a.run q s := by rw [← run_app, List.take_append_drop]
      have e1 : runDf a q (s.take H) = a.run q (s.take H) := by simp [runDf, h1, t1, inSt_st.2 h3]
      have e2 : runDf a (a.run q (s.take H)) (s.drop H) = a.run q s := by rw [← hr]; simp [runDf, h1, t2, inSt_st.2 r1]
      have e3 : runDf a q [] = q := by simp [runDf, h1, inSt_st.2 h3, Df.run, wordOk, lettersOk]
      simp [hH, hlt, hHs]
      refine .flat (fun _ => c_DfaRun a q (s.take H) hf (by simp; omega)) rfl (by simp [Df.d]) rfl (by simp) ?_
      rw [e1]
      simp [hHs, hlt]
      refine .flat (fun _ => c_DfaRun a (a.run q (s.take H)) (s.drop H) hf (by simp; omega)) rfl (by simp [Df.d]) rfl (by simp) ?_
      rw [e2]
      simp
      refine .flat (fun _ => c_DfaRun a q [] hf (by simp)) rfl (by simp [Df.d]) rfl (by simp) ?_
      rw [e3]
      simp
    · omega
end Go.Fw
