/- Three rewriters in a chain: the law. -/
import Derived.Test.YtfiipgebdcbknaaNb
set_option linter.unusedSimpArgs false
set_option linter.unusedVariables false
namespace Go.Fw
open Go Go.Proofs
set_option linter.unusedSectionVars false
set_option linter.unnecessarySimpa false

set_option maxRecDepth 100000 in
theorem c_FnChainThree (code more : List UInt8) (hl1 : code.length ≤ 9223372036854775807) (hl2 : more.length ≤ 9223372036854775807) : DCalls Try.prog 10 [.d (.list (codeD code)), .d (.list (codeD more))] fun y => y = .bool true := by
  refine dcalls_intro Ty.mixed Try.func10 rfl rfl rfl [] (by kernel_rfl) (by simp) ?_
  simp [codeD_len2]
  intro h20 h21
  refine .tdat (c_DrawChainRewriters code) rfl (by simp) ?_
  rintro _ ⟨a, b, rfl, hsa, hsb⟩
  have hfa := hsa.fine
  have hfb := hsb.fine
  simp [Rw.d]
  refine .tdat (c_DrawRewriteText more) rfl (by simp) ?_
  rintro _ ⟨c, s, rfl, hsc, hs⟩
  have hfc := hsc.fine
  simp [Rw.d]
  refine .tdat (c_ChainRewriters a b hfa hfb) rfl (by simp [Rw.d]) ?_
  rintro _ ⟨X, ok, rfl, hX⟩
  simp [Rw.d]
  refine .tdat (c_sChainRewriters a b hfa hfb) rfl (by simp [Rw.d]) ?_
  rintro _ ⟨Q, ok', rfl, hQ⟩
  obtain ⟨e1, e2⟩ := hX.uniq hQ
  subst e1
  subst e2
  have hfX := hX.fine
  simp [Rw.d]
  refine .dval (c_sameRewriter X hX.reg) rfl (by simp [Rw.d]) rfl ?_
  simp
  refine .tdat (c_ChainRewriters b c hfb hfc) rfl (by simp [Rw.d]) ?_
  rintro _ ⟨Y, good, rfl, hY⟩
  have hfY := hY.fine
  simp [Rw.d]
  refine .tdat (c_ChainRewriters X c hfX hfc) rfl (by simp [Rw.d]) ?_
  rintro _ ⟨P, left, rfl, hP⟩
  have hfP := hP.fine
  simp [Rw.d]
  refine .tdat (c_ChainRewriters a Y hfa hfY) rfl (by simp [Rw.d]) ?_
  rintro _ ⟨V, right, rfl, hV⟩
  have hfV := hV.fine
  simp [Rw.d]
  refine .one (sch [.pur 0, .pur 1, .pur 2, .pur 3, .pur 4, .pur 5, .pur 6, .pur 7, .pur 8, .pur 9, .pur 10, .pur 11, .pur 12, .pur 13, .pur 14, .pur 15, .pur 16, .pur 18, .pur 19, .eff 17 [18, 19], .eff 20 [], .pur 21, .pur 22, .pur 23, .eff 24 [], .pur 25, .pur 26]) (by kernel_rfl) ?_
  simp
  refine .flat (fun _ => c_RewriteText P s hfP (by omega)) rfl (by simp [Rw.d]) rfl (by simp) ?_
  simp
  refine .flat (fun _ => c_RewriteText V s hfV (by omega)) rfl (by simp [Rw.d]) rfl (by simp) ?_
  simp
  refine .flat (fun _ => c_alive) rfl (by simp) rfl (by simp) ?_
  simp
  rcases Bool.eq_false_or_eq_true ok with h1 | h1
  · rcases Bool.eq_false_or_eq_true good with h2 | h2
    · rcases Bool.eq_false_or_eq_true left with h3 | h3
      · rcases Bool.eq_false_or_eq_true right with h4 | h4
        · exact .inr (chain_three (h1 ▸ hX) (h2 ▸ hY) (h3 ▸ hP) (h4 ▸ hV) s)
        · exact .inl (.inr h4)
      · exact .inl (.inl (.inr h3))
    · exact .inl (.inl (.inl (.inr h2)))
  · exact .inl (.inl (.inl (.inl h1)))
end Go.Fw
