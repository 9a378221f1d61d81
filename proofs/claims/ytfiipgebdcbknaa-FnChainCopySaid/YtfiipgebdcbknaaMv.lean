/- Chains with the rewriter that copies: the law. -/
import Derived.Test.YtfiipgebdcbknaaMt
import Derived.Test.YtfiipgebdcbknaaLn
import Derived.Test.YtfiipgebdcbknaaLl
set_option linter.unusedSimpArgs false
set_option linter.unusedVariables false
namespace Go.Fw
open Go Go.Proofs
set_option linter.unusedSectionVars false
set_option linter.unnecessarySimpa false

structure CR (a b : Rw) where
  R : Rw
  ok : Bool
  h : ChainIs a b R ok
abbrev rwB (r : Rw) : Blk := .bx [.d (.list (r.next.map intsD)), .d (.list (r.out.map ssD)), .d (ssD r.fin)]

set_option maxRecDepth 100000 in
theorem c_FnChainCopy (code : List UInt8) (hl : code.length ≤ 9223372036854775807) : DCalls Try.prog 9 [.d (.list (codeD code))] fun y => y = .bool true := by
  refine dcalls_intro Ty.mixed Try.func9 rfl rfl rfl [] (by kernel_rfl) (by simp) ?_
  simp [codeD_len2]
  intro h20
  refine .tdat (c_DrawRewriteText code) rfl (by simp) ?_
  rintro _ ⟨r, s, rfl, hsm, hs⟩
  have hf := hsm.fine
  have hfl := hsm.fin
  have hx1 := rewrite_le r s hs
  have h1 := c_ChainRewriters r copyRw hf copyRw_fine
  have h2 := c_ChainRewriters copyRw r copyRw_fine hf
  simp [Rw.d]
  refine .dval (c_RewriteText r s hf (by omega)) rfl (by simp [Rw.d]) rfl ?_
  simp
  refine .dval (c_sRewriteText r s hf (by omega)) rfl (by simp [Rw.d]) rfl ?_
  simp
  refine .cutAt (CR r copyRw) (fun x => [(3, .ptr 300 0), (4, sA s), (5, sA (rewrite r s)), (6, .ptr 600 0), (7, .d (.bool x.ok))]) (fun x => [(300, rwB r), (600, rwB x.R)]) [300, 600] (schA [.pur 0] (.alt 1 [0] (schA [] (.alt 2 [] (sch [.pur 3, .pur 4, .pur 5, .eff 6 [0, 3, 4, 5], .eff 7 [5], .pur 8]) 6 [0] (sch [.eff 2 [], .pur 3, .pur 4, .pur 5, .eff 7 [5], .pur 8]))) 6 [0] (sch [.eff 1 [0], .eff 2 [], .pur 3, .pur 4, .pur 5, .eff 7 [5], .pur 8]))) (by kernel_rfl) ?_ ?_
  · simp
    refine ⟨?_, ?_⟩
    · refine .ddat c_CopyRewriter rfl (by simp) ?_
      rintro _ rfl
      simp
      refine ⟨?_, ?_⟩
      · refine .tdat h1 rfl (by simp [Rw.d]) ?_
        rintro _ ⟨R, ok, rfl, hR⟩
        simp [Rw.d]
        exact ⟨⟨R, ok, hR⟩, by simp⟩
      · refine .tdat h1 rfl (by simp [Rw.d]) ?_
        rintro _ ⟨R, ok, rfl, hR⟩
        simp [Rw.d]
        exact ⟨⟨R, ok, hR⟩, by simp⟩
    · refine .ddat c_CopyRewriter rfl (by simp) ?_
      rintro _ rfl
      simp
      refine .tdat h1 rfl (by simp [Rw.d]) ?_
      rintro _ ⟨R, ok, rfl, hR⟩
      simp [Rw.d]
      exact ⟨⟨R, ok, hR⟩, by simp⟩
  rintro ⟨A, oka, hA⟩
  simp
  refine .cutAt (CR copyRw r) (fun x => [(3, .ptr 300 0), (4, sA s), (5, sA (rewrite r s)), (6, .ptr 600 0), (7, .d (.bool oka)), (8, .ptr 800 0), (9, .d (.bool x.ok))]) (fun x => [(300, rwB r), (600, rwB A), (800, rwB x.R)]) [300, 600, 800] (schA [.pur 1] (.alt 0 [1] (schA [] (.alt 2 [] (sch [.pur 3, .pur 4, .pur 5, .eff 6 [1, 3, 4, 5], .eff 7 [5], .pur 8]) 6 [1] (sch [.eff 2 [], .pur 3, .pur 4, .pur 5, .eff 7 [5], .pur 8]))) 6 [1] (sch [.eff 0 [1], .eff 2 [], .pur 3, .pur 4, .pur 5, .eff 7 [5], .pur 8]))) (by kernel_rfl) ?_ ?_
  · simp
    refine ⟨?_, ?_⟩
    · refine .ddat c_CopyRewriter rfl (by simp) ?_
      rintro _ rfl
      simp
      refine ⟨?_, ?_⟩
      · refine .tdat h2 rfl (by simp [Rw.d]) ?_
        rintro _ ⟨R, ok, rfl, hR⟩
        simp [Rw.d]
        exact ⟨⟨R, ok, hR⟩, by simp⟩
      · refine .tdat h2 rfl (by simp [Rw.d]) ?_
        rintro _ ⟨R, ok, rfl, hR⟩
        simp [Rw.d]
        exact ⟨⟨R, ok, hR⟩, by simp⟩
    · refine .ddat c_CopyRewriter rfl (by simp) ?_
      rintro _ rfl
      simp
      refine .tdat h2 rfl (by simp [Rw.d]) ?_
      rintro _ ⟨R, ok, rfl, hR⟩
      simp [Rw.d]
      exact ⟨⟨R, ok, hR⟩, by simp⟩
  rintro ⟨B, okb, hB⟩
  have ea := hA.copy_r
  have eb := hB.copy_l
  subst ea
  subst eb
  have hfA := hA.fine
  have hfB := hB.fine
  rcases Bool.eq_false_or_eq_true (okRw r) with hv | hv
  · have hA' := hA
    have hB' := hB
    rw [hv] at hA' hB'
    simp [hv]
    refine .flat (fun _ => c_sRewriterValid r hf) rfl (by simp [Rw.d]) rfl (by simp) ?_
    simp [hv]
    refine .flat (fun _ => c_RewriteText A s hfA (by omega)) rfl (by simp [Rw.d]) rfl (by simp) ?_
    rw [chain_copy_r hA']
    simp
    refine .flat (fun _ => c_RewriteText B s hfB (by omega)) rfl (by simp [Rw.d]) rfl (by simp) ?_
    rw [chain_copy_l hB']
    simp
    refine .flat (fun _ => c_alive) rfl (by simp) rfl (by simp) ?_
    simp
  · simp [hv]
    refine .flat (fun _ => c_sRewriterValid r hf) rfl (by simp [Rw.d]) rfl (by simp) ?_
    simp [hv]
    refine .flat (fun _ => c_RewriteText A s hfA (by omega)) rfl (by simp [Rw.d]) rfl (by simp) ?_
    simp
    refine .flat (fun _ => c_RewriteText B s hfB (by omega)) rfl (by simp [Rw.d]) rfl (by simp) ?_
    simp
    refine .flat (fun _ => c_alive) rfl (by simp) rfl (by simp) ?_
    simp
end Go.Fw
