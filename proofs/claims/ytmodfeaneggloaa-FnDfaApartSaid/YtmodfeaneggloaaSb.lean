/- The law DfaApart. -/
import Derived.Test.YtmodfeaneggloaaRp
import Derived.Test.YtmodfeaneggloaaRc
import Derived.Test.YtmodfeaneggloaaRd
import Derived.Test.YtmodfeaneggloaaRe
import Derived.Test.YtmodfeaneggloaaRu
set_option linter.unusedSimpArgs false
set_option linter.unusedVariables false
namespace Go.Fw
open Go Go.Proofs
set_option linter.unusedSectionVars false
set_option linter.unnecessarySimpa false

set_option maxRecDepth 100000 in
theorem c_FnDfaApart (code more : List UInt8) (hl : code.length ≤ 9223372036854775807) (hl2 : more.length ≤ 9223372036854775807) : DCalls Try.prog 12 [.d (.list (codeD code)), .d (.list (codeD more))] fun y => y = .bool true := by
  refine dcalls_intro Ty.mixed Try.func12 rfl rfl rfl [] (by kernel_rfl) (by simp) ?_
  simp [codeD_lenD]
  intro h20 h21
  refine .tdat (c_DrawDfaApart code) rfl (by simp) ?_
  rintro _ ⟨a, b, rfl, ha, hb⟩
  have hfa := ha.fine
  have hfb := hb.fine
  simp [Df.d]
  refine .tdat (c_DfaApart a b hfa hfb) rfl (by simp [Df.d]) ?_
  rintro _ ⟨x, ok, rfl, hX⟩
  have hxf := hX.fine
  simp [Df.d]
  refine .tdat (c_sDfaApart a b hfa hfb) rfl (by simp [Df.d]) ?_
  rintro _ ⟨x', ok', rfl, hX'⟩
  obtain ⟨rfl, rfl⟩ := hX.uniq hX'
  have hsl := hX.slim
  simp [Df.d]
  refine .dval (c_sameDfa x hsl) rfl (by simp [Df.d]) rfl ?_
  simp
  refine ⟨fun hno => ?_, fun hyes => ?_⟩
  · subst hno
    have := hX.none rfl
    subst this
    simp
    refine .flat (fun _ => c_alive) rfl (by simp) rfl (by simp) ?_
    simp
  · subst hyes
    obtain ⟨o1, o2, o3, o4⟩ := hX.lang rfl
    refine .ddat (c_DrawWordRk more) rfl (by simp) ?_
    rintro _ ⟨s, rfl, hs⟩
    simp
    refine .tdat (c_FirstOf x hxf) rfl (by simp [Df.d]) ?_
    rintro _ ⟨w, some, rfl, hF⟩
    simp
    refine .tdat (c_FirstDiffer a b hfa hfb) rfl (by simp [Df.d]) ?_
    rintro _ ⟨v, differ, rfl, hG⟩
    obtain ⟨rfl, rfl⟩ : w = v ∧ some = differ := by
      rcases hF with ⟨_, h, _⟩ | ⟨h, _⟩
      · rcases hG with ⟨_, g⟩ | ⟨g, _⟩
        · exact (h.congr fun u hu => by rw [acc_lang, o4 _ (l3_ltr hu), acc_lang, acc_lang]).uniq g
        · exact absurd ⟨o1, o2⟩ g
      · rw [o3.ok] at h; cases h
    have hacc : accDf x s = (accDf a s != accDf b s) := by
      cases hw : wordOk s with
      | true => exact hX.acc rfl hw
      | false => rw [accDf_bad x hw, accDf_bad a hw, accDf_bad b hw]; rfl
    simp
    refine AnyVC.pre (Wk.mk (slots := [(5, .ptr 500 0), (6, .ptr 600 0), (7, .ptr 700 0), (11, sA s), (12, sA w), (13, .d (.bool some)), (14, sA w), (15, .d (.bool some))]) (heap := [(500, .bx [.d (rowsD a.next), .d (bsD a.ends)]), (600, .bx [.d (rowsD b.next), .d (bsD b.ends)]), (700, .bx [.d (rowsD x.next), .d (bsD x.ends)])]) (used := [500, 600, 700]) (by simp) (by simp)) ?_
    refine .one (sch [.pur 0, .pur 1, .pur 3, .pur 4, .pur 6, .pur 7, .eff 2 [3, 4, 6, 7], .eff 5 [6, 7], .eff 8 [], .pur 9, .pur 10, .pur 11, .pur 12, .pur 13, .pur 14, .pur 15, .pur 16, .pur 17, .pur 18, .pur 19, .pur 20, .pur 21]) (by kernel_rfl) ?_
    simp
    refine .dval (c_DfaAccepts x s hxf (by omega)) rfl (by simp [Df.d]) rfl ?_
    simp
    refine .dval (c_DfaAccepts a s hfa (by omega)) rfl (by simp [Df.d]) rfl ?_
    simp
    refine .dval (c_DfaAccepts b s hfb (by omega)) rfl (by simp [Df.d]) rfl ?_
    simp [hacc]
    rfl
end Go.Fw
