/- The law DfaEither. -/
import Derived.Test.YtmodfeaneggloaaRp
import Derived.Test.YtmodfeaneggloaaRc
import Derived.Test.YtmodfeaneggloaaRd
import Derived.Test.YtmodfeaneggloaaRe
import Derived.Test.YtmodfeaneggloaaRcn
set_option linter.unusedSimpArgs false
set_option linter.unusedVariables false
namespace Go.Fw
open Go Go.Proofs
set_option linter.unusedSectionVars false
set_option linter.unnecessarySimpa false

set_option maxRecDepth 100000 in
theorem c_FnDfaEither (code more : List UInt8) (hl : code.length ≤ 9223372036854775807) (hl2 : more.length ≤ 9223372036854775807) : DCalls Try.prog 11 [.d (.list (codeD code)), .d (.list (codeD more))] fun y => y = .bool true := by
  refine dcalls_intro Ty.mixed Try.func11 rfl rfl rfl [] (by kernel_rfl) (by simp) ?_
  simp [codeD_lenD]
  intro h20 h21
  refine .tdat (c_DrawDfaEither code) rfl (by simp) ?_
  rintro _ ⟨a, b, rfl, ha, hb⟩
  have hfa := ha.fine
  have hfb := hb.fine
  simp [Df.d]
  refine .tdat (c_DfaEither a b hfa hfb) rfl (by simp [Df.d]) ?_
  rintro _ ⟨x, ok, rfl, hX⟩
  have hxf := hX.fine
  simp [Df.d]
  refine .tdat (c_sDfaEither a b hfa hfb) rfl (by simp [Df.d]) ?_
  rintro _ ⟨x', ok', rfl, hX'⟩
  obtain ⟨rfl, rfl⟩ := hX.uniq hX'
  have hsl := hX.slim
  simp [Df.d]
  refine .dval (c_sameDfa x hsl) rfl (by simp [Df.d]) rfl ?_
  simp
  refine ⟨fun hno => ?_, fun hyes => ?_⟩
  · subst hno
    have := hX.none rfl
    subst this
    simp
    refine .flat (fun _ => c_alive) rfl (by simp) rfl (by simp) ?_
    simp
  · subst hyes
    obtain ⟨o1, o2, o3, o4⟩ := hX.lang rfl
    refine .tdat (c_DfaBoth a b hfa hfb) rfl (by simp [Df.d]) ?_
    rintro _ ⟨z, okz, rfl, hZ⟩
    have hzf := hZ.fine
    obtain rfl : okz = true := by
      cases okz with
      | true => rfl
      | false =>
        rcases hZ with ⟨_, ⟨h, _⟩ | ⟨_, _, k, hk⟩⟩ | ⟨h, _⟩
        · exact h
        · rcases hX with ⟨_, ⟨_, ⟨k', h1, h2⟩, _⟩ | ⟨h, _⟩⟩ | ⟨h, _⟩
          · exact (metK_over h1 h2 hk).elim
          · cases h
          · exact absurd ⟨o1, o2⟩ h
        · exact absurd ⟨o1, o2⟩ h
    obtain ⟨_, _, z3, z4⟩ := hZ.lang rfl
    have hcnt : cwDf x 9 + cwDf z 9 = cwDf a 9 + cwDf b 9 := by
      have h9 : inR 9 0 30 = true := by decide
      have e1 := cnt_sides 9 (a.lang 0) (b.lang 0)
      have e2 := cnt_congr 9 _ _ fun w hw _ => o4 w hw
      have e3 := cnt_congr 9 _ _ fun w hw _ => z4 w hw
      rw [cwDf, cwDf, cwDf, cwDf, o1, o2, o3.ok, z3.ok, h9]
      show cq x 9 0 + cq z 9 0 = cq a 9 0 + cq b 9 0
      unfold cq
      rw [e2, e3]; omega
    have hb9 : ∀ d : Df, -1 ≤ cwDf d 9 ∧ cwDf d 9 ≤ 205891132094649 := fun d => by
      unfold cwDf
      split
      · have := cq_bd d (k := (9 : Int).toNat) (by decide) 0; omega
      · omega
    have b1 := hb9 x
    have b2 := hb9 z
    have b3 := hb9 a
    have b4 := hb9 b
    simp [Df.d]
    refine .ddat (c_DrawWordRk more) rfl (by simp) ?_
    rintro _ ⟨s, rfl, hs⟩
    have hacc : accDf x s = (accDf a s || accDf b s) := by
      cases hw : wordOk s with
      | true => exact hX.acc rfl hw
      | false => rw [accDf_bad x hw, accDf_bad a hw, accDf_bad b hw]; rfl
    simp
    refine AnyVC.pre (Wk.mk (slots := [(5, .ptr 500 0), (6, .ptr 600 0), (7, .ptr 700 0), (11, .ptr 1100 0), (13, sA s)]) (heap := [(500, .bx [.d (rowsD a.next), .d (bsD a.ends)]), (600, .bx [.d (rowsD b.next), .d (bsD b.ends)]), (700, .bx [.d (rowsD x.next), .d (bsD x.ends)]), (1100, .bx [.d (rowsD z.next), .d (bsD z.ends)])]) (used := [500, 600, 700, 1100]) (by simp) (by simp)) ?_
    refine .one (sch [.pur 0, .pur 1, .pur 3, .pur 4, .eff 2 [3, 4], .eff 5 [], .pur 6, .pur 7, .pur 8, .eff 9 [], .pur 10, .pur 11, .pur 12, .pur 13, .pur 15, .pur 18, .pur 20, .eff 14 [15, 18, 20], .eff 16 [18, 20], .pur 17, .eff 19 [20, 17], .eff 21 [17], .pur 22, .pur 23, .pur 24, .pur 25]) (by kernel_rfl) ?_
    simp
    refine .dval (c_DfaAccepts x s hxf (by omega)) rfl (by simp [Df.d]) rfl ?_
    simp
    refine .dval (c_DfaAccepts a s hfa (by omega)) rfl (by simp [Df.d]) rfl ?_
    simp
    refine .flat (fun _ => c_DfaAccepts b s hfb (by omega)) rfl (by simp [Df.d]) rfl (by simp) ?_
    simp
    refine .flat (fun _ => c_CountWords x 9 hxf) rfl (by simp [Df.d]) rfl (by simp) ?_
    simp
    refine .flat (fun _ => c_CountWords z 9 hzf) rfl (by simp [Df.d]) rfl (by simp) ?_
    simp
    refine .flat (fun _ => c_CountWords a 9 hfa) rfl (by simp [Df.d]) rfl (by simp) ?_
    simp
    refine .flat (fun _ => c_CountWords b 9 hfb) rfl (by simp [Df.d]) rfl (by simp) ?_
    simp [hacc, hcnt]
end Go.Fw
