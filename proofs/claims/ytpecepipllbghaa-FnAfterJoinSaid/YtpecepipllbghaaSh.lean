/- The law about what follows two words. -/
import Derived.Test.YtpecepipllbghaaSf
set_option linter.unusedSimpArgs false
set_option linter.unusedVariables false
namespace Go.Fw
open Go Go.Proofs
set_option linter.unusedSectionVars false
set_option linter.unnecessarySimpa false

theorem lang_run (a : Df) (q : Int) (v : List UInt8) (w : List Int) : a.lang (a.run q v) w = a.lang q (v.map ltr ++ w) := by
  unfold Df.lang langS Df.run
  rw [List.foldl_append, List.foldl_map]
theorem AfterIs.join {a x y z : Df} {u v : List UInt8} (ha : okDf a = true) (hu : wordOk u = true) (hv : wordOk v = true) (hs : wordOk (u ++ v) = true) (hx : AfterIs a (u ++ v) x) (hy : AfterIs a u y) (hz : AfterIs y v z) : z = x := by
  obtain ⟨x1, x2⟩ := hx.ok ha hs
  obtain ⟨y1, y2⟩ := hy.ok ha hu
  obtain ⟨z1, z2⟩ := hz.ok y1.ok hv
  refine z1.uniq x1 (z2.trans fun w hw => ?_)
  have hl : l3 (v.map ltr ++ w) := fun c hc => by
    rcases List.mem_append.1 hc with hc | hc
    · exact l3_ltr (letters_all hv) c hc
    · exact hw c hc
  rw [lang_run, y2 _ hl, x2 w hw, run_app]
  exact (lang_run a (a.run 0 u) v w).symm
set_option maxRecDepth 100000 in
theorem c_FnAfterJoin (code : List UInt8) (hl : code.length ≤ 9223372036854775807) : DCalls Try.prog 8 [.d (.list (codeD code))] fun y => y = .bool true := by
  refine dcalls_intro Ty.mixed Try.func8 rfl rfl rfl [] (by kernel_rfl) (by simp) ?_
  simp [codeD_lenD]
  intro h20
  refine .tdat (c_DrawDfaAfter code) rfl (by simp) ?_
  rintro _ ⟨a, s, rfl, ha, hs⟩
  have hf := ha.fine
  simp [Df.d]
  refine .ddat (c_DfaAfter a s hf (by omega)) rfl (by simp [Df.d]) ?_
  rintro _ ⟨x, rfl, hX⟩
  have hxf := hX.fine
  have hxs := hX.slim
  simp [Df.d]
  refine .one (sch [.pur 0, .pur 1, .pur 2, .eff 3 [0], .eff 4 [], .pur 5]) (by kernel_rfl) ?_
  simp
  refine .ddat (c_sDfaAfter a s hf (by omega)) rfl (by simp [Df.d]) ?_
  rintro _ ⟨x', rfl, hX'⟩
  obtain rfl := hX.uniq hX'
  simp [Df.d]
  refine .dval (c_sameDfa x hxs) rfl (by simp [Df.d]) rfl ?_
  simp
  refine .dval (c_sDfaValid a hf) rfl (by simp [Df.d]) rfl ?_
  simp
  refine .flat (fun _ => c_sWordValid s (by omega)) rfl (by simp) rfl (by simp) ?_
  simp
  refine ⟨fun hno => ?_, fun hok hw => ?_⟩
  · refine .dval c_alive rfl (by simp) rfl ?_
    simp
  · have hl8 := letters_len hw
    have hH : IntKind.i64.wrap ((s.length : Int) / 2) = ((s.length / 2 : Nat) : Int) := by rw [wrap64 (by omega) (by omega)]; omega
    have hHs : s.length / 2 ≤ s.length := by omega
    generalize s.length / 2 = H at *
    have t1 : wordOk (s.take H) = true := wordOk_take hw H
    have t2 : wordOk (s.drop H) = true := wordOk_drop hw H
    have hts : s.take H ++ s.drop H = s := List.take_append_drop H s
    simp [hH]
    refine .one (sch [.pur 0, .pur 1, .pur 2, .pur 3, .pur 5, .pur 6, .pur 7, .pur 9, .eff 4 [5, 6, 7, 9], .eff 8 [9], .eff 10 [], .pur 11]) (by kernel_rfl) ?_
    simp [hH, hHs]
    refine .ddat (c_DfaAfter a (s.take H) hf (by simp; omega)) rfl (by simp [Df.d]) ?_
    rintro _ ⟨y, rfl, hY⟩
    have hyf := hY.fine
    simp [Df.d, hHs]
    refine .ddat (c_DfaAfter y (s.drop H) hyf (by simp; omega)) rfl (by simp [Df.d]) ?_
    rintro _ ⟨z, rfl, hZ⟩
    obtain rfl := AfterIs.join hok t1 t2 (by rw [hts]; exact hw) (by rw [hts]; exact hX) hY hZ
    simp [Df.d]
    refine .dval (c_sameDfa z hxs) rfl (by simp [Df.d]) rfl ?_
    simp
end Go.Fw
