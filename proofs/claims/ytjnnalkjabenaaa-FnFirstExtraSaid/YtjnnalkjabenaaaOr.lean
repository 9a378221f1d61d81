/- The laws about the words of trimmed and of smallest automata. -/
import Derived.Test.YtjnnalkjabenaaaOm
import Derived.Test.YtjnnalkjabenaaaOp
set_option linter.unusedSimpArgs false
set_option linter.unusedVariables false
namespace Go.Fw
open Go Go.Proofs
set_option linter.unusedSectionVars false
set_option linter.unnecessarySimpa false

theorem l3_ltr {s : List UInt8} (h : s.all isL = true) : l3 (s.map ltr) := by
  intro c hc
  obtain ⟨b, hb, rfl⟩ := List.mem_map.1 hc
  rw [List.all_eq_true] at h
  have := ltr_of (h b hb)
  omega
theorem acc_lang (a : Df) (s : List UInt8) : a.acc s = a.lang 0 (s.map ltr) := by
  unfold Df.acc Df.run Df.lang langS
  rw [List.foldl_map]
theorem Same.acc {a b : Df} (h : Same (a.lang 0) (b.lang 0)) {s : List UInt8} (hs : s.all isL = true) : a.acc s = b.acc s := by
  rw [acc_lang, acc_lang]; exact h _ (l3_ltr hs)
theorem accDf_of {a : Df} {s : List UInt8} (h : okDf a = true) (hs : wordOk s = true) : accDf a s = a.acc s := by simp [accDf, h, hs]
theorem accDf_no {a : Df} {s : List UInt8} (h : ¬ (okDf a = true ∧ wordOk s = true)) : accDf a s = false := by
  unfold accDf
  cases h1 : okDf a <;> cases h2 : wordOk s <;> simp
  exact absurd ⟨h1, h2⟩ h
theorem accDf_same {a b : Df} (ha : okDf a = true) (hb : okDf b = true) (h : Same (a.lang 0) (b.lang 0)) (s : List UInt8) : accDf a s = accDf b s := by
  cases hs : wordOk s with
  | false => rw [accDf_no (by simp [hs]), accDf_no (by simp [hs])]
  | true => rw [accDf_of ha hs, accDf_of hb hs, h.acc (letters_all hs)]

set_option maxRecDepth 100000 in
theorem c_FnDfaAccepts (code : List UInt8) (hl : code.length ≤ 9223372036854775807) : DCalls Try.prog 5 [.d (.list (codeD code))] fun y => y = .bool true := by
  refine dcalls_intro Ty.mixed Try.func5 rfl rfl rfl [] (by kernel_rfl) (by simp) ?_
  simp [codeD_lenD]
  intro h20
  refine .tdat (c_DrawDfaAccepts code) rfl (by simp) ?_
  rintro _ ⟨a, s, rfl, ha, hs⟩
  have hf := ha.fine
  simp [Df.d]
  refine .dval (c_DfaAccepts a s hf (by omega)) rfl (by simp [Df.d]) rfl ?_
  simp
  refine .dval (c_sDfaAccepts a s hf (by omega)) rfl (by simp [Df.d]) rfl ?_
  simp
  refine .dval (c_DfaRun a 0 s hf (by omega)) rfl (by simp [Df.d]) rfl ?_
  simp
  rcases runDf_cases a 0 s with ⟨h1, h2, h3, e, h4⟩ | ⟨e, hno⟩
  · have hr := fin_row h1 h4
    have hacc : accDf a s = a.fin (a.run 0 s) := accDf_of h1 h2
    rw [e, hacc]
    have k1 := h4.1
    have k2 := (okDf_len h1).2.2
    have k3 := h4.2
    simp [hr, show ¬ (a.run 0 s < 0) by omega, show ¬ ((a.ends.length : Int) ≤ a.run 0 s) by omega, show a.run 0 s < a.ends.length by omega]
    refine .go (by kernel_rfl) (by simp) (fun _ => ?_) (by simp)
    simp
    refine .ddat (c_DfaTrimI a hf) rfl (by simp [Df.d]) ?_
    rintro _ ⟨x, rfl, ⟨_, hx⟩ | ⟨hx, _⟩⟩
    · have hxo := hx.ok h1
      have hax : accDf x s = a.fin (a.run 0 s) := by rw [← hacc]; exact accDf_same hxo h1 hx.lang s
      simp [Df.d]
      refine .flat (fun _ => c_DfaAccepts x s (fine_of_okDf hxo) (by omega)) rfl (by simp [Df.d]) rfl (by simp) ?_
      rw [hax]
      simp
    · rw [h1] at hx; cases hx
  · have hacc : accDf a s = false := accDf_no (fun h => hno ⟨h.1, h.2, st0 h.1⟩)
    rw [e, hacc]
    simp
    refine .flat (fun _ => c_alive) rfl (by simp) rfl (by simp) ?_
    simp

set_option maxRecDepth 100000 in
theorem c_FnMinimizeAccepts (code : List UInt8) (hl : code.length ≤ 9223372036854775807) : DCalls Try.prog 7 [.d (.list (codeD code))] fun y => y = .bool true := by
  refine dcalls_intro Ty.mixed Try.func7 rfl rfl rfl [] (by kernel_rfl) (by simp) ?_
  simp [codeD_lenD]
  intro h20
  refine .tdat (c_DrawDfaAccepts code) rfl (by simp) ?_
  rintro _ ⟨a, s, rfl, ha, hs⟩
  have hf := ha.fine
  simp [Df.d]
  refine .dval (c_DfaAccepts a s hf (by omega)) rfl (by simp [Df.d]) rfl ?_
  simp
  refine .dval (c_sDfaAccepts a s hf (by omega)) rfl (by simp [Df.d]) rfl ?_
  simp
  refine .ddat (c_Minimize a hf) rfl (by simp [Df.d]) ?_
  rintro _ ⟨x, rfl, hx⟩
  have hxf : x.fine := by
    rcases hx with ⟨_, hx⟩ | ⟨_, rfl⟩
    · exact fine_of_okDf hx.1.ok
    · exact ⟨by simp, by simp, by simp⟩
  have hacc : accDf x s = accDf a s := by
    rcases hx with ⟨h1, hx⟩ | ⟨h1, rfl⟩
    · exact accDf_same hx.1.ok h1 hx.2 s
    · have hz : okDf ⟨[], []⟩ = false := by decide
      have e1 := accDf_no (a := ⟨[], []⟩) (s := s) (by rw [hz]; simp)
      have e2 := accDf_no (a := a) (s := s) (by rw [h1]; simp)
      rw [e1, e2]
  simp [Df.d]
  refine .dval (c_DfaAccepts x s hxf (by omega)) rfl (by simp [Df.d]) rfl ?_
  rw [hacc]
  simp
  refine .flat (fun _ => c_alive) rfl (by simp) rfl (by simp) ?_
  simp
end Go.Fw
