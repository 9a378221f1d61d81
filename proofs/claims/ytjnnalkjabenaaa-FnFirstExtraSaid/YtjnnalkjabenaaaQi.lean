/- The law about extra words. -/
import Derived.Test.YtjnnalkjabenaaaQh
import Derived.Test.YtjnnalkjabenaaaOm
set_option linter.unusedSimpArgs false
set_option linter.unusedVariables false
namespace Go.Fw
open Go Go.Proofs
set_option linter.unusedSectionVars false
set_option linter.unnecessarySimpa false

theorem ex_same {a b : Df} {s t : List UInt8} {ok back : Bool} (h : FirstW (fun v => a.acc v && !b.acc v) s ok) (h' : FirstW (fun v => b.acc v && !a.acc v) t back) : (!ok && !back) = true ↔ ∀ w, w.all isL = true → a.acc w = b.acc w := by
  constructor
  · intro ho w hw
    simp only [Bool.and_eq_true, Bool.not_eq_true'] at ho
    obtain ⟨rfl, rfl⟩ := ho
    rcases h with ⟨h, _⟩ | ⟨_, _, h⟩
    · cases h
    · rcases h' with ⟨h', _⟩ | ⟨_, _, h'⟩
      · cases h'
      · have e1 := h w hw
        have e2 := h' w hw
        simp only at e1 e2
        cases h1 : a.acc w <;> cases h2 : b.acc w <;> simp [h1, h2] at e1 e2 ⊢
  · intro hs
    rcases h with ⟨_, h1, h2, _⟩ | ⟨rfl, _, _⟩
    · simp [hs s h1] at h2
    · rcases h' with ⟨_, h1, h2, _⟩ | ⟨rfl, _, _⟩
      · simp [hs t h1] at h2
      · rfl

set_option maxRecDepth 100000 in
theorem c_FnFirstExtra (code : List UInt8) (hl : code.length ≤ 9223372036854775807) : DCalls Try.prog 8 [.d (.list (codeD code))] fun y => y = .bool true := by
  refine dcalls_intro Ty.mixed Try.func8 rfl rfl rfl [] (by kernel_rfl) (by simp) ?_
  simp [codeD_lenD]
  intro h20
  refine .tdat (c_DrawFirstExtra code) rfl (by simp) ?_
  rintro _ ⟨a, b, rfl, ha, hb⟩
  have hfa := ha.fine
  have hfb := hb.fine
  simp [Df.d]
  refine .tdat (c_FirstExtra a b hfa hfb) rfl (by simp [Df.d]) ?_
  rintro _ ⟨s, ok, rfl, hE⟩
  simp
  refine .tdat (c_sFirstExtra a b hfa hfb) rfl (by simp [Df.d]) ?_
  rintro _ ⟨s', ok', rfl, hE'⟩
  have hu : s = s' ∧ ok = ok' := by
    rcases hE with ⟨h1, h2⟩ | ⟨h1, rfl, rfl⟩ <;> rcases hE' with ⟨g1, g2⟩ | ⟨g1, rfl, rfl⟩
    · exact h2.uniq g2
    · exact absurd h1 g1
    · exact absurd g1 h1
    · exact ⟨rfl, rfl⟩
  obtain ⟨rfl, rfl⟩ := hu
  simp
  refine .dval (c_sDfaValid a hfa) rfl (by simp [Df.d]) rfl ?_
  simp
  refine .flat (fun _ => c_sDfaValid b hfb) rfl (by simp [Df.d]) rfl (by simp) ?_
  simp
  refine ⟨fun hno => ?_, fun h1 h2 => ?_⟩
  · rcases hE with ⟨⟨h1, h2⟩, _⟩ | ⟨_, rfl, rfl⟩
    · rw [h1, h2] at hno; simp at hno
    · simp
      refine .flat (fun _ => c_alive) rfl (by simp) rfl (by simp) ?_
      simp
  · have hF : FirstW (fun v => a.acc v && !b.acc v) s ok := by
      rcases hE with ⟨_, h⟩ | ⟨h, _⟩
      · exact h
      · exact absurd ⟨h1, h2⟩ h
    refine .tdat (c_FirstExtra b a hfb hfa) rfl (by simp [Df.d]) ?_
    rintro _ ⟨t, back, rfl, hB⟩
    have hG : FirstW (fun v => b.acc v && !a.acc v) t back := by
      rcases hB with ⟨_, h⟩ | ⟨h, _⟩
      · exact h
      · exact absurd ⟨h2, h1⟩ h
    have hsl : DCalls Try.prog 30 [.d a.d, .d b.d] fun y => y = .bool (!ok && !back) := ACalls.mono (c_SameLanguage a b hfa hfb) fun x _ res ⟨⟨r, e, v, e2, h⟩, hr⟩ => ⟨⟨.bool (!ok && !back), by
      rw [e, e2, Bool.eq_iff_iff.2 ((h ⟨h1, h2⟩).trans (ex_same hF hG).symm)], rfl⟩, hr⟩
    simp
    refine .flat (fun hg => c_DfaAccepts a s hfa (by simp at hg; omega)) rfl (by simp [Df.d]) rfl (by simp) ?_
    simp
    refine .flat (fun hg => c_DfaAccepts b s hfb (by simp at hg; omega)) rfl (by simp [Df.d]) rfl (by simp) ?_
    simp
    have hmid : (ok = false ∨ 8 < (s.length : Int)) ∨ accDf a s = true ∧ accDf b s = false := by
      rcases hF with ⟨_, g1, g2, _⟩ | ⟨h, _⟩
      · by_cases h8 : 8 < (s.length : Int)
        · exact .inl (.inr h8)
        · have hw : wordOk s = true := by
            simp only [wordOk, lettersOk, Bool.and_eq_true, decide_eq_true_eq]
            exact ⟨g1, by omega⟩
          rw [accDf_of h1 hw, accDf_of h2 hw]
          simp only [Bool.and_eq_true, Bool.not_eq_true'] at g2
          exact .inr g2
      · exact .inl (.inl h)
    refine ⟨fun e1 e2 => ⟨⟨e1, e2⟩, fun e3 => ⟨⟨e1, e2⟩, e3⟩⟩, fun e => ⟨e, fun e2 => ⟨e, e2⟩⟩, ?_⟩
    refine .flat (fun _ => hsl) rfl (by simp [Df.d]) rfl (by simp) ?_
    simp
    exact hmid
end Go.Fw
