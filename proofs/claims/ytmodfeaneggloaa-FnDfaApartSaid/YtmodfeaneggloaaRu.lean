/- The witness that differs, on both sides. -/
import Derived.Test.YtmodfeaneggloaaQg
set_option linter.unusedSimpArgs false
set_option linter.unusedVariables false
namespace Go.Fw
open Go Go.Proofs
set_option linter.unusedSectionVars false
set_option linter.unnecessarySimpa false

def DifR (a b : Df) (r : List D) : Prop := ∃ (s : List UInt8) (ok : Bool), r = [sD s, .bool ok] ∧ (((okDf a = true ∧ okDf b = true) ∧ FirstW (fun v => a.acc v != b.acc v) s ok) ∨ (¬ (okDf a = true ∧ okDf b = true) ∧ s = [] ∧ ok = false))
theorem c_FirstDiffer (a b : Df) (ha : a.fine) (hb : b.fine) : TCalls Try.prog 35 [.d a.d, .d b.d] (DifR a b) := by
  refine tcalls_intro Ty.mixed Try.func35 rfl rfl rfl [2, 3] (by kernel_rfl) (by simp) ?_
  simp [Df.d]
  refine .dval (c_DfaValid a ha) rfl (by simp [Df.d]) rfl ?_
  simp
  refine .flat (fun _ => c_DfaValid b hb) rfl (by simp [Df.d]) rfl (by simp) ?_
  simp
  refine ⟨fun hno => ⟨[], false, rfl, .inr ⟨fun ⟨h1, h2⟩ => by rw [h1, h2] at hno; simp at hno, rfl, rfl⟩⟩, fun h1 h2 => ?_⟩
  refine .tdat (c_differ a b h1 h2) rfl (by simp [Df.d]) ?_
  rintro _ ⟨s, ok, rfl, hF⟩
  simp
  exact ⟨s, ok, rfl, .inl ⟨⟨h1, h2⟩, hF⟩⟩
theorem c_sFirstDiffer (a b : Df) (ha : a.fine) (hb : b.fine) : TCalls Try.prog 36 [.d a.d, .d b.d] (DifR a b) := by
  refine tcalls_intro Ty.mixed Try.func36 rfl rfl rfl [2, 3] (by kernel_rfl) (by simp) ?_
  simp [Df.d]
  refine .dval (c_sDfaValid a ha) rfl (by simp [Df.d]) rfl ?_
  simp
  refine .flat (fun _ => c_sDfaValid b hb) rfl (by simp [Df.d]) rfl (by simp) ?_
  simp
  refine ⟨fun hno => ⟨[], false, rfl, .inr ⟨fun ⟨h1, h2⟩ => by rw [h1, h2] at hno; simp at hno, rfl, rfl⟩⟩, fun h1 h2 => ?_⟩
  refine .tdat (c_l16First a b 3 h1 h2) rfl (by simp [Df.d]) ?_
  rintro _ ⟨s, ok, rfl, hF⟩
  simp
  exact ⟨s, ok, rfl, .inl ⟨⟨h1, h2⟩, hF.congr fun v _ => by rw [fin16_acc]; cases a.acc v <;> cases b.acc v <;> rfl⟩⟩
theorem DifR.uniq {a b : Df} {s s' : List UInt8} {ok ok' : Bool} (hE : ((okDf a = true ∧ okDf b = true) ∧ FirstW (fun v => a.acc v != b.acc v) s ok) ∨ (¬ (okDf a = true ∧ okDf b = true) ∧ s = [] ∧ ok = false))
    (hE' : ((okDf a = true ∧ okDf b = true) ∧ FirstW (fun v => a.acc v != b.acc v) s' ok') ∨ (¬ (okDf a = true ∧ okDf b = true) ∧ s' = [] ∧ ok' = false)) : s = s' ∧ ok = ok' := by
  rcases hE with ⟨h1, h2⟩ | ⟨h1, rfl, rfl⟩ <;> rcases hE' with ⟨g1, g2⟩ | ⟨g1, rfl, rfl⟩
  · exact h2.uniq g2
  · exact absurd h1 g1
  · exact absurd g1 h1
  · exact ⟨rfl, rfl⟩
theorem dif_swap {a b : Df} {s : List UInt8} {ok : Bool} (hE : ((okDf a = true ∧ okDf b = true) ∧ FirstW (fun v => a.acc v != b.acc v) s ok) ∨ (¬ (okDf a = true ∧ okDf b = true) ∧ s = [] ∧ ok = false)) :
    ((okDf b = true ∧ okDf a = true) ∧ FirstW (fun v => b.acc v != a.acc v) s ok) ∨ (¬ (okDf b = true ∧ okDf a = true) ∧ s = [] ∧ ok = false) := by
  rcases hE with ⟨h1, h2⟩ | ⟨h1, h2⟩
  · exact .inl ⟨h1.symm, h2.congr fun v _ => by cases a.acc v <;> cases b.acc v <;> rfl⟩
  · exact .inr ⟨fun h => h1 h.symm, h2⟩
end Go.Fw
