/- Beginnings of words, on both sides. -/
import Derived.Test.YtpecepipllbghaaQc
import Derived.Test.YtpecepipllbghaaRc
import Derived.Test.YtpecepipllbghaaRd
import Derived.Test.YtpecepipllbghaaOp
set_option linter.unusedSimpArgs false
set_option linter.unusedVariables false
namespace Go.Fw
open Go Go.Proofs
set_option linter.unusedSectionVars false
set_option linter.unnecessarySimpa false

theorem l3_wordS : ∀ {w : List Int}, l3 w → ∃ s : List UInt8, s.all isL = true ∧ s.map ltr = w
  | [], _ => ⟨[], rfl, rfl⟩
  | c :: w, h => by
    rw [l3_cons] at h
    obtain ⟨s, h1, h2⟩ := l3_wordS h.2
    obtain ⟨hb1, hb2⟩ := lt3_ok (c := c.toNat) (by omega)
    exact ⟨lt3 c.toNat :: s, by simp only [List.all_cons, hb1, h1]; rfl, by rw [List.map_cons, h2, hb2, Int.toNat_of_nonneg h.1.1]⟩
def StartsIs (a x : Df) : Prop := (okDf a = true ∧ Canon x ∧ ∀ s : List UInt8, s.all isL = true → (x.acc s = true ↔ usef a (a.run 0 s))) ∨ (okDf a = false ∧ x = ⟨[], []⟩)
theorem same_of_words {a b : Df} (h : ∀ s : List UInt8, s.all isL = true → (a.acc s = true ↔ b.acc s = true)) : Same (a.lang 0) (b.lang 0) := fun w hw => by
  obtain ⟨s, h1, rfl⟩ := l3_wordS hw
  rw [← acc_lang, ← acc_lang]
  exact Bool.eq_iff_iff.2 (h s h1)
theorem StartsIs.uniq {a x y : Df} (h : StartsIs a x) (h' : StartsIs a y) : x = y := by
  rcases h with ⟨h1, h2, h3⟩ | ⟨h1, rfl⟩ <;> rcases h' with ⟨g1, g2, g3⟩ | ⟨g1, rfl⟩
  · exact h2.uniq g2 (same_of_words fun s hs => (h3 s hs).trans (g3 s hs).symm)
  · rw [h1] at g1; cases g1
  · rw [h1] at g1; cases g1
  · rfl
theorem StartsIs.fine {a x : Df} (h : StartsIs a x) : x.fine := by
  rcases h with ⟨_, h3, _⟩ | ⟨_, rfl⟩
  · exact fine_of_okDf h3.ok
  · exact ⟨by simp, by simp, by simp⟩
theorem StartsIs.slim {a x : Df} (h : StartsIs a x) : x.slim := by
  rcases h with ⟨_, h3, _⟩ | ⟨_, rfl⟩
  · exact slim_of h3.ok
  · exact slim_nil
theorem StartsIs.ok {a x : Df} (h : StartsIs a x) (h1 : okDf a = true) : Canon x ∧ ∀ s : List UInt8, s.all isL = true → (x.acc s = true ↔ usef a (a.run 0 s)) := by
  rcases h with ⟨_, h⟩ | ⟨h, _⟩
  · exact h
  · rw [h1] at h; cases h
theorem stB_ok {a : Df} (h : okDf a = true) {B : List Bool} (hB : UfS a B) : okDf ⟨a.next, B⟩ = true := by
  have := hB.len
  have h2 := (okDf_len h).2.2
  simp only [okDf, Bool.and_eq_true, decide_eq_true_eq] at h ⊢
  exact ⟨h.1, by omega⟩
theorem starts_of {a x : Df} (h : okDf a = true) {B : List Bool} (hB : UfS a B) (hC : ClosedU a B) (hx : IsMin ⟨a.next, B⟩ x) : StartsIs a x := by
  refine .inl ⟨h, hx.1, fun s hs => ?_⟩
  have hst := run_st h (st0 h) hs
  have hq : (a.run 0 s).toNat < a.next.length := by have := hst.1; have := hst.2; omega
  have e := useful_iff h hB hC hq
  rw [Int.toNat_of_nonneg hst.1] at e
  rw [acc_lang, hx.2 _ (l3_ltr hs), ← acc_lang, ← e]
  rfl
/-- Of beginnings. -/
theorem usef_app {a : Df} {q : Int} : ∀ (s : List UInt8) {q : Int}, s.all isL = true → usef a (a.run q s) → usef a q := fun s q hs h => by
  obtain ⟨w, h1, h2⟩ := h
  refine ⟨s ++ w, by rw [List.all_append, hs, h1]; rfl, ?_⟩
  rw [run_app]; exact h2
theorem StartsIs.twice {a x y : Df} (ha : okDf a = true) (h : StartsIs a x) (h' : StartsIs x y) : y = x := by
  obtain ⟨h1, h2⟩ := h.ok ha
  obtain ⟨g1, g2⟩ := h'.ok h1.ok
  refine g1.uniq h1 (same_of_words fun s hs => ?_)
  rw [g2 s hs, h2 s hs]
  have key : ∀ w : List UInt8, w.all isL = true → (x.fin (x.run (x.run 0 s) w) = true ↔ usef a (a.run (a.run 0 s) w)) := fun w hw => by
    have := h2 (s ++ w) (by rw [List.all_append, hs, hw]; rfl)
    rw [run_app] at this
    rw [← this]
    unfold Df.acc
    rw [run_app]
  constructor
  · rintro ⟨w, w1, w2⟩
    exact usef_app (a := a) (q := 0) w w1 ((key w w1).1 w2)
  · intro hu
    exact ⟨[], rfl, (key [] rfl).2 hu⟩

set_option maxRecDepth 100000 in
theorem c_DfaStarts (a : Df) (hf : a.fine) : DCalls Try.prog 24 [.d a.d] fun r => ∃ x : Df, r = x.d ∧ StartsIs a x := by
  refine dcalls_intro Ty.mixed Try.func24 rfl rfl rfl [1] (by kernel_rfl) (by simp) ?_
  simp [Df.d]
  refine .dval (c_DfaValid a hf) rfl (by simp [Df.d]) rfl ?_
  simp
  refine ⟨fun hno => ⟨⟨[], []⟩, ⟨rfl, rfl⟩, .inr ⟨hno, rfl⟩⟩, fun h1 => ?_⟩
  refine .one (sch [.pur 0, .pur 1, .pur 2, .eff 3 [0, 1], .pur 4, .eff 5 [], .eff 6 []]) (by kernel_rfl) ?_
  simp
  refine .ddat (c_leading a h1) rfl (by simp [Df.d]) ?_
  rintro _ ⟨B, rfl, hB, hC⟩
  simp
  refine .ddat (c_minimize ⟨a.next, B⟩ (stB_ok h1 hB)) rfl (by simp [Df.d]) ?_
  rintro _ ⟨x, rfl, hx⟩
  simp [Df.d]
  exact ⟨x, ⟨rfl, rfl⟩, starts_of h1 hB hC hx⟩
set_option maxRecDepth 100000 in
theorem c_sDfaStarts (a : Df) (hf : a.fine) : DCalls Try.prog 26 [.d a.d] fun r => ∃ x : Df, r = x.d ∧ StartsIs a x := by
  refine dcalls_intro Ty.mixed Try.func26 rfl rfl rfl [1] (by kernel_rfl) (by simp) ?_
  simp [Df.d]
  refine .dval (c_sDfaValid a hf) rfl (by simp [Df.d]) rfl ?_
  simp
  refine ⟨fun hno => ⟨⟨[], []⟩, ⟨rfl, rfl⟩, .inr ⟨hno, rfl⟩⟩, fun h1 => ?_⟩
  refine .one (sch [.pur 0, .pur 1, .pur 2, .eff 3 [0, 1], .pur 4, .eff 5 [], .eff 6 []]) (by kernel_rfl) ?_
  simp
  refine .freshS 1100 (s_l14Useful a h1) (by omega) (by simp) rfl (by simp [Df.d]) ?_
  rintro _ _ ⟨rfl, B, rfl, hB, hC⟩
  simp
  refine .ddropE (c_l10Small ⟨a.next, B⟩ (stB_ok h1 hB)) rfl (by simp [Df.d]; try exact List.take_of_length_le (by simp)) (by simp) ?_
  rintro _ ⟨x, rfl, hx⟩
  simp [Df.d]
  exact ⟨x, ⟨rfl, rfl⟩, starts_of h1 hB hC hx⟩
end Go.Fw
