/- The law about chains that are taken back. -/
import Derived.Test.YtpecepipllbghaaTh
import Derived.Test.YtpecepipllbghaaNb
import Derived.Test.YtpecepipllbghaaRd
set_option linter.unusedSimpArgs false
set_option linter.unusedVariables false
namespace Go.Fw
open Go Go.Proofs
set_option linter.unusedSectionVars false
set_option linter.unnecessarySimpa false

theorem l3_wordC : ∀ {w : List Int}, l3 w → ∃ s : List UInt8, s.all isL = true ∧ s.map ltr = w
  | [], _ => ⟨[], rfl, rfl⟩
  | c :: w, h => by
    rw [l3_cons] at h
    obtain ⟨s, h1, h2⟩ := l3_wordC h.2
    obtain ⟨⟨h0, h3⟩, _⟩ := h
    obtain ⟨b, hb1, hb2⟩ : ∃ b, isL b = true ∧ ltr b = c := by
      obtain rfl | rfl | rfl : c = 0 ∨ c = 1 ∨ c = 2 := by omega
      · exact ⟨97, by decide, by decide⟩
      · exact ⟨98, by decide, by decide⟩
      · exact ⟨99, by decide, by decide⟩
    exact ⟨b :: s, by simp only [List.all_cons, hb1, h1]; rfl, by rw [List.map_cons, h2, hb2]⟩
theorem back_chain {a b R : Rw} {d x y z : Df} (hR : ChainIs a b R true) (hx : BackIs R d x true) (hy : BackIs b d y true) (hz : BackIs a y z true) : z = x := by
  obtain ⟨ha, hb, hRo, _, htx⟩ := hR.good
  rcases hx.cases with ⟨_, _, _, x3, x4⟩ | ⟨h, _⟩
  · rcases hy.cases with ⟨_, _, _, y3, y4⟩ | ⟨h, _⟩
    · rcases hz.cases with ⟨_, _, _, z3, z4⟩ | ⟨h, _⟩
      · refine z3.uniq x3 fun w hw => ?_
        obtain ⟨s, h1, rfl⟩ := l3_wordC hw
        rw [← acc_lang, ← acc_lang, z4 s h1, y4 _ (text_letters ha (st0Rw ha) h1), x4 s h1, htx s h1]
      · cases h
    · cases h
  · cases h

set_option maxHeartbeats 800000 in
set_option maxRecDepth 100000 in
theorem c_FnBackChain (code more : List UInt8) (hl : code.length ≤ 9223372036854775807) (hl2 : more.length ≤ 9223372036854775807) : DCalls Try.prog 10 [.d (.list (codeD code)), .d (.list (codeD more))] fun y => y = .bool true := by
  refine dcalls_intro Ty.mixed Try.func10 rfl rfl rfl [] (by kernel_rfl) (by simp) ?_
  simp [codeD_len2]
  intro h20 h21
  refine .tdat (c_DrawChainRewriters code) rfl (by simp) ?_
  rintro _ ⟨a, b, rfl, hsa, hsb⟩
  have hfa := hsa.fine
  have hfb := hsb.fine
  simp [Rw.d]
  refine .ddat (c_DrawMinimize more) rfl (by simp) ?_
  rintro _ ⟨d, rfl, hd⟩
  have hdf := hd.fine
  simp [Df.d]
  refine .tdat (c_ChainRewriters a b hfa hfb) rfl (by simp [Rw.d]) ?_
  rintro _ ⟨R, ok, rfl, hR⟩
  simp [Rw.d]
  refine .tdat (c_sChainRewriters a b hfa hfb) rfl (by simp [Rw.d]) ?_
  rintro _ ⟨Q, ok', rfl, hQ⟩
  obtain ⟨e1, e2⟩ := hR.uniq hQ
  subst e1
  subst e2
  have hRf := hR.fine
  simp [Rw.d]
  refine .dval (c_sameRewriter R hR.reg) rfl (by simp [Rw.d]) rfl ?_
  simp
  refine .tdat (c_RewriteBack R d hRf hdf) rfl (by simp [Df.d, Rw.d]) ?_
  rintro _ ⟨x, good, rfl, hX⟩
  simp [Df.d]
  refine .tdat (c_RewriteBack b d hfb hdf) rfl (by simp [Df.d, Rw.d]) ?_
  rintro _ ⟨y, half, rfl, hY⟩
  have hyf := hY.fine
  simp [Df.d]
  refine .tdat (c_RewriteBack a y hfa hyf) rfl (by simp [Df.d, Rw.d]) ?_
  rintro _ ⟨z, whole, rfl, hZ⟩
  have hzs := hZ.slim
  simp [Df.d]
  by_cases hall : ok = true ∧ good = true ∧ half = true ∧ whole = true
  · obtain ⟨rfl, rfl, rfl, rfl⟩ := hall
    obtain rfl := back_chain hR hX hY hZ
    refine .flat (fun _ => c_sameDfa z hzs) rfl (by simp [Df.d]) rfl (by simp) ?_
    simp
    refine .flat (fun _ => c_alive) rfl (by simp) rfl (by simp) ?_
    simp
  · cases ok <;> cases good <;> cases half <;> cases whole <;> first
      | exact absurd ⟨rfl, rfl, rfl, rfl⟩ hall
      | (refine .go (by kernel_rfl) (by simp) (fun h => by simp at h) (fun _ => ?_)
         simp
         refine .flat (fun _ => c_alive) rfl (by simp) rfl (by simp) ?_
         simp)
end Go.Fw
