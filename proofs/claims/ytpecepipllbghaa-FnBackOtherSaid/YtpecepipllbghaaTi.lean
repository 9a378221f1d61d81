/- The law about other words that are taken back. -/
import Derived.Test.YtpecepipllbghaaTh
import Derived.Test.YtpecepipllbghaaRq
import Derived.Test.YtpecepipllbghaaLk
set_option linter.unusedSimpArgs false
set_option linter.unusedVariables false
namespace Go.Fw
open Go Go.Proofs
set_option linter.unusedSectionVars false
set_option linter.unnecessarySimpa false

set_option maxRecDepth 100000 in
theorem c_DrawRewriteBack (code : List UInt8) : TCalls Try.prog 34 [.d (.list (codeD code))] fun y => ∃ (r : Rw) (a : Df), y = [r.d, a.d] ∧ r.small ∧ a.tiny := by
  refine tcalls_intro Ty.mixed Try.func34 rfl rfl rfl [] (by kernel_rfl) (by simp) ?_
  simp
  refine .fresh 700 (c_l20Open code) (by omega) (by simp) rfl (by simp) ?_
  rintro _ ⟨code', rfl, hc⟩
  simp [rdB]
  refine .lend (b := rdB (codeD code') 0) (d_l20Rewriter code' (by omega) 0 14 (by omega) (by omega) (by omega)) (by simp [rdB]) (by simp) rfl (by simp) ?_
  rintro _ _ ⟨q, rfl, h1, h2, r, rfl, hr⟩
  simp [rdB, Rw.d]
  refine .one (sch [.pur 0, .pur 1, .eff 2 [0], .eff 3 [], .eff 4 []]) (by kernel_rfl) ?_
  simp
  refine .lend (b := rdB (codeD code') q) (d_l20Dfa code' (by omega) q 14 (by omega) (by omega) (by omega)) (by simp [rdB]) (by simp) rfl (by simp) ?_
  rintro _ _ ⟨q2, rfl, h3, h4, a, rfl, ha⟩
  simp [rdB, Df.d]
  exact ⟨r, a, ⟨⟨rfl, rfl, rfl⟩, rfl, rfl⟩, hr, ha⟩
theorem l3_wordB : ∀ {w : List Int}, l3 w → ∃ s : List UInt8, s.all isL = true ∧ s.map ltr = w
  | [], _ => ⟨[], rfl, rfl⟩
  | c :: w, h => by
    rw [l3_cons] at h
    obtain ⟨s, h1, h2⟩ := l3_wordB h.2
    obtain ⟨⟨h0, h3⟩, _⟩ := h
    obtain ⟨b, hb1, hb2⟩ : ∃ b, isL b = true ∧ ltr b = c := by
      obtain rfl | rfl | rfl : c = 0 ∨ c = 1 ∨ c = 2 := by omega
      · exact ⟨97, by decide, by decide⟩
      · exact ⟨98, by decide, by decide⟩
      · exact ⟨99, by decide, by decide⟩
    exact ⟨b :: s, by simp only [List.all_cons, hb1, h1]; rfl, by rw [List.map_cons, h2, hb2]⟩
theorem canon_words {x y : Df} (hx : Canon x) (hy : Canon y) (h : ∀ w : List UInt8, w.all isL = true → x.acc w = y.acc w) : x = y :=
  hx.uniq hy fun w hw => by
    obtain ⟨s, h1, rfl⟩ := l3_wordB hw
    rw [← acc_lang, ← acc_lang]; exact h s h1
theorem OtherIs.words {a x : Df} (ha : okDf a = true) (h : OtherIs a x) : Canon x ∧ ∀ w : List UInt8, w.all isL = true → x.acc w = !a.acc w := by
  obtain ⟨h1, h2⟩ := h.lang ha
  refine ⟨h1, fun w hw => ?_⟩
  rw [acc_lang, acc_lang, h2 _ (l3_ltr hw)]
theorem back_other {r : Rw} {d o x y z : Df} (hx : BackIs r d x true) (ho : OtherIs d o) (hy : BackIs r o y true) (hz : OtherIs x z) : y = z := by
  rcases hx.cases with ⟨_, h1, h2, h3, h4⟩ | ⟨h, _⟩
  · rcases hy.cases with ⟨_, g1, g2, g3, g4⟩ | ⟨h, _⟩
    · obtain ⟨o1, o2⟩ := ho.words h2
      obtain ⟨z1, z2⟩ := hz.words h3.ok
      refine canon_words g3 z1 fun w hw => ?_
      rw [g4 w hw, o2 _ (text_letters h1 (st0Rw h1) hw), z2 w hw, h4 w hw]
    · cases h
  · cases h
structure BG where
  y : Df
  ok : Bool

set_option maxHeartbeats 800000 in
set_option maxRecDepth 100000 in
theorem c_FnBackOther (code : List UInt8) (hl : code.length ≤ 9223372036854775807) : DCalls Try.prog 9 [.d (.list (codeD code))] fun y => y = .bool true := by
  refine dcalls_intro Ty.mixed Try.func9 rfl rfl rfl [] (by kernel_rfl) (by simp) ?_
  simp [codeD_lenD]
  intro h20
  refine .tdat (c_DrawRewriteBack code) rfl (by simp) ?_
  rintro _ ⟨r, d, rfl, hr, hd⟩
  have hrf := hr.fine
  have hdf := hd.fine
  simp [Df.d, Rw.d]
  refine .tdat (c_RewriteBack r d hrf hdf) rfl (by simp [Df.d, Rw.d]) ?_
  rintro _ ⟨x, ok, rfl, hX⟩
  have hxf := hX.fine
  have hxs := hX.slim
  simp [Df.d]
  refine .tdat (c_sRewriteBack r d hrf hdf) rfl (by simp [Df.d, Rw.d]) ?_
  rintro _ ⟨x', ok', rfl, hX'⟩
  obtain ⟨rfl, rfl⟩ := hX.uniq hX'
  simp [Df.d]
  refine .dval (c_sameDfa x hxs) rfl (by simp [Df.d]) rfl ?_
  simp
  refine AnyVC.pre (Wk.mk (slots := [(3, .ptr 300 0), (4, .ptr 400 0), (5, .ptr 500 0), (6, .d (.bool ok))]) (heap := [(300, .bx [.d (.list (r.next.map intsD)), .d (.list (r.out.map ssD)), .d (ssD r.fin)]), (400, .bx [.d (rowsD d.next), .d (bsD d.ends)]), (500, .bx [.d (rowsD x.next), .d (bsD x.ends)])]) (used := [300, 400, 500]) (by simp) (by simp)) ?_
  refine .cutAt { g : BG // ∃ o, OtherIs d o ∧ BackIs r o g.y g.ok } (fun g => [(5, .ptr 500 0), (6, .d (.bool ok)), (9, .ptr 900 0), (10, .d (.bool g.1.ok))]) (fun g => [(500, .bx [.d (rowsD x.next), .d (bsD x.ends)]), (900, .bx [.d (rowsD g.1.y.next), .d (bsD g.1.y.ends)])]) [500, 900] (schA [.pur 0, .pur 1] (.alt 2 [0] (schA [] (.alt 3 [] (sch [.pur 4, .pur 5, .pur 6, .eff 7 [0, 1, 4, 5, 6], .eff 8 [6], .pur 9]) 7 [0, 1] (sch [.eff 3 [], .pur 4, .pur 5, .pur 6, .eff 8 [6], .pur 9]))) 7 [0, 1] (sch [.eff 2 [0], .eff 3 [], .pur 4, .pur 5, .pur 6, .eff 8 [6], .pur 9]))) (by kernel_rfl) ?_ ?_
  · simp
    repeat' apply And.intro
    all_goals try rfl
    all_goals
      refine .ddat (c_DfaOther d hdf) rfl (by simp [Df.d]) ?_
      rintro _ ⟨o, rfl, ho⟩
      have hof := ho.fine
      simp [Df.d]
      repeat' apply And.intro
      all_goals try rfl
      all_goals
        refine .tdat (c_RewriteBack r o hrf hof) rfl (by simp [Df.d, Rw.d]) ?_
        rintro _ ⟨y, good, rfl, hY⟩
        simp [Df.d]
        refine ⟨⟨y, good⟩, ?_⟩
        simp
        exact ⟨o, ho, hY⟩
  · rintro ⟨⟨y, good⟩, o, ho, hY⟩
    have hys := hY.slim
    simp only at hY
    simp
    refine .one (sch [.pur 0, .pur 1, .pur 2, .pur 3, .pur 4, .pur 5, .pur 6, .pur 7, .pur 8, .eff 9 [7], .eff 10 [], .pur 11, .pur 12, .eff 13 [], .pur 14, .pur 15]) (by kernel_rfl) ?_
    simp
    cases ok with
    | false =>
      refine .go (by kernel_rfl) (by simp) (fun h => by cases h) (fun _ => ?_)
      simp
      refine .go (by kernel_rfl) (by simp) (fun h => by cases h) (fun _ => ?_)
      simp
      refine .flat (fun _ => c_alive) rfl (by simp) rfl (by simp) ?_
      simp
    | true => cases good with
      | false =>
        refine .go (by kernel_rfl) (by simp) (fun h => by cases h) (fun _ => ?_)
        simp
        refine .go (by kernel_rfl) (by simp) (fun h => by cases h) (fun _ => ?_)
        simp
        refine .flat (fun _ => c_alive) rfl (by simp) rfl (by simp) ?_
        simp
      | true =>
        refine .go (by kernel_rfl) (by simp) (fun _ => ?_) (fun h => by cases h)
        simp
        refine .ddat (c_DfaOther x hxf) rfl (by simp [Df.d]) ?_
        rintro _ ⟨z, rfl, hZ⟩
        obtain rfl := back_other hX ho hY hZ
        simp [Df.d]
        refine .flat (fun _ => c_sameDfa y hys) rfl (by simp [Df.d]) rfl (by simp) ?_
        simp
        refine .flat (fun _ => c_alive) rfl (by simp) rfl (by simp) ?_
        simp
end Go.Fw
