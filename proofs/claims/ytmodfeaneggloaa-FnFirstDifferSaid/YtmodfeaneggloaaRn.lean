/- The law about witnesses that differ. -/
import Derived.Test.YtmodfeaneggloaaRu
import Derived.Test.YtmodfeaneggloaaRe
import Derived.Test.YtmodfeaneggloaaRcn
set_option linter.unusedSimpArgs false
set_option linter.unusedVariables false
namespace Go.Fw
open Go Go.Proofs
set_option linter.unusedSectionVars false
set_option linter.unnecessarySimpa false

/-- Letters' numbers as a word. -/
theorem l3_wordR : ∀ {w : List Int}, l3 w → ∃ s : List UInt8, s.all isL = true ∧ s.map ltr = w
  | [], _ => ⟨[], rfl, rfl⟩
  | c :: w, h => by
    rw [l3_cons] at h
    obtain ⟨s, h1, h2⟩ := l3_wordR h.2
    obtain ⟨b, _, hb1, hb2⟩ := ltxt_ex (l := c.toNat) (by omega)
    exact ⟨b :: s, by simp only [List.all_cons, hb1, h1]; rfl, by rw [List.map_cons, h2, hb2, Int.toNat_of_nonneg h.1.1]⟩
theorem dif_count {a b : Df} {s : List UInt8} (h : FirstW (fun v => a.acc v != b.acc v) s true) {n : Nat} (hn : n < s.length) : cq a n 0 = cq b n 0 := by
  have : cnt n (a.lang 0) = cnt n (b.lang 0) := cnt_congr n _ _ fun w hw hl => by
    obtain ⟨v, h1, rfl⟩ := l3_wordR hw
    rcases h with ⟨_, _, _, h3⟩ | ⟨h, _⟩
    · rw [← acc_lang, ← acc_lang]
      cases hA : a.acc v <;> cases hB : b.acc v
      · rfl
      · have e := h3 v h1 (by simp only [hA, hB]; rfl)
        have e2 := numL_len hw (v := s.map ltr) (by simp at hl ⊢; omega)
        rw [num_numL, num_numL] at e; omega
      · have e := h3 v h1 (by simp only [hA, hB]; rfl)
        have e2 := numL_len hw (v := s.map ltr) (by simp at hl ⊢; omega)
        rw [num_numL, num_numL] at e; omega
      · rfl
    · cases h
  unfold cq; rw [this]

set_option maxRecDepth 100000 in
theorem c_FnFirstDiffer (code : List UInt8) (hl : code.length ≤ 9223372036854775807) : DCalls Try.prog 7 [.d (.list (codeD code))] fun y => y = .bool true := by
  refine dcalls_intro Ty.mixed Try.func7 rfl rfl rfl [] (by kernel_rfl) (by simp) ?_
  simp [codeD_lenD]
  intro h20
  refine .tdat (c_DrawFirstDiffer code) rfl (by simp) ?_
  rintro _ ⟨a, b, rfl, ha, hb⟩
  have hfa := ha.fine
  have hfb := hb.fine
  simp [Df.d]
  refine .tdat (c_FirstDiffer a b hfa hfb) rfl (by simp [Df.d]) ?_
  rintro _ ⟨s, ok, rfl, hE⟩
  simp
  refine .tdat (c_sFirstDiffer a b hfa hfb) rfl (by simp [Df.d]) ?_
  rintro _ ⟨s', ok', rfl, hE'⟩
  obtain ⟨rfl, rfl⟩ := DifR.uniq hE hE'
  simp
  refine .tdat (c_FirstDiffer b a hfb hfa) rfl (by simp [Df.d]) ?_
  rintro _ ⟨v, turned, rfl, hB⟩
  obtain ⟨rfl, rfl⟩ := DifR.uniq hE (dif_swap hB)
  simp
  refine ⟨fun hno => ?_, fun hyes => ?_⟩
  · subst hno
    have hs : s = [] := by
      rcases hE with ⟨_, ⟨h, _⟩ | ⟨_, h, _⟩⟩ | ⟨_, h, _⟩
      · cases h
      · exact h
      · exact h
    subst hs
    simp
    refine .flat (fun _ => c_alive) rfl (by simp) rfl (by simp) ?_
    simp
  · subst hyes
    obtain ⟨⟨h1, h2⟩, hF⟩ : (okDf a = true ∧ okDf b = true) ∧ FirstW (fun v => a.acc v != b.acc v) s true := by
      rcases hE with h | ⟨_, _, h⟩
      · exact h
      · cases h
    obtain ⟨hsl, hdf⟩ : s.all isL = true ∧ (a.acc s != b.acc s) = true := by
      rcases hF with ⟨_, h, h', _⟩ | ⟨h, _⟩
      · exact ⟨h, h'⟩
      · cases h
    refine LoopVC.at { n : Nat // n ≤ s.length } (fun n => [(3, .ptr 300 0), (4, .ptr 400 0), (5, sA s), (11, iA n.1)]) (fun _ => [(300, .bx [.d (rowsD a.next), .d (bsD a.ends)]), (400, .bx [.d (rowsD b.next), .d (bsD b.ends)])]) [300, 400] (fun n => s.length - n.1) ⟨0, by omega⟩ (by simp) (by simp) ?_
    rintro ⟨n, hn⟩
    simp
    refine ⟨fun g1 g2 => ?_, fun _ => ?_⟩
    · have hc := dif_count hF g1
      have hz : cwDf a n = cwDf b n := by
        have : inR (n : Int) 0 30 = true := by simp [inR]; omega
        rw [cwDf, cwDf, h1, h2, this]
        simp [hc]
      refine .one (sch [.pur 0, .pur 1, .pur 3, .pur 4, .eff 2 [3, 4], .eff 5 [], .pur 6]) (by kernel_rfl) ?_
      simp
      refine .dval (c_CountWords a n hfa) rfl (by simp [Df.d]) rfl ?_
      simp
      refine .dval (c_CountWords b n hfb) rfl (by simp [Df.d]) rfl ?_
      rw [hz]
      simp
      exact ⟨n + 1, .mk (by simp; exact wrap64 (by omega) (by omega)) (by simp), by omega, by omega⟩
    · refine .one (sch [.pur 0, .pur 1, .pur 2, .pur 3, .pur 4, .pur 5, .pur 7, .pur 8, .eff 6 [7, 8], .eff 9 [], .pur 10, .pur 11, .pur 12]) (by kernel_rfl) ?_
      simp
      refine .flat (fun hg => c_DfaAccepts a s hfa (by simp at hg; omega)) rfl (by simp [Df.d]) rfl (by simp) ?_
      simp
      refine .flat (fun hg => c_DfaAccepts b s hfb (by simp at hg; omega)) rfl (by simp [Df.d]) rfl (by simp) ?_
      simp
      by_cases h8 : 8 < (s.length : Int)
      · exact .inl h8
      · have hw : wordOk s = true := by
          simp only [wordOk, lettersOk, Bool.and_eq_true, decide_eq_true_eq]
          exact ⟨hsl, by omega⟩
        rw [accDf_of h1 hw, accDf_of h2 hw]
        exact .inr (by simpa using hdf)
end Go.Fw
