/- The first match, as the reference finds it; whole words are found. -/
import Derived.Test.YtjnnalkjabenaaaOq
import Derived.Test.YtjnnalkjabenaaaOr
set_option linter.unusedSimpArgs false
set_option linter.unusedVariables false
namespace Go.Fw
open Go Go.Proofs
set_option linter.unusedSectionVars false
set_option linter.unnecessarySimpa false

set_option maxRecDepth 100000 in
theorem c_sFindFirst (a : Df) (s : List UInt8) (f : Int) (ha : a.fine) (hsl : s.length ≤ 9223372036854775807) (hfb : -9223372036854775808 ≤ f) : TCalls Try.prog 47 [.d a.d, sA s, iA f] (FirstR a s f) := by
  refine tcalls_intro Ty.mixed Try.func47 rfl rfl rfl [3] (by kernel_rfl) (by simp) ?_
  simp [Df.d]
  by_cases hv : okDf a = true ∧ textOk s = true ∧ 0 ≤ f ∧ f ≤ s.length
  · obtain ⟨h1, h2, h3, h4⟩ := hv
    have hwl : (s.length : Int) ≤ 30 := letters_len h2
    have hin : inR f 0 s.length = true := by simp [inR, h3, h4]
    obtain ⟨f', rfl⟩ : ∃ z : Nat, f = z := ⟨f.toNat, by omega⟩
    refine LoopVC.at { k : Nat // f' ≤ k ∧ k ≤ s.length + 1 ∧ ∀ j, f' ≤ j → j < k → longest a s j < 0 } (fun k => [(1, sA s), (2, iA f'), (3, .dp [.d (rowsD a.next), .d (bsD a.ends)]), (6, .ptr 600 0), (8, iA k.1)]) (fun _ => [(600, .bx [.d (iD 0), .d (iD 0)])]) [600] (fun k => s.length + 1 - k.1) ⟨f', by omega, by omega, by omega⟩ (by simp) (by simp) ?_
    rintro ⟨k, hk1, hk2, hp⟩
    simp
    refine .dval (c_sDfaValid a ha) rfl (by simp [Df.d]) rfl ?_
    simp [h1]
    refine .flat (fun _ => c_sTextValid s hsl) rfl (by simp) rfl (by simp) ?_
    simp [h2]
    refine .flat (fun _ => c_l1In _ _ _) rfl (by simp) rfl (by simp) ?_
    simp [hin]
    refine ⟨fun hk => ?_, fun hk => ?_⟩
    · refine .dval (c_l19Longest a s k h1 (letters_all h2) (by omega) hk) rfl (by simp [Df.d]) rfl ?_
      simp
      refine ⟨fun h0 => ⟨k, _, true, rfl, .inl ⟨h1, h2, h3, h4, .inl ⟨rfl, k, by omega, hk, rfl, rfl, h0, fun j h1 h2 => hp j (by omega) h2⟩⟩⟩, fun h0 => ⟨k + 1, .mk (by simp; exact wrap64 (by omega) (by omega)) (by simp), ⟨by omega, by omega, fun j h1 h2 => ?_⟩, by omega⟩⟩
      rcases Nat.lt_or_ge j k with h3 | h3
      · exact hp j h1 h3
      · have : j = k := by omega
        subst this; exact h0
    · exact ⟨0, 0, false, rfl, .inl ⟨h1, h2, h3, h4, .inr ⟨rfl, rfl, rfl, fun j h1 h2 => hp j (by omega) (by omega)⟩⟩⟩
  · have hno : FirstR a s f [.agg [iD 0, iD 0], .bool false] := ⟨0, 0, false, rfl, .inr ⟨hv, rfl, rfl, rfl⟩⟩
    refine LoopVC.at Unit (fun _ => [(1, sA s), (2, iA f), (3, .dp [.d (rowsD a.next), .d (bsD a.ends)]), (6, .ptr 600 0), (8, iA f)]) (fun _ => [(600, .bx [.d (iD 0), .d (iD 0)])]) [600] (fun _ => 0) () (by simp) (by simp) ?_
    intro _
    simp
    refine .dval (c_sDfaValid a ha) rfl (by simp [Df.d]) rfl ?_
    simp
    refine .flat (fun _ => c_sTextValid s hsl) rfl (by simp) rfl (by simp) ?_
    simp
    refine .flat (fun _ => c_l1In _ _ _) rfl (by simp) rfl (by simp) ?_
    simp
    refine ⟨fun h1 h2 h3 h4 => ?_, fun _ => hno⟩
    exfalso
    simp [inR] at h3
    exact hv ⟨h1, h2, h3.1, h3.2⟩

theorem textOk_word {s : List UInt8} (h : wordOk s = true) : textOk s = true := by
  have h1 := letters_all h
  have h2 := letters_len h
  simp only [textOk, lettersOk, Bool.and_eq_true, decide_eq_true_eq]
  exact ⟨h1, by omega⟩
theorem first_whole {a : Df} {s : List UInt8} {F T : Int} {ok : Bool} (h : accDf a s = true) (hF : FirstIs a s 0 F T ok) : ok = true ∧ F = 0 ∧ T = s.length := by
  have hv : okDf a = true ∧ wordOk s = true := by
    simp only [accDf, Bool.and_eq_true] at h
    exact h.1
  have hacc : a.acc s = true := by rw [← accDf_of hv.1 hv.2]; exact h
  have ht := textOk_word hv.2
  have hlong : longest a s 0 = s.length := by
    have h1 := long_ge a s 0 (s.length - 0) s.length (by omega) (by rw [List.drop_zero, List.take_length]; exact hacc)
    have h2 := longN_bd a s 0 (s.length - 0)
    unfold longest; omega
  rcases hF with ⟨_, _, _, _, hF⟩ | ⟨hno, _⟩
  · rcases hF with ⟨e, k, k1, k2, e1, e2, k3, k4⟩ | ⟨_, _, _, hall⟩
    · have : k = 0 := by
        rcases Nat.eq_zero_or_pos k with h0 | h0
        · exact h0
        · have := k4 0 (by simp) h0; omega
      subst this
      exact ⟨e, e1, by rw [e2, hlong]⟩
    · have := hall 0 (by simp) (by omega); omega
  · exact absurd ⟨hv.1, ht, by omega, by omega⟩ hno

set_option maxRecDepth 100000 in
theorem c_FnFindWhole (code : List UInt8) (hl : code.length ≤ 9223372036854775807) : DCalls Try.prog 4 [.d (.list (codeD code))] fun y => y = .bool true := by
  refine dcalls_intro Ty.mixed Try.func4 rfl rfl rfl [] (by kernel_rfl) (by simp) ?_
  simp [codeD_lenD]
  intro h20
  refine .tdat (c_DrawDfaAccepts code) rfl (by simp) ?_
  rintro _ ⟨a, s, rfl, ha, hs⟩
  have hf := ha.fine
  simp [Df.d]
  refine .dval (c_DfaAccepts a s hf (by omega)) rfl (by simp [Df.d]) rfl ?_
  simp
  refine .dval (c_sDfaAccepts a s hf (by omega)) rfl (by simp [Df.d]) rfl ?_
  simp
  refine .tdat (c_FindFirst a s 0 hf (by omega)) rfl (by simp [Df.d]) ?_
  rintro _ ⟨F, T, ok, rfl, hF⟩
  cases hacc : accDf a s with
  | false =>
    simp
    refine .flat (fun _ => c_alive) rfl (by simp) rfl (by simp) ?_
    simp
  | true =>
    obtain ⟨rfl, rfl, rfl⟩ := first_whole hacc hF
    simp
    refine .flat (fun _ => c_alive) rfl (by simp) rfl (by simp) ?_
    simp
end Go.Fw
