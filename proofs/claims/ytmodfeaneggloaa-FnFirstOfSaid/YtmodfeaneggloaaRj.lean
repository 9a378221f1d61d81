/- The law about shortest words. -/
import Derived.Test.YtmodfeaneggloaaQf
import Derived.Test.YtmodfeaneggloaaRd
import Derived.Test.YtmodfeaneggloaaRf
import Derived.Test.YtmodfeaneggloaaRh
set_option linter.unusedSimpArgs false
set_option linter.unusedVariables false
namespace Go.Fw
open Go Go.Proofs
set_option linter.unusedSectionVars false
set_option linter.unnecessarySimpa false

/-- Letters' numbers as a word. -/
theorem l3_word : ∀ {w : List Int}, l3 w → ∃ s : List UInt8, s.all isL = true ∧ s.map ltr = w
  | [], _ => ⟨[], rfl, rfl⟩
  | c :: w, h => by
    rw [l3_cons] at h
    obtain ⟨s, h1, h2⟩ := l3_word h.2
    obtain ⟨b, hb1, hb2⟩ := lt3_is (c := c.toNat) (by omega)
    exact ⟨b :: s, by simp only [List.all_cons, hb1, h1]; rfl, by rw [List.map_cons, h2, hb2, Int.toNat_of_nonneg h.1.1]⟩
theorem FirstW.none_before {a : Df} {s : List UInt8} (h : FirstW a.acc s true) {w : List Int} (hw : l3 w) (hn : numL w < num s) : a.lang 0 w = false := by
  obtain ⟨v, h1, rfl⟩ := l3_word hw
  rcases h with ⟨_, _, _, h3⟩ | ⟨h, _⟩
  · cases hc : a.lang 0 (v.map ltr) with
    | false => rfl
    | true =>
      have := h3 v h1 (by rw [acc_lang]; exact hc)
      rw [num_numL v] at this; omega
  · cases h
theorem FirstW.no_short {a : Df} {s : List UInt8} (h : FirstW a.acc s true) {n : Nat} (hn : n < s.length) : cq a n 0 = 0 := by
  have : cnt n (a.lang 0) = 0 := cnt_zero fun w hw hl => h.none_before hw (by
    rw [num_numL]
    exact numL_len hw (by simp; omega))
  unfold cq; rw [this]; rfl
theorem FirstW.rank0 {a : Df} {s : List UInt8} (h : FirstW a.acc s true) : rankL (a.lang 0) (s.map ltr) = 0 := by
  have hs : s.all isL = true := by
    rcases h with ⟨_, h, _⟩ | ⟨h, _⟩
    · exact h
    · cases h
  exact rank_zero (l3_ltr' hs) fun v hv hn => h.none_before hv (by rw [num_numL]; exact hn)

set_option maxRecDepth 100000 in
theorem c_FnFirstOf (code : List UInt8) (hl : code.length ≤ 9223372036854775807) : DCalls Try.prog 3 [.d (.list (codeD code))] fun y => y = .bool true := by
  refine dcalls_intro Ty.mixed Try.func3 rfl rfl rfl [] (by kernel_rfl) (by simp) ?_
  simp [codeD_lenD]
  intro h20
  refine .ddat (c_DrawFirstOf code) rfl (by simp) ?_
  rintro _ ⟨a, rfl, ha⟩
  have hf := ha.fine
  simp [Df.d]
  refine .tdat (c_FirstOf a hf) rfl (by simp [Df.d]) ?_
  rintro _ ⟨s, ok, rfl, hF⟩
  simp
  refine .tdat (c_sFirstOf a hf) rfl (by simp [Df.d]) ?_
  rintro _ ⟨s', ok', rfl, hF'⟩
  have hu : s = s' ∧ ok = ok' := by
    rcases hF with ⟨h1, h2, _⟩ | ⟨h1, rfl, rfl⟩ <;> rcases hF' with ⟨g1, g2⟩ | ⟨g1, rfl, rfl⟩
    · exact h2.uniq g2
    · rw [h1] at g1; cases g1
    · rw [h1] at g1; cases g1
    · exact ⟨rfl, rfl⟩
  obtain ⟨rfl, rfl⟩ := hu
  simp
  refine ⟨fun hno => ?_, fun hyes => ?_⟩
  · subst hno
    have hs : s = [] := by
      rcases hF with ⟨_, ⟨h, _⟩ | ⟨_, h, _⟩, _⟩ | ⟨_, h, _⟩
      · cases h
      · exact h
      · exact h
    subst hs
    simp
    have hnone : okDf a = true → ∀ v : List UInt8, v.all isL = true → a.acc v = false := fun hk => by
      rcases hF with ⟨_, ⟨h, _⟩ | ⟨_, _, h⟩, _⟩ | ⟨h, _⟩
      · cases h
      · exact h
      · rw [hk] at h; cases h
    refine .flat (fun _ => c_sDfaValid a hf) rfl (by simp [Df.d]) rfl (by simp) ?_
    simp
    refine .flat (fun hg => c_LongestNone a (by simpa using hg) (hnone (by simpa using hg))) rfl (by simp [Df.d]) rfl (by simp) ?_
    simp
    refine .flat (fun _ => c_alive) rfl (by simp) rfl (by simp) ?_
    simp
  · subst hyes
    obtain ⟨hok, hFW, hsn⟩ : okDf a = true ∧ FirstW a.acc s true ∧ s.length < a.next.length := by
      rcases hF with h | ⟨_, _, h⟩
      · exact h
      · cases h
    obtain ⟨n1, n2, n3⟩ := okDf_len hok
    have hsl : s.all isL = true := by
      rcases hFW with ⟨_, h, _⟩ | ⟨h, _⟩
      · exact h
      · cases h
    have hacc : a.acc s = true := by
      rcases hFW with ⟨_, _, h, _⟩ | ⟨h, _⟩
      · exact h
      · cases h
    refine LoopVC.at { n : Nat // n ≤ s.length } (fun n => [(3, .ptr 300 0), (4, sA s), (8, iA n.1)]) (fun _ => [(300, .bx [.d (rowsD a.next), .d (bsD a.ends)])]) [300] (fun n => s.length - n.1) ⟨0, by omega⟩ (by simp) (by simp) ?_
    rintro ⟨n, hn⟩
    simp
    refine ⟨fun h1 h2 => ?_, fun _ => ?_⟩
    · refine .dval (c_CountWords a n hf) rfl (by simp [Df.d]) rfl ?_
      have hz : cwDf a n = 0 := by
        have : inR (n : Int) 0 30 = true := by simp [inR]; omega
        rw [cwDf, hok, this]
        simp [hFW.no_short h1]
      rw [hz]
      simp
      exact ⟨n + 1, .mk (by simp; exact wrap64 (by omega) (by omega)) (by simp), by omega, by omega⟩
    · simp [hsn]
      refine .flat (fun hg => c_DfaAccepts a s hf (by omega)) rfl (by simp [Df.d]) rfl (by simp) ?_
      simp
      refine .flat (fun hg => c_RankWord a s hf (by omega)) rfl (by simp [Df.d]) rfl (by simp) ?_
      simp
      by_cases h8 : 8 < (s.length : Int)
      · simp [h8]
        exact fun h => absurd h (by omega)
      · have hw : wordOk s = true := by
          simp only [wordOk, lettersOk, Bool.and_eq_true, decide_eq_true_eq]
          exact ⟨hsl, by omega⟩
        have hr : rkDf a s = 0 := by rw [rkDf, hok, hw]; simp [hFW.rank0]
        rw [accDf_of hok hw, hacc, hr]
        simp
end Go.Fw
