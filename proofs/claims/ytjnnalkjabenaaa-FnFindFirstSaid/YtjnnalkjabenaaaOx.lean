/- The law about first matches. -/
import Derived.Test.YtjnnalkjabenaaaOs
import Derived.Test.YtjnnalkjabenaaaOv
set_option linter.unusedSimpArgs false
set_option linter.unusedVariables false
namespace Go.Fw
open Go Go.Proofs
set_option linter.unusedSectionVars false
set_option linter.unnecessarySimpa false

/-- No short part that begins before `i`, and no one that begins there and ends at `J` or behind it, is accepted. -/
def NoneYet (a : Df) (s : List UInt8) (f i J : Nat) : Prop := ∀ i' j', f ≤ i' → i' ≤ j' → j' ≤ s.length → j' ≤ i' + 8 → (i' < i ∨ i' = i ∧ J ≤ j') → a.acc ((s.drop i').take (j' - i')) = false

theorem long_at {a : Df} {s : List UInt8} {i j : Nat} (h1 : i ≤ j) (h2 : j ≤ s.length) (h : a.acc ((s.drop i).take (j - i)) = true) : (j : Int) ≤ longest a s i := by
  have := long_ge a s i (s.length - i) (j - i) (by omega) h
  unfold longest; omega
theorem long_is {a : Df} {s : List UInt8} {i : Nat} (hi : i ≤ s.length) (h : 0 ≤ longest a s i) : ∃ j : Nat, i ≤ j ∧ j ≤ s.length ∧ longest a s i = j ∧ a.acc ((s.drop i).take (j - i)) = true := by
  unfold longest at h ⊢
  obtain ⟨k, h1, h2, h3⟩ := long_acc a s i _ h
  exact ⟨i + k, by omega, by omega, h2, by rw [Nat.add_sub_cancel_left]; exact h3⟩

theorem find_law {a : Df} {s : List UInt8} {f i j : Nat} {F T : Int} {ok : Bool} (hF : FindIs a s f F T ok) (h1 : f ≤ i) (h2 : i ≤ j) (h3 : j ≤ s.length) (h : a.acc ((s.drop i).take (j - i)) = true) :
    ok = true ∧ ∃ k t : Nat, F = k ∧ T = t ∧ f ≤ k ∧ k ≤ t ∧ t ≤ s.length ∧ (k < i ∨ k = i ∧ j ≤ t) ∧ a.acc ((s.drop k).take (t - k)) = true := by
  have hj := long_at h2 h3 h
  rcases hF with ⟨rfl, k, k1, k2, rfl, rfl, k3, k4⟩ | ⟨_, _, _, hall⟩
  · obtain ⟨t, t1, t2, t3, t4⟩ := long_is k2 k3
    refine ⟨rfl, k, t, rfl, t3, k1, t1, t2, ?_, t4⟩
    rcases Nat.lt_trichotomy k i with h | h | h
    · exact .inl h
    · subst h; exact .inr ⟨rfl, by omega⟩
    · have := k4 i h1 h; omega
  · have := hall i h1 (by omega); omega

theorem textOk_drop' {s : List UInt8} (h : textOk s = true) (n : Nat) : textOk (s.drop n) = true := by
  have h1 := letters_all h
  have h2 := letters_len h
  simp only [textOk, lettersOk, Bool.and_eq_true, decide_eq_true_eq]
  refine ⟨?_, by simp; omega⟩
  rw [List.all_eq_true] at h1 ⊢
  exact fun x hx => h1 x (List.mem_of_mem_drop hx)
theorem word_part {a : Df} {s : List UInt8} (h1 : okDf a = true) (h2 : textOk s = true) {i j : Nat} (hij : j ≤ i + 8) : accDf a ((s.drop i).take (j - i)) = a.acc ((s.drop i).take (j - i)) := by
  refine accDf_of h1 ?_
  have h3 := take_all (letters_all (textOk_drop' h2 i)) (j - i)
  simp only [wordOk, lettersOk, Bool.and_eq_true, decide_eq_true_eq]
  refine ⟨h3, ?_⟩
  rw [List.length_take]; omega

set_option maxRecDepth 100000 in
theorem c_FnFindFirst (code : List UInt8) (hl : code.length ≤ 9223372036854775807) : DCalls Try.prog 12 [.d (.list (codeD code))] fun y => y = .bool true := by
  refine dcalls_intro Ty.mixed Try.func12 rfl rfl rfl [] (by kernel_rfl) (by simp) ?_
  simp [codeD_lenD]
  intro h20
  refine .tdat (c_DrawFindFirst code) rfl (by simp) ?_
  rintro _ ⟨a, s, f, rfl, ha, hs, hf1, hf2⟩
  have hf := ha.fine
  simp [Df.d]
  refine .tdat (c_FindFirst a s f hf (by omega)) rfl (by simp [Df.d]) ?_
  rintro _ ⟨F, T, ok, rfl, hF⟩
  simp
  refine .tdat (c_sFindFirst a s f hf (by omega) (by omega)) rfl (by simp [Df.d]) ?_
  rintro _ ⟨F', T', ok', rfl, hF'⟩
  obtain ⟨rfl, rfl, rfl⟩ := hF.uniq hF'
  simp
  by_cases hv : okDf a = true ∧ textOk s = true ∧ 0 ≤ f ∧ f ≤ s.length
  · obtain ⟨h1, h2, h3, h4⟩ := hv
    have hF : FindIs a s f.toNat F T ok := by
      rcases hF with ⟨_, _, _, _, h⟩ | ⟨h, _⟩
      · exact h
      · exact absurd ⟨h1, h2, h3, h4⟩ h
    obtain ⟨f', rfl⟩ : ∃ z : Nat, f = z := ⟨f.toNat, by omega⟩
    rw [Int.toNat_natCast] at hF
    refine .dval (c_sDfaValid a hf) rfl (by simp [Df.d]) rfl ?_
    simp [h1]
    refine .flat (fun _ => c_sTextValid s (by omega)) rfl (by simp) rfl (by simp) ?_
    simp [h2, h4]
    refine ⟨fun hx => by exfalso; omega, fun _ => ?_⟩
    refine LoopVC.at { i : Nat // f' ≤ i ∧ i ≤ s.length + 1 ∧ NoneYet a s f' i (s.length + 1) } (fun i => [(3, .ptr 300 0), (4, sA s), (5, iA f'), (6, .ptr 600 0), (7, .d (.bool ok)), (10, iA i.1)]) (fun _ => [(300, .bx [.d (rowsD a.next), .d (bsD a.ends)]), (600, .bx [iA F, iA T])]) [300, 600] (fun i => s.length + 1 - i.1) ⟨f', by omega, by omega, fun i' j' a1 a2 a3 a4 a5 => by omega⟩ (by simp) (by simp) ?_
    rintro ⟨i, hi1, hi2, hN⟩
    simp
    refine ⟨fun hi => ?_, fun hi => ?_⟩
    · refine LoopVC.at { J : Nat // i ≤ J ∧ J ≤ s.length + 1 ∧ NoneYet a s f' i J } (fun J => [(3, .ptr 300 0), (4, sA s), (5, iA f'), (6, .ptr 600 0), (7, .d (.bool ok)), (10, iA i), (11, iA (J.1 - 1))]) (fun _ => [(300, .bx [.d (rowsD a.next), .d (bsD a.ends)]), (600, .bx [iA F, iA T])]) [300, 600] (fun J => J.1 - i) ⟨s.length + 1, by omega, by omega, hN⟩ (by simp) (by simp) ?_
      rintro ⟨J, hJ1, hJ2, hN⟩
      simp
      refine ⟨fun hJ => ?_, fun hJ => ?_⟩
      · obtain ⟨j, rfl⟩ : ∃ j, J = j + 1 := ⟨J - 1, by omega⟩
        have ej : (((j + 1 : Nat) : Int) - 1) = j := by omega
        rw [ej] at hJ ⊢
        have hij : i ≤ j := by omega
        have hjs : j ≤ s.length := by omega
        have hw : IntKind.i64.wrap ((j : Int) - i) = j - i := wrap64 (by omega) (by omega)
        refine .one (sch [.pur 0, .pur 1, .pur 2, .pur 3, .pur 4, .pur 5, .pur 6, .pur 7, .pur 8, .pur 9, .eff 10 [], .pur 11]) (by kernel_rfl) ?_
        simp [hw, hij, hjs]
        have hdt : List.drop i (List.take j s) = (s.drop i).take (j - i) := List.drop_take ..
        refine .flat (fun _ => c_DfaAccepts a (List.drop i (List.take j s)) hf (by simp; omega)) rfl (by simp [Df.d]) rfl (by simp) ?_
        simp
        refine ⟨fun h8 hA => ?_, fun hno => ?_⟩
        · rw [hdt, word_part h1 h2 (by omega)] at hA
          obtain ⟨rfl, k, t, rfl, rfl, k1, k2, k3, k4, k5⟩ := find_law hF hi1 hij hjs hA
          have hw2 : IntKind.i64.wrap ((t : Int) - k) = t - k := wrap64 (by omega) (by omega)
          refine .one (sch [.pur 0, .pur 1, .pur 2, .pur 3, .pur 4, .pur 5, .pur 6, .pur 7, .pur 8, .pur 9, .pur 10, .pur 11, .pur 12, .pur 13, .pur 14, .pur 15, .pur 16, .pur 17, .pur 18, .pur 19, .pur 20, .pur 21, .pur 22, .pur 23, .pur 24, .pur 25, .pur 26, .pur 27, .pur 28, .pur 29, .pur 30, .pur 31, .pur 32, .pur 33, .pur 34, .pur 35, .pur 36, .pur 37, .pur 38, .pur 39, .pur 40, .pur 41, .pur 42, .pur 43, .pur 44, .pur 45, .pur 46, .pur 47, .pur 48, .pur 49, .pur 50, .pur 51, .pur 52, .pur 53, .eff 54 [], .pur 55, .pur 56, .pur 57]) (by kernel_rfl) ?_
          have hdt2 : List.drop k (List.take t s) = (s.drop k).take (t - k) := List.drop_take ..
          have hfin : 8 < (t : Int) - k ∨ accDf a (List.drop k (List.take t s)) = true := by
            by_cases h9 : 8 < (t : Int) - k
            · exact .inl h9
            · right
              rw [hdt2, word_part h1 h2 (by omega)]; exact k5
          rcases k4 with k4 | ⟨rfl, k4⟩
          · simp [hw2, k1, k2, k3, k4]
            refine .flat (fun _ => c_DfaAccepts a (List.drop k (List.take t s)) hf (by simp; omega)) rfl (by simp [Df.d]) rfl (by simp) ?_
            simp
            exact hfin
          · simp [hw2, k1, k2, k3, k4]
            refine .flat (fun _ => c_DfaAccepts a (List.drop k (List.take t s)) hf (by simp; omega)) rfl (by simp [Df.d]) rfl (by simp) ?_
            simp
            exact hfin
        · refine ⟨j, .mk (by simp; exact wrap64 (by omega) (by omega)) (by simp), ⟨hij, by omega, fun i' j' a1 a2 a3 a4 a5 => ?_⟩, by omega⟩
          rcases a5 with a5 | ⟨rfl, a5⟩
          · exact hN i' j' a1 a2 a3 a4 (.inl a5)
          · rcases Nat.lt_or_ge j j' with h | h
            · exact hN i' j' a1 a2 a3 a4 (.inr ⟨rfl, h⟩)
            · have : j' = j := by omega
              subst this
              have := hno (by omega)
              rw [hdt, word_part h1 h2 (by omega)] at this
              exact this
      · refine ⟨i + 1, .mk (by simp; exact wrap64 (by omega) (by omega)) (by simp), ⟨by omega, by omega, fun i' j' a1 a2 a3 a4 a5 => ?_⟩, by omega⟩
        have : J = i := by omega
        subst this
        rcases Nat.lt_or_ge i' J with h | h
        · exact hN i' j' a1 a2 a3 a4 (.inl h)
        · have : i' = J := by omega
          subst this
          exact hN i' j' a1 a2 a3 a4 (.inr ⟨rfl, a2⟩)
    · rcases hF with ⟨_, k, k1, k2, rfl, rfl, k3, _⟩ | ⟨h, _⟩
      · right
        obtain ⟨t, t1, t2, t3, t4⟩ := long_is k2 k3
        rw [t3, wrap64 (by omega) (by omega)]
        rcases Nat.lt_or_ge (k + 8) t with h | h
        · omega
        · have := hN k t k1 t1 t2 h (.inl (by omega))
          rw [t4] at this; cases this
      · exact .inl h
  · have hno : F = 0 ∧ T = 0 ∧ ok = false := by
      rcases hF with ⟨h1, h2, h3, h4, _⟩ | ⟨_, h⟩
      · exact absurd ⟨h1, h2, h3, h4⟩ hv
      · exact h
    obtain ⟨rfl, rfl, rfl⟩ := hno
    refine .dval (c_sDfaValid a hf) rfl (by simp [Df.d]) rfl ?_
    simp
    refine .flat (fun _ => c_sTextValid s (by omega)) rfl (by simp) rfl (by simp) ?_
    simp
    refine ⟨fun _ => ?_, ?_⟩
    · refine .flat (fun _ => c_alive) rfl (by simp) rfl (by simp) ?_
      simp
    · exact fun h1 h2 h3 h4 => absurd ⟨h1, h2, by simpa using h3, by simpa using h4⟩ hv
end Go.Fw
