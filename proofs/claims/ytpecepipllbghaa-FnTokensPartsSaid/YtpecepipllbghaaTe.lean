/- First patterns win. -/
import Derived.Test.YtpecepipllbghaaTkn
import Derived.Test.YtpecepipllbghaaOv
set_option linter.unusedSimpArgs false
set_option linter.unusedVariables false
namespace Go.Fw
open Go Go.Proofs
set_option linter.unusedSectionVars false
set_option linter.unnecessarySimpa false

theorem tk_one (a : Df) (s : List UInt8) (f : Nat) : tk [a] s f 1 = if (f : Int) < longest a s f then ⟨0, longest a s f⟩ else ⟨0, f⟩ := rfl
theorem tk_three (a : Df) (s : List UInt8) (f : Nat) : tk [a, a, a] s f 3 = tk [a] s f 1 := by
  have e : ∀ k, k < 3 → ([a, a, a] : List Df).getD k ⟨[], []⟩ = a := fun k hk => by
    match k, hk with
    | 0, _ => rfl
    | 1, _ => rfl
    | 2, _ => rfl
  have e1 : tk [a, a, a] s f 1 = tk [a] s f 1 := rfl
  have h : ¬ (tk [a] s f 1).t < longest a s f := by
    rw [tk_one]; split
    · simp only; omega
    · simp only; omega
  have e2 : tk [a, a, a] s f 2 = tk [a] s f 1 := by
    rw [tk_succ, e 1 (by omega), e1, if_neg h]
  rw [tk_succ, e 2 (by omega), e2, if_neg h]
theorem tk_zero (a : Df) (s : List UInt8) (f : Nat) : (tk [a] s f 1).p = 0 := by rw [tk_one]; split <;> rfl
theorem ok_three (a : Df) (s : List UInt8) (f : Nat) : tkOk [a, a, a] s f = tkOk [a] s f := by
  have : ([a, a, a] : List Df).length = 3 := rfl
  have h2 : ([a] : List Df).length = 1 := rfl
  unfold tkOk; rw [this, h2, tk_three]
theorem atK_three (a : Df) (s : List UInt8) : ∀ k, atK [a, a, a] s k = atK [a] s k
  | 0 => rfl
  | k + 1 => by
    rw [atK, atK, atK_three a s k, ok_three]
    have : ([a, a, a] : List Df).length = 3 := rfl
    have h2 : ([a] : List Df).length = 1 := rfl
    rw [this, h2, tk_three]
theorem toksD_three (a : Df) (s : List UInt8) (k : Nat) : toksD [a, a, a] s k = toksD [a] s k := by
  unfold toksD
  refine List.map_congr_left fun j _ => ?_
  rw [atK_three]
  unfold tkD
  rw [ok_three]
  have : ([a, a, a] : List Df).length = 3 := rfl
  have h2 : ([a] : List Df).length = 1 := rfl
  rw [this, h2, tk_three]
theorem all_three {a : Df} {s : List UInt8} {k : Nat} (h : TksAll [a, a, a] s k) : TksAll [a] s k := ⟨fun j hj => by have := h.1 j hj; rwa [ok_three, atK_three] at this, by have := h.2; rwa [ok_three, atK_three] at this⟩
theorem okPats_three (a : Df) : okPats [a, a, a] = okDf a := by
  cases h : okDf a <;> simp [okPats, h, inR]
theorem okPats_one (a : Df) : okPats [a] = okDf a := by
  cases h : okDf a <;> simp [okPats, h, inR]

set_option maxHeartbeats 800000 in
set_option maxRecDepth 100000 in
theorem c_FnTokensFirst (code : List UInt8) (hl : code.length ≤ 9223372036854775807) : DCalls Try.prog 5 [.d (.list (codeD code))] fun y => y = .bool true := by
  refine dcalls_intro Ty.mixed Try.func5 rfl rfl rfl [] (by kernel_rfl) (by simp) ?_
  simp [codeD_lenD]
  intro h20
  refine .tdat (c_DrawFewestParts code) rfl (by simp) ?_
  rintro _ ⟨a, s, rfl, ha, hs⟩
  have hf := ha.fine
  have hf3 : ∀ b ∈ [a, a, a], b.fine := fun b hb => by simp at hb; subst hb; exact hf
  have hf1 : ∀ b ∈ [a], b.fine := fun b hb => by simp at hb; subst hb; exact hf
  simp [Df.d]
  refine ⟨rfl, ?_⟩
  refine .tdropE (c_Tokens [a, a, a] s (by simp) hf3 (by omega)) rfl (by simp [Df.d]) (by simp) ?_
  intro r hr
  have hS := c_sTokens [a, a, a] s (by simp) hf3 (by omega)
  have hO := c_Tokens [a] s (by simp) hf1 (by omega)
  rcases hr with ⟨⟨h1, h2⟩, k, hk, rfl⟩ | ⟨hno, rfl⟩
  · have hS : TCalls Try.prog 20 [.d (dsD [a, a, a]), sA s] fun r => r = [.list (toksD [a, a, a] s k), iD (atK [a, a, a] s k)] := tmono hS fun r hr => hr.uniq (.inl ⟨⟨h1, h2⟩, k, hk, rfl⟩)
    have hO : TCalls Try.prog 19 [.d (dsD [a]), sA s] fun r => r = [.list (toksD [a] s k), iD (atK [a] s k)] := tmono hO fun r hr => hr.uniq (.inl ⟨⟨by rw [okPats_one, ← okPats_three]; exact h1, h2⟩, k, all_three hk, rfl⟩)
    have htl := toksD_len [a] s k
    have hget : ∀ j, j < k → ∃ F T : Int, (toksD [a] s k)[j]? = some (tokD 0 F T) ∧ ∀ h, (toksD [a] s k)[j]'h = tokD 0 F T := fun j hj => by
      obtain ⟨P, b1, b2, b3⟩ := toksD_get (all_three hk).1 hj
      have e : P = 0 := by rw [b3]; exact tk_zero a s _
      subst e
      exact ⟨_, _, b1, b2⟩
    rw [toksD_three, atK_three] at hS ⊢
    generalize toksD [a] s k = X at *
    have hkb : k ≤ 30 := by
      have h3 := atK_ge hk.1
      have h4 := atK_le [a, a, a] s k
      have h5 : (s.length : Int) ≤ 30 := letters_len h2
      omega
    generalize atK [a] s k = n at *
    simp
    refine ⟨rfl, ?_⟩
    refine .tdropE hS rfl (by simp [Df.d]) (by simp) ?_
    rintro _ rfl
    simp
    refine .tdropE hO rfl (by simp [Df.d]) (by simp) ?_
    rintro _ rfl
    simp
    refine LoopVC.at { j : Nat // j ≤ k } (fun j => [(5, .d (.list X)), (6, iA n), (9, .d (.list X)), (10, iA n), (11, iA j.1)]) (fun _ => []) [] (fun j => k - j.1) ⟨0, by omega⟩ (by simp) (by simp) ?_
    rintro ⟨j, hj⟩
    rcases Nat.lt_or_ge j k with hjk | hjk
    · obtain ⟨F, T, b1, b2⟩ := hget j hjk
      simp [htl, hjk]
      refine .one (sch [.pur 0, .pur 1, .pur 2, .pur 3, .pur 4, .pur 5, .pur 6, .pur 7, .pur 8, .pur 9, .pur 10, .pur 11, .pur 12, .pur 13, .pur 14, .pur 15, .pur 16, .pur 17, .pur 18, .pur 19, .pur 20, .pur 21, .pur 22]) (by kernel_rfl) ?_
      simp [htl, hjk, b1, b2, tokD]
      exact ⟨j + 1, .mk (by simp; exact wrap64 (by omega) (by omega)) (by simp), by omega, by omega⟩
    · have : j = k := by omega
      subst this
      simp [htl]
      refine .flat (fun _ => c_alive) rfl (by simp) rfl (by simp) ?_
      simp
  · have hS : TCalls Try.prog 20 [.d (dsD [a, a, a]), sA s] fun r => r = [.list [], iD (-1)] := tmono hS fun r hr => hr.uniq (.inr ⟨hno, rfl⟩)
    have hO : TCalls Try.prog 19 [.d (dsD [a]), sA s] fun r => r = [.list [], iD (-1)] := tmono hO fun r hr => hr.uniq (.inr ⟨fun h => hno ⟨by rw [okPats_three, ← okPats_one]; exact h.1, h.2⟩, rfl⟩)
    simp
    refine ⟨rfl, ?_⟩
    refine .tdropE hS rfl (by simp [Df.d]) (by simp) ?_
    rintro _ rfl
    simp
    refine .tdropE hO rfl (by simp [Df.d]) (by simp) ?_
    rintro _ rfl
    simp
    refine LoopVC.at Unit (fun _ => [(5, .d (.list [])), (6, iA (-1)), (9, .d (.list [])), (10, iA (-1)), (11, iA 0)]) (fun _ => []) [] (fun _ => 0) () (by simp) (by simp) ?_
    rintro ⟨⟩
    simp
    refine .flat (fun _ => c_alive) rfl (by simp) rfl (by simp) ?_
    simp
end Go.Fw
