/- The law about numbered words. -/
import Derived.Test.YtmodfeaneggloaaRi
import Derived.Test.YtmodfeaneggloaaRm
import Derived.Test.YtmodfeaneggloaaRw
import Derived.Test.YtmodfeaneggloaaOr
set_option linter.unusedSimpArgs false
set_option linter.unusedVariables false
namespace Go.Fw
open Go Go.Proofs
set_option linter.unusedSectionVars false
set_option linter.unnecessarySimpa false

theorem wv_app (s t : List UInt8) : wv (s ++ t) = wv s * 3 ^ t.length + wv t := by
  induction t using snocInd with
  | nil => simp [wv]
  | snoc t b ih =>
    rw [← List.append_assoc, wv_snoc, wv_snoc, ih, List.length_append, List.length_singleton, Int.pow_succ, ← Int.mul_assoc]
    omega
theorem wv_cons (b : UInt8) (s : List UInt8) : wv (b :: s) = ltr b * 3 ^ s.length + wv s := by
  have := wv_app [b] s
  simpa [wv] using this
theorem bytesLess_wv : ∀ {u v : List UInt8}, u.all isL = true → v.all isL = true → u.length = v.length → Op.bytesLess u v = decide (wv u < wv v)
  | [], [], _, _, _ => by simp [Op.bytesLess]
  | [], _ :: _, _, _, h => by simp at h
  | _ :: _, [], _, _, h => by simp at h
  | a :: u, b :: v, hu, hv, hl => by
    simp only [List.all_cons, Bool.and_eq_true] at hu hv
    simp only [List.length_cons, Nat.add_right_cancel_iff] at hl
    have ha := ltr_of hu.1
    have hb := ltr_of hv.1
    have h1 := wv_bd hu.2
    have h2 := wv_bd hv.2
    rw [Op.bytesLess, bytesLess_wv hu.2 hv.2 hl, wv_cons, wv_cons]
    rw [hl] at h1 ⊢
    generalize (3 : Int) ^ v.length = p at *
    rw [Bool.eq_iff_iff]
    simp only [Bool.or_eq_true, Bool.and_eq_true, decide_eq_true_eq, beq_iff_eq]
    have hlt : a < b ↔ ltr a < ltr b := by rw [UInt8.lt_iff_toNat_lt]; omega
    have heq : a = b ↔ ltr a = ltr b := by rw [← UInt8.toNat_inj]; omega
    rw [hlt, heq]
    rcases Int.lt_trichotomy (ltr a) (ltr b) with h | h | h
    · have : (ltr a + 1) * p ≤ ltr b * p := Int.mul_le_mul_of_nonneg_right (by omega) (by omega)
      rw [Int.add_mul] at this
      constructor
      · intro _; omega
      · intro _; exact .inl h
    · rw [h]
      constructor
      · rintro (h' | h')
        · omega
        · omega
      · intro h'; exact .inr ⟨rfl, by omega⟩
    · have : (ltr b + 1) * p ≤ ltr a * p := Int.mul_le_mul_of_nonneg_right (by omega) (by omega)
      rw [Int.add_mul] at this
      constructor
      · rintro (h' | h')
        · omega
        · omega
      · intro h'; omega

theorem map_ltr_inj : ∀ {s t : List UInt8}, s.all isL = true → t.all isL = true → s.map ltr = t.map ltr → s = t
  | [], [], _, _, _ => rfl
  | [], _ :: _, _, _, h => by simp at h
  | _ :: _, [], _, _, h => by simp at h
  | b :: s, c :: t, hs, ht, h => by
    simp only [List.all_cons, Bool.and_eq_true] at hs ht
    simp only [List.map_cons, List.cons.injEq] at h
    have h1 := ltr_of hs.1
    have h2 := ltr_of ht.1
    have : b = c := UInt8.toNat_inj.1 (by omega)
    rw [this, map_ltr_inj hs.2 ht.2 h.2]
theorem WnDf.uniq {a : Df} {n : Int} {s t : List UInt8} {ok ok' : Bool} (h : WnDf a n s ok) (h' : WnDf a n t ok') : s = t ∧ ok = ok' := by
  rcases h with ⟨h1, h2, h3⟩ | ⟨h1, rfl, rfl⟩ <;> rcases h' with ⟨g1, g2, g3⟩ | ⟨g1, rfl, rfl⟩
  · obtain ⟨e1, e2⟩ := h3.uniq g3
    exact ⟨map_ltr_inj h2 g2 e1, e2⟩
  · exact absurd h1 g1
  · exact absurd g1 h1
  · exact ⟨rfl, rfl⟩
theorem WnDf.yes {a : Df} {n : Int} {s : List UInt8} (h : WnDf a n s true) : okDf a = true ∧ 0 ≤ n ∧ s.all isL = true ∧ a.lang 0 (s.map ltr) = true ∧ (rankL (a.lang 0) (s.map ltr) : Int) = n ∧ s.length ≤ 30 := by
  rcases h with ⟨⟨h1, h2⟩, h3, ⟨_, _, h5, h6, h7⟩ | ⟨h, _⟩⟩ | ⟨_, _, h⟩
  · exact ⟨h1, h2, h3, h5, by omega, by simpa using h7⟩
  · cases h
  · cases h
theorem WnDf.no {a : Df} {n : Int} {s : List UInt8} (h : WnDf a n s false) : s = [] := by
  rcases h with ⟨_, _, ⟨h, _⟩ | ⟨_, h, _⟩⟩ | ⟨_, h, _⟩
  · cases h
  · simpa using h
  · exact h

set_option maxHeartbeats 1600000 in
set_option maxRecDepth 100000 in
theorem c_FnWordNumber (code : List UInt8) (hl : code.length ≤ 9223372036854775807) : DCalls Try.prog 6 [.d (.list (codeD code))] fun y => y = .bool true := by
  refine dcalls_intro Ty.mixed Try.func6 rfl rfl rfl [] (by kernel_rfl) (by simp) ?_
  have hcl : (codeD code).length = code.length := by simp [codeD]
  simp [hcl]
  intro h20
  refine .tdat (c_DrawWordNumber code) rfl (by simp) ?_
  rintro _ ⟨a, n, rfl, ha, hn1, hn2⟩
  have hf := ha.fine
  simp [Df.d]
  refine .tdat (c_WordNumber a n hf hn2) rfl (by simp [Df.d]) ?_
  rintro _ ⟨s, ok, rfl, hW⟩
  simp
  refine .tdat (c_sWordNumber a n hf hn2) rfl (by simp [Df.d]) ?_
  rintro _ ⟨s', ok', rfl, hW'⟩
  obtain ⟨rfl, rfl⟩ := hW.uniq hW'
  simp
  refine ⟨fun hno => ?_, fun hyes => ?_⟩
  · subst hno
    have := hW.no
    subst this
    simp
    refine .flat (fun _ => c_alive) rfl (by simp) rfl (by simp) ?_
    simp
  · subst hyes
    obtain ⟨h1, h2, h3, h4, h5, h6⟩ := hW.yes
    have hl3 := l3_ltr' h3
    have hrb := rank_bd (a.lang 0) hl3 (by simpa using h6)
    have hwn : IntKind.i64.wrap (n + 1) = n + 1 := wrap64 (by omega) (by omega)
    simp [hwn]
    refine .tdat (c_WordNumber a (n + 1) hf (by omega)) rfl (by simp [Df.d]) ?_
    rintro _ ⟨t, more, rfl, hT⟩
    have hE : (more = false ∨ s.length < t.length) ∨ ((t.length : Int) = s.length ∧ Op.bytesLess t s = false ∧ ¬ t = s) := by
      cases more with
      | false => exact .inl (.inl rfl)
      | true =>
        obtain ⟨_, _, g3, g4, g5, g6⟩ := hT.yes
        have ht3 := l3_ltr' g3
        have hnum := rank_lt_inv (f := a.lang 0) hl3 ht3 (by omega)
        rcases Nat.lt_trichotomy s.length t.length with h | h | h
        · exact .inl (.inr h)
        · have e1 := numL_wv h3
          have e2 := numL_wv g3
          rw [h] at e1
          refine .inr ⟨by omega, ?_, fun e => ?_⟩
          · rw [bytesLess_wv g3 h3 h.symm, decide_eq_false_iff_not]
            omega
          · subst e; omega
        · have := numL_len ht3 (v := s.map ltr) (by simpa using h)
          omega
    have hmid : ¬ 8 < (s.length : Int) → accDf a s = true ∧ rkDf a s = n := fun h8 => by
      have hw : wordOk s = true := by
        simp only [wordOk, lettersOk, Bool.and_eq_true, decide_eq_true_eq]
        exact ⟨h3, by omega⟩
      exact ⟨by rw [accDf_of h1 hw, acc_lang]; exact h4, by rw [rkDf, h1, hw]; simpa using h5⟩
    simp
    refine .flat (fun _ => c_DfaAccepts a s hf (by omega)) rfl (by simp [Df.d]) rfl (by simp) ?_
    simp
    refine .flat (fun _ => c_RankWord a s hf (by omega)) rfl (by simp [Df.d]) rfl (by simp) ?_
    simp
    have hM : 8 < (s.length : Int) ∨ accDf a s = true ∧ rkDf a s = n := by
      by_cases h8 : 8 < (s.length : Int)
      · exact .inl h8
      · exact .inr (hmid h8)
    exact ⟨fun h => ⟨h, fun h2 => ⟨h, h2⟩⟩, fun h => ⟨h, fun h2 => ⟨h, h2⟩⟩, fun h h2 h3 => ⟨⟨h, h2, h3⟩, fun h4 => ⟨⟨h, h2, h3⟩, h4⟩⟩, fun h => ⟨h, fun h2 h3 => ⟨h, h2, h3⟩⟩, hM, hE⟩
end Go.Fw
