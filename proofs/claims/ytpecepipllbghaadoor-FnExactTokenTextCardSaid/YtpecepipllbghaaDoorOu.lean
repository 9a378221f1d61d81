/- Automata that are drawn, perhaps of few words; patterns. -/
import Derived.Test.YtpecepipllbghaaDoorOt
import Derived.Test.YtpecepipllbghaaDoorLk
set_option linter.unusedSimpArgs false
set_option linter.unusedVariables false
namespace Go.Fw
open Go Go.Proofs
set_option linter.unusedSectionVars false
set_option linter.unnecessarySimpa false

structure FG where
  j : Int
  ws : List (List UInt8)
  q : Int

set_option maxRecDepth 100000 in
theorem d_l20Finite (code : List UInt8) (hc : code.length ≤ 1048576) (p n : Int) (hp : 0 ≤ p) (hp2 : p ≤ 1099511600000) (hn : -9223372036854775808 ≤ n) :
    RCalls Tryd.prog 46 [iA n] (rdB (codeD code) p) (Drew code p 200 fun r => ∃ a : Df, r = .one a.d ∧ a.tiny) := by
  refine rcalls_intro Ty.mixed Tryd.func46 rfl rfl rfl [] (by kernel_rfl) (by simp) ?_
  simp [rdB]
  refine .lend (b := rdB (codeD code) p) (d_pick code hc p 2 hp (by omega) (by omega)) (by simp [rdB]) (by simp) rfl (by simp) ?_
  rintro _ _ ⟨q, rfl, h1, h2, v, rfl, hv⟩
  simp [rdB]
  refine ⟨fun hv0 => ?_, fun hv0 => ?_⟩
  · refine .lend (b := rdB (codeD code) q) (d_pick code hc q 4 (by omega) (by omega) (by omega)) (by simp [rdB]) (by simp) rfl (by simp) ?_
    rintro _ _ ⟨q1, rfl, h3, h4, w, rfl, hw⟩
    obtain ⟨w1, w2, _⟩ := hw
    have w2 := w2 (by omega)
    simp [rdB]
    refine LoopVC.at { g : FG // 0 ≤ g.j ∧ g.j ≤ w ∧ g.ws.length = w - g.j ∧ (∀ x ∈ g.ws, x.length ≤ 4) ∧ p ≤ g.q ∧ g.q ≤ p + 2 + 12 * (w - g.j) } (fun g => [(0, .ptr 1 0), (1, iA n), (4, .ptr 400 0), (5, .sl 1 1500 0 g.1.ws.length), (6, iA g.1.j)])
      (fun g => [(1, .bx [.d (.list (codeD code)), iA g.1.q]), (400, .bx [.nl, .nl]), (1500, .ar 1 (g.1.ws.map sD))]) [1, 400, 1500] (fun g => g.1.j.toNat) ⟨⟨w, [], q1⟩, w1, Int.le_refl _, by simp, by simp, by show p ≤ q1; omega, by show q1 ≤ p + 2 + 12 * (w - w); omega⟩ (by simp) (by simp) ?_
    rintro ⟨⟨j, ws, q⟩, hj0, hjw, hwl, hws, hq1, hq2⟩
    simp only at hj0 hjw hwl hws hq1 hq2
    rcases Int.lt_or_le 0 j with hj | hj
    · simp [hj]
      refine .lend (b := rdB (codeD code) q) (d_l20Word code hc q 0 (by omega) (by omega) (by omega)) (by simp [rdB]) (by simp) rfl (by simp) ?_
      rintro _ _ ⟨q2, rfl, h5, h6, s, rfl, hs⟩
      simp [rdB]
      refine ⟨⟨by omega, by omega⟩, ⟨by omega, by omega⟩, ⟨j - 1, ws ++ [s.take (min (s.length : Int) 4).toNat], q2⟩, .mk ?_ ?_, ⟨by show (0 : Int) ≤ j - 1; omega, by show j - 1 ≤ w; omega, ?_, ?_, by show p ≤ q2; omega, by show q2 ≤ p + 2 + 12 * (w - (j - 1)); omega⟩, by simp; omega⟩
      · simp; exact wrap64 (by omega) (by omega)
      · simp
      · simp; omega
      · intro x hx
        rcases List.mem_append.1 hx with hx | hx
        · exact hws x hx
        · rw [List.mem_singleton.1 hx, List.length_take]; omega
    · simp [Int.not_lt.2 hj]
      refine .tdropE (c_WordsExpr ws (by omega) (fun x hx => by have := hws x hx; omega)) rfl (by simp [takeM]) (by simp) ?_
      rintro _ ⟨e, ok, rfl, he⟩
      cases ok with
      | false =>
        simp
        refine .lend (b := rdB (codeD code) q) (d_l20Dfa code hc q n (by omega) (by omega) hn) (by simp [rdB]) (by simp) rfl (by simp) ?_
        rintro _ _ ⟨q3, rfl, h7, h8, a, rfl, ha⟩
        simp [rdB, Df.d]
        exact ⟨rdB (codeD code) q3, rfl, q3, rfl, by omega, by omega, a, rfl, ha⟩
      | true =>
        simp
        refine .tdat (c_CompileExpr e (by omega)) rfl (by simp) ?_
        rintro _ ⟨x, ok, rfl, hx⟩
        cases ok with
        | false =>
          simp [Df.d]
          refine .lend (b := rdB (codeD code) q) (d_l20Dfa code hc q n (by omega) (by omega) hn) (by simp [rdB]) (by simp) rfl (by simp) ?_
          rintro _ _ ⟨q3, rfl, h7, h8, a, rfl, ha⟩
          simp [rdB, Df.d]
          exact ⟨rdB (codeD code) q3, rfl, q3, rfl, by omega, by omega, a, rfl, ha⟩
        | true =>
          simp [Df.d]
          exact ⟨rdB (codeD code) q, rfl, q, rfl, by omega, by omega, x, rfl, tiny_of_ok (hx rfl)⟩
  · refine .lend (b := rdB (codeD code) q) (d_l20Dfa code hc q n (by omega) (by omega) hn) (by simp [rdB]) (by simp) rfl (by simp) ?_
    rintro _ _ ⟨q3, rfl, h7, h8, a, rfl, ha⟩
    simp [rdB, Df.d]
    exact ⟨rdB (codeD code) q3, rfl, q3, rfl, by omega, by omega, a, rfl, ha⟩
end Go.Fw
