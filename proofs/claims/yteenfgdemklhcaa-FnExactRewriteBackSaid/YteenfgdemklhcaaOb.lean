/- Expressions: validity; where an operand begins; the operands. -/
import Derived.Test.YteenfgdemklhcaaOa
import Derived.Test.YteenfgdemklhcaaFwb
set_option linter.unusedSimpArgs false
set_option linter.unusedVariables false

namespace Go.Fw
open Go Go.Proofs
set_option linter.unusedSectionVars false

theorem wrap64_2 {a b : Int} (h1 : -1000000000000 ≤ a) (h2 : a ≤ 1000000000000) (h3 : -1000000000000 ≤ b) (h4 : b ≤ 1000000000000) : IntKind.i64.wrap (IntKind.i64.wrap (a - b) + 1) = a - b + 1 := by
  rw [wrap64 (n := a - b) (by omega) (by omega), wrap64 (by omega) (by omega)]
theorem exD_bd (e : List Pt) : ∀ d, exD e = some d → 0 ≤ d ∧ d ≤ e.length := by
  induction e using snocInd with
  | nil => intro d h; simp [exD] at h; subst h; simp
  | snoc e p ih =>
    intro d h
    rw [exD_snoc] at h
    cases he : exD e with
    | none => rw [he] at h; simp [stepX] at h
    | some d0 =>
      rw [he] at h
      have := ih d0 he
      simp only [stepX, Option.bind_some] at h
      split at h
      · cases h
      · simp only [Option.some.injEq] at h
        have hb := needs_bd p
        simp; omega
theorem exD_take {e : List Pt} {i : Nat} (h : i < e.length) : exD (e.take (i + 1)) = stepX (exD (e.take i)) e[i] := by
  rw [List.take_succ_eq_append_getElem h, exD_snoc]
theorem exD_no {e : List Pt} {i : Nat} (h : exD (e.take i) = none) : okEx e = false := by
  have : exD e = none := by
    have e1 : e = e.take i ++ e.drop i := (List.take_append_drop i e).symm
    rw [e1]; unfold exD at h ⊢; rw [List.foldl_append, h, stepX_none]
  simp [okEx, this]

theorem wt_step {e : List Pt} {i : Nat} (h : i < e.length) : wt (e.drop i) = needs e[i] - 1 + wt (e.drop (i + 1)) := by
  rw [List.drop_eq_getElem_cons h, wt_cons]
theorem wt_hi : ∀ e : List Pt, wt e ≤ e.length
  | [] => by simp [wt]
  | p :: e => by
    have := wt_hi e
    have := needs_bd p
    rw [wt_cons]; simp; omega

end Go.Fw
