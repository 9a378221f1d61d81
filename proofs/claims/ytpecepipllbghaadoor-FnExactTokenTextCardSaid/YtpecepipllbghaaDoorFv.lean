/- Lists of automata as inputs. -/
import Derived.Test.YtpecepipllbghaaDoorFt
import Derived.Test.YtpecepipllbghaaDoorOy
set_option linter.unusedSimpArgs false
set_option linter.unusedVariables false
namespace Go.Fw
open Go Go.Proofs Go.ChangeShapes Go.WideShapes Go.ChangeAt Go.RowKit

theorem sh_dfas : IsSh Tryd.prog 32 (.list 2 dfaSh) := shB_sound 8 (by kernel_rfl)
theorem typ_dfas0 : ∀ {xs : List D}, (∀ x ∈ xs, Typ dfaSh x) → ∃ ds : List Df, xs = ds.map Df.d ∧ ∀ a ∈ ds, a.fine
  | [], _ => ⟨[], rfl, by simp⟩
  | x :: r, h => by
    obtain ⟨y, rfl, hy⟩ := typ_dfa (h x (by simp))
    obtain ⟨ys, rfl, hys⟩ := typ_dfas0 (xs := r) fun z hz => h z (List.mem_cons_of_mem _ hz)
    exact ⟨y :: ys, rfl, fun n hn => by
      rcases List.mem_cons.1 hn with rfl | hn
      · exact hy
      · exact hys n hn⟩
theorem typ_dfas {x : D} (h : Typ (.list 2 dfaSh) x) : ∃ ds : List Df, x = dsD ds ∧ (ds.length ≤ 9223372036854775807 ∧ ∀ a ∈ ds, a.fine) := by
  have hm : maxLen ≤ 9223372036854775807 := by decide
  cases h with | @list _ _ xs hl hx =>
  obtain ⟨ds, rfl, h⟩ := typ_dfas0 hx
  exact ⟨ds, rfl, by simp at hl; omega, h⟩
end Go.Fw
