/- The shapes of automata, and the data that have them. -/
import Derived.Test.YteenfgdemklhcaaFs
import Derived.Test.YteenfgdemklhcaaMc
set_option linter.unusedSimpArgs false
set_option linter.unusedVariables false
namespace Go.Fw
open Go Go.Proofs Go.ChangeShapes Go.WideShapes Go.ChangeAt Go.RowKit

theorem typ_bools0 : ∀ {xs : List D}, (∀ x ∈ xs, Typ .bool x) → ∃ ns : List Bool, xs = ns.map bD
  | [], _ => ⟨[], rfl⟩
  | x :: r, h => by
    have := h x (by simp)
    cases this
    obtain ⟨ys, rfl⟩ := typ_bools0 (xs := r) fun z hz => h z (List.mem_cons_of_mem _ hz)
    exact ⟨_ :: ys, rfl⟩
theorem typ_bools1 {x : D} (h : Typ (.list 1 .bool) x) : ∃ ns : List Bool, x = bsD ns ∧ ns.length ≤ 9223372036854775807 := by
  cases h with | @list _ _ xs hl hx =>
  obtain ⟨bs, rfl⟩ := typ_bools0 hx
  exact ⟨bs, rfl, by have : maxLen ≤ 9223372036854775807 := by decide
                     simp at hl; omega⟩
def intsSh : Shape := .list 1 (.int .i64)
theorem sh_ints : IsSh Try.prog 64 intsSh := shB_sound 6 (by kernel_rfl)
theorem typ_ints {x : D} (h : Typ intsSh x) : ∃ ns : List Int, x = intsD ns ∧ ns.length ≤ 9223372036854775807 := typ_ints1 h

def dfaSh : Shape := .agg [.list 1 (.list 1 (.int .i64)), .list 1 .bool]
theorem typ_dfa {x : D} (h : Typ dfaSh x) : ∃ a : Df, x = a.d ∧ a.fine := by
  have hm : maxLen ≤ 9223372036854775807 := by decide
  cases h with | @agg _ cs hl h =>
  match cs, hl with
  | [a, b], _ =>
    have h0 := h 0 _ a rfl rfl
    have h1 := h 1 _ b rfl rfl
    cases h0 with | @list _ _ xs hxl hx =>
    obtain ⟨ns, rfl, hns⟩ := typ_intss0 hx
    obtain ⟨bs, rfl, hbs⟩ := typ_bools1 h1
    simp at hxl
    exact ⟨⟨ns, bs⟩, rfl, ⟨by show ns.length ≤ _; omega, hns, hbs⟩⟩
theorem sh_dfa : IsSh Try.prog 25 dfaSh := shB_sound 6 (by kernel_rfl)
end Go.Fw
