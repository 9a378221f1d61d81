/- The shape of an automaton with choices, and the data that have it. -/
import Derived.Test.YtbkbpnccnhaolaaFt
import Derived.Test.YtbkbpnccnhaolaaMe
set_option linter.unusedSimpArgs false
set_option linter.unusedVariables false
namespace Go.Fw
open Go Go.Proofs Go.ChangeShapes Go.WideShapes Go.ChangeAt Go.RowKit

def moveSh : Shape := .agg [.int .i64, .int .i64, .int .i64]
theorem typ_mv {x : D} (h : Typ moveSh x) : ∃ m : Mv, x = m.d := by
  cases h with | @agg _ cs hl h =>
  match cs, hl with
  | [a, b, c], _ =>
    have h0 := h 0 _ a rfl rfl
    have h1 := h 1 _ b rfl rfl
    have h2 := h 2 _ c rfl rfl
    cases h0; cases h1; cases h2
    exact ⟨⟨_, _, _⟩, rfl⟩
theorem typ_mvs : ∀ {xs : List D}, (∀ x ∈ xs, Typ moveSh x) → ∃ ms : List Mv, xs = ms.map Mv.d
  | [], _ => ⟨[], rfl⟩
  | x :: r, h => by
    obtain ⟨y, rfl⟩ := typ_mv (h x (by simp))
    obtain ⟨ys, rfl⟩ := typ_mvs (xs := r) fun z hz => h z (List.mem_cons_of_mem _ hz)
    exact ⟨y :: ys, rfl⟩
def nfaSh : Shape := .agg [.int .i64, .list 3 moveSh, .list 1 (.int .i64), .list 1 (.int .i64)]
theorem typ_nfa {x : D} (h : Typ nfaSh x) : ∃ a : Na, x = a.d ∧ a.fine := by
  have hm : maxLen ≤ 9223372036854775807 := by decide
  cases h with | @agg _ cs hl h =>
  match cs, hl with
  | [a, b, c, d], _ =>
    have h0 := h 0 _ a rfl rfl
    have h1 := h 1 _ b rfl rfl
    have h2 := h 2 _ c rfl rfl
    have h3 := h 3 _ d rfl rfl
    cases h0 with | @int _ n _ =>
    cases h1 with | @list _ _ xs hxl hx =>
    obtain ⟨ms, rfl⟩ := typ_mvs hx
    obtain ⟨fs, rfl, hfs⟩ := typ_ints1 h2
    obtain ⟨es, rfl, hes⟩ := typ_ints1 h3
    simp at hxl
    exact ⟨⟨n, ms, fs, es⟩, rfl, ⟨by show ms.length ≤ _; omega, hfs, hes⟩⟩
theorem sh_nfa : IsSh Try.prog 38 nfaSh := shB_sound 6 (by kernel_rfl)
end Go.Fw
