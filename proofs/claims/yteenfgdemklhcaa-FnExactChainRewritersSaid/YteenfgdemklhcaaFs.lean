/- The shape of a rewriter, and the data that have it. -/
import Derived.Test.YteenfgdemklhcaaFr
import Derived.Test.YteenfgdemklhcaaLj
set_option linter.unusedSimpArgs false
set_option linter.unusedVariables false
namespace Go.Fw
open Go Go.Proofs Go.ChangeShapes Go.WideShapes Go.ChangeAt Go.RowKit

theorem typ_strs0 : ∀ {xs : List D}, (∀ x ∈ xs, Typ .str x) → ∃ ns : List (List UInt8), xs = ns.map sD ∧ ∀ n ∈ ns, n.length ≤ 9223372036854775807
  | [], _ => ⟨[], rfl, by simp⟩
  | x :: r, h => by
    obtain ⟨y, rfl, hy⟩ := typ_str (h x (by simp))
    obtain ⟨ys, rfl, hys⟩ := typ_strs0 (xs := r) fun z hz => h z (List.mem_cons_of_mem _ hz)
    exact ⟨y :: ys, rfl, fun n hn => by
      rcases List.mem_cons.1 hn with rfl | hn
      · exact hy
      · exact hys n hn⟩
theorem typ_ints1 {x : D} (h : Typ (.list 1 (.int .i64)) x) : ∃ ns : List Int, x = intsD ns ∧ ns.length ≤ 9223372036854775807 := by
  cases h with | @list _ _ xs hl hx =>
  obtain ⟨bs, rfl, _⟩ := typ_ints0 hx
  exact ⟨bs, rfl, by have : maxLen ≤ 9223372036854775807 := by decide
                     simp at hl; omega⟩
theorem typ_strs1 {x : D} (h : Typ (.list 1 .str) x) : ∃ ns : List (List UInt8), x = ssD ns ∧ ns.length ≤ 9223372036854775807 ∧ ∀ n ∈ ns, n.length ≤ 9223372036854775807 := by
  cases h with | @list _ _ xs hl hx =>
  obtain ⟨bs, rfl, hb⟩ := typ_strs0 hx
  exact ⟨bs, rfl, by have : maxLen ≤ 9223372036854775807 := by decide
                     simp at hl; omega, hb⟩
theorem typ_intss0 : ∀ {xs : List D}, (∀ x ∈ xs, Typ (.list 1 (.int .i64)) x) → ∃ ns : List (List Int), xs = ns.map intsD ∧ ∀ n ∈ ns, n.length ≤ 9223372036854775807
  | [], _ => ⟨[], rfl, by simp⟩
  | x :: r, h => by
    obtain ⟨y, rfl, hy⟩ := typ_ints1 (h x (by simp))
    obtain ⟨ys, rfl, hys⟩ := typ_intss0 (xs := r) fun z hz => h z (List.mem_cons_of_mem _ hz)
    exact ⟨y :: ys, rfl, fun n hn => by
      rcases List.mem_cons.1 hn with rfl | hn
      · exact hy
      · exact hys n hn⟩
theorem typ_strss0 : ∀ {xs : List D}, (∀ x ∈ xs, Typ (.list 1 .str) x) → ∃ ns : List (List (List UInt8)), xs = ns.map ssD ∧ ∀ n ∈ ns, n.length ≤ 9223372036854775807 ∧ ∀ s ∈ n, s.length ≤ 9223372036854775807
  | [], _ => ⟨[], rfl, by simp⟩
  | x :: r, h => by
    obtain ⟨y, rfl, hy⟩ := typ_strs1 (h x (by simp))
    obtain ⟨ys, rfl, hys⟩ := typ_strss0 (xs := r) fun z hz => h z (List.mem_cons_of_mem _ hz)
    exact ⟨y :: ys, rfl, fun n hn => by
      rcases List.mem_cons.1 hn with rfl | hn
      · exact hy
      · exact hys n hn⟩

def rewSh : Shape := .agg [.list 1 (.list 1 (.int .i64)), .list 1 (.list 1 .str), .list 1 .str]
theorem typ_rew {x : D} (h : Typ rewSh x) : ∃ r : Rw, x = r.d ∧ r.fine ∧ r.out.length ≤ 9223372036854775807 ∧ r.fin.length ≤ 9223372036854775807 := by
  have hm : maxLen ≤ 9223372036854775807 := by decide
  cases h with | @agg _ cs hl h =>
  match cs, hl with
  | [a, b, c], _ =>
    have h0 := h 0 _ a rfl rfl
    have h1 := h 1 _ b rfl rfl
    have h2 := h 2 _ c rfl rfl
    cases h0 with | @list _ _ xs hxl hx =>
    cases h1 with | @list _ _ ys hyl hy =>
    obtain ⟨ns, rfl, hns⟩ := typ_intss0 hx
    obtain ⟨os, rfl, hos⟩ := typ_strss0 hy
    obtain ⟨fs, rfl, hfs, hfs2⟩ := typ_strs1 h2
    simp at hxl hyl
    exact ⟨⟨ns, os, fs⟩, rfl, ⟨hos, hfs2, hns, by show ns.length ≤ _; omega⟩, by show os.length ≤ _; omega, hfs⟩
theorem sh_rew : IsSh Try.prog 36 rewSh := shB_sound 6 (by kernel_rfl)

end Go.Fw
