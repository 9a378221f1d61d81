/- What the laws' inputs are: their shapes, and the data that have them. -/
import Derived.Test.YteenfgdemklhcaaFwW
import Derived.Test.YteenfgdemklhcaaLc
set_option linter.unusedSimpArgs false
set_option linter.unusedVariables false
namespace Go.Fw
open Go Go.Proofs Go.ChangeShapes Go.WideShapes Go.ChangeAt Go.RowKit

theorem own : ownKnob Try.prog.godebug = none := by kernel_rfl
theorem laidOut : laidOutB Try.prog = true := by kernel_rfl

/-! ### Bytes, texts, numbers -/

def bytesSh : Shape := .list 1 (.int .u8)
theorem sh_bytes : IsSh Try.prog 102 bytesSh := shB_sound 6 (by kernel_rfl)
theorem typ_byte {x : D} (h : Typ (.int .u8) x) : ∃ b : UInt8, x = byteD b := by
  cases h with | @int _ n hw =>
  have hn : 0 ≤ n ∧ n ≤ 255 := by simpa [Lit.wf, IntKind.min, IntKind.max, IntKind.signed, IntKind.bits] using hw
  refine ⟨UInt8.ofNat n.toNat, ?_⟩
  have : ((UInt8.ofNat n.toNat).toNat : Int) = n := by
    rw [UInt8.toNat_ofNat']; omega
  rw [byteD, this]
theorem typ_bytes0 : ∀ {xs : List D}, (∀ x ∈ xs, Typ (.int .u8) x) → ∃ bs : List UInt8, xs = codeD bs
  | [], _ => ⟨[], rfl⟩
  | x :: r, h => by
    obtain ⟨y, rfl⟩ := typ_byte (h x (by simp))
    obtain ⟨ys, rfl⟩ := typ_bytes0 (xs := r) fun z hz => h z (List.mem_cons_of_mem _ hz)
    exact ⟨y :: ys, rfl⟩
theorem typ_bytes {x : D} (h : Typ bytesSh x) : ∃ bs : List UInt8, x = .list (codeD bs) ∧ bs.length ≤ 9223372036854775807 := by
  cases h with | @list _ _ xs hl hx =>
  obtain ⟨bs, rfl⟩ := typ_bytes0 hx
  exact ⟨bs, rfl, by have : maxLen ≤ 9223372036854775807 := by decide
                     simp [codeD] at hl; omega⟩

theorem sh_str : IsSh Try.prog 9 .str := shB_sound 6 (by kernel_rfl)
theorem typ_str {x : D} (h : Typ .str x) : ∃ s, x = sD s ∧ s.length ≤ 9223372036854775807 := by
  cases h with | @str s hl => exact ⟨s, rfl, by have : maxLen ≤ 9223372036854775807 := by decide
                                                omega⟩
theorem sh_int : IsSh Try.prog 3 (.int .i64) := shB_sound 6 (by kernel_rfl)
theorem typ_int {x : D} (h : Typ (.int .i64) x) : ∃ n, x = iD n ∧ -9223372036854775808 ≤ n ∧ n ≤ 9223372036854775807 := by
  cases h with | @int _ n hw => exact ⟨n, rfl, by simpa [Lit.wf, IntKind.min, IntKind.max, IntKind.signed, IntKind.bits] using hw⟩
theorem typ_ints0 : ∀ {xs : List D}, (∀ x ∈ xs, Typ (.int .i64) x) → ∃ ns : List Int, xs = ns.map iD ∧ ∀ n ∈ ns, -9223372036854775808 ≤ n ∧ n ≤ 9223372036854775807
  | [], _ => ⟨[], rfl, by simp⟩
  | x :: r, h => by
    obtain ⟨y, rfl, hy⟩ := typ_int (h x (by simp))
    obtain ⟨ys, rfl, hys⟩ := typ_ints0 (xs := r) fun z hz => h z (List.mem_cons_of_mem _ hz)
    exact ⟨y :: ys, rfl, fun n hn => by
      rcases List.mem_cons.1 hn with rfl | hn
      · exact hy
      · exact hys n hn⟩

/-! ### Roads -/

def roadSh : Shape := .agg [.int .i64, .int .i64, .int .i64, .int .i64]
def roadsSh : Shape := .agg [.int .i64, .list 4 roadSh]
theorem typ_rd {x : D} (h : Typ roadSh x) : ∃ r : Rd, x = r.d := by
  cases h with | @agg _ cs hl h =>
  match cs, hl with
  | [a, b, c, d], _ =>
    have h0 := h 0 _ a rfl rfl
    have h1 := h 1 _ b rfl rfl
    have h2 := h 2 _ c rfl rfl
    have h3 := h 3 _ d rfl rfl
    cases h0; cases h1; cases h2; cases h3
    exact ⟨⟨_, _, _, _⟩, rfl⟩
theorem typ_rds : ∀ {xs : List D}, (∀ x ∈ xs, Typ roadSh x) → ∃ rs : List Rd, xs = rs.map Rd.d
  | [], _ => ⟨[], rfl⟩
  | x :: r, h => by
    obtain ⟨y, rfl⟩ := typ_rd (h x (by simp))
    obtain ⟨ys, rfl⟩ := typ_rds (xs := r) fun z hz => h z (List.mem_cons_of_mem _ hz)
    exact ⟨y :: ys, rfl⟩
theorem typ_roads {x : D} (h : Typ roadsSh x) : ∃ n rs, x = roadsD n rs ∧ rs.length ≤ 9223372036854775807 := by
  cases h with | @agg _ cs hl h =>
  match cs, hl with
  | [a, b], _ =>
    have h0 := h 0 _ a rfl rfl
    have h1 := h 1 _ b rfl rfl
    cases h0 with | @int _ n _ =>
    cases h1 with | @list _ _ xs hlen hx =>
    obtain ⟨rs, rfl⟩ := typ_rds hx
    exact ⟨n, rs, rfl, by have : maxLen ≤ 9223372036854775807 := by decide
                          simp at hlen; omega⟩
end Go.Fw
