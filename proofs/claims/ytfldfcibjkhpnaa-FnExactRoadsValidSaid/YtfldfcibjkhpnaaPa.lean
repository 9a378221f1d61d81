/- FnExactRoadsValid: the claim. -/
import Derived.Test.YtfldfcibjkhpnaaRows
import Derived.Test.YtfldfcibjkhpnaaFwW
import Derived.Test.YtfldfcibjkhpnaaLa
set_option linter.unusedSimpArgs false
set_option linter.unusedVariables false
namespace Go.Fw
open Go Go.Proofs Go.ChangeShapes Go.WideShapes Go.ChangeAt Go.RowKit

theorem own : ownKnob Try.prog.godebug = none := by kernel_rfl
theorem laidOut : laidOutB Try.prog = true := by kernel_rfl

def roadSh : Shape := .agg [.int .i64, .int .i64, .int .i64, .int .i64]
def roadsSh : Shape := .agg [.int .i64, .list 4 roadSh]

theorem typ_rd {x : D} (h : Typ roadSh x) : ∃ r : Rd, x = r.d := by
  cases h with | @agg _ cs hl h =>
  match cs, hl with
  | [a, b, c, d], _ =>
    have h0 := h 0 _ a rfl rfl
    have h1 := h 1 _ b rfl rfl
    have h2 := h 2 _ c rfl rfl
    have h3 := h 3 _ d rfl rfl
    cases h0; cases h1; cases h2; cases h3
    exact ⟨⟨_, _, _, _⟩, rfl⟩
theorem typ_rds : ∀ {xs : List D}, (∀ x ∈ xs, Typ roadSh x) → ∃ rs : List Rd, xs = rs.map Rd.d
  | [], _ => ⟨[], rfl⟩
  | x :: r, h => by
    obtain ⟨y, rfl⟩ := typ_rd (h x (by simp))
    obtain ⟨ys, rfl⟩ := typ_rds (xs := r) fun z hz => h z (List.mem_cons_of_mem _ hz)
    exact ⟨y :: ys, rfl⟩
theorem typ_roads {x : D} (h : Typ roadsSh x) : ∃ n rs, x = roadsD n rs ∧ rs.length ≤ 9223372036854775807 := by
  cases h with | @agg _ cs hl h =>
  match cs, hl with
  | [a, b], _ =>
    have h0 := h 0 _ a rfl rfl
    have h1 := h 1 _ b rfl rfl
    cases h0 with | @int _ n _ =>
    cases h1 with | @list _ _ xs hlen hx =>
    obtain ⟨rs, rfl⟩ := typ_rds hx
    exact ⟨n, rs, rfl, by have : maxLen ≤ 9223372036854775807 := by decide
                          simp at hlen; omega⟩

theorem sh_roads : IsSh Try.prog 24 roadsSh := shB_sound 6 (by kernel_rfl)

set_option maxRecDepth 100000 in
theorem frv_lifted (os : Os) (started : os.Started) (H : Type) (enc : TypeId × Value → H) :
    ReturnsInHanded {} Try.checked os 3 .any (Ytfldfcibjkhpnaa.Rows.fnExactRoadsValidSpec.pre6 enc Try.prog Try.f3 Ytfldfcibjkhpnaa.Rows.fnExactRoadsValidRow.domain false) (Ytfldfcibjkhpnaa.Rows.fnExactRoadsValidSpec.post enc Try.prog Try.f3 false true false false) := by
  refine returnsInHanded_of_change (C := Try.checked) own started (by kernel_rfl) Try.func3
    (ChangeSpec.witness6 (enc := enc) (C := Try.checked) false ⟨#[], #[.agg #[.int .i64 0, .slice none 0 0]], []⟩ 8 (by kernel_rfl) (by kernel_rfl) (by kernel_rfl) (by kernel_rfl)) ?_
  intro W base args ds gs before hval0 hW hcnd _
  have hval : ∀ (j : Nat) t v, Try.f3.params[j]? = some t → args[j]? = some v → Value.okWide Try.prog W .any base t v := hval0
  have hW' := hW
  obtain ⟨p, q, hA0, hV, rfl, hfz, hnd⟩ := hW
  have hA : DataW.TrodAll enc Try.prog W 0 (fun _ => true) true Try.f3.params.toList args.toList ds p := hA0
  rw [Try.params3] at hA hval
  obtain ⟨v0, d0, rfl, rfl, h0⟩ := trodAll_one hA
  obtain ⟨rfl, rfl⟩ := trodVars_none hV
  have hw0 := hval 0 24 v0 rfl rfl
  clear hA0 hval0
  simp only [List.append_nil] at hW'
  obtain ⟨x, hx, hrx⟩ := arg_data sh_roads hw0 h0
  obtain ⟨n, rs, rfl, hlen⟩ := typ_roads hx
  refine (law_walk (xs := [roadsD n rs]) (vs := [v0]) (c_FnExactRoadsValid n rs hlen) rfl (fun i v y hv hy => ?_)).mono fun e W' ⟨he, hb⟩ => ?_
  · cases i with
    | zero => simp at hv hy; subst hv; subst hy; exact hrx
    | succ i => simp at hv
  subst he
  refine ⟨_, rfl, law_post rfl hW' hb (trodAll_mk1 (shut_bool Try.underlying4 true)) ?_ rfl⟩
  exact trodAll_mk1 (Below.trod laidOut (by kernel_rfl) (of_decide_eq_true (by kernel_rfl)) h0 hb fun y hy => hW'.lt y hy)

theorem fnExactRoadsValid_holds : Ytfldfcibjkhpnaa.Rows.FnExactRoadsValidSaid :=
  OpenClaim.holds_of_wide 3 Try.f3 rfl rfl rfl rfl rfl rfl rfl ⟨rfl, rfl, rfl, rfl, rfl⟩ rfl rfl rfl rfl rfl (by kernel_rfl) Try.func3 (by kernel_rfl)
    (of_decide_eq_true (by kernel_rfl)) (by unfold Func.isWrapper; first | (rw [if_pos (by decide +kernel)]; kernel_rfl) | (rw [if_neg (by decide +kernel)]; exact ⟨rfl, rfl⟩))
    (fun os started H enc _ => frv_lifted os started H enc)
end Go.Fw
namespace Go.Proofs.Ytfldfcibjkhpnaa
theorem fnExactRoadsValid_holds : Rows.FnExactRoadsValidSaid := Go.Fw.fnExactRoadsValid_holds
end Go.Proofs.Ytfldfcibjkhpnaa
#print axioms Go.Proofs.Ytfldfcibjkhpnaa.fnExactRoadsValid_holds
