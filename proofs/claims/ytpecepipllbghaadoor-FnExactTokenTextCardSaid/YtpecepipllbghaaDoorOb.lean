/- Expressions: validity; where an operand begins; the operands. -/
import Derived.Test.YtpecepipllbghaaDoorOa
import Derived.Test.YtpecepipllbghaaDoorFwb
set_option linter.unusedSimpArgs false
set_option linter.unusedVariables false

namespace Go.Fw
open Go Go.Proofs
set_option linter.unusedSectionVars false

theorem wrap64_2 {a b : Int} (h1 : -1000000000000 ≤ a) (h2 : a ≤ 1000000000000) (h3 : -1000000000000 ≤ b) (h4 : b ≤ 1000000000000) : IntKind.i64.wrap (IntKind.i64.wrap (a - b) + 1) = a - b + 1 := by
  rw [wrap64 (n := a - b) (by omega) (by omega), wrap64 (by omega) (by omega)]
theorem c_PartValid (p : Pt) : DCalls Tryd.prog 86 [.d p.d] fun y => y = .bool (okPt p) := by
  refine dcalls_intro Ty.mixed Tryd.func86 rfl rfl rfl [1] (by kernel_rfl) (by simp) ?_
  simp [Pt.d]
  refine .dval (c_l1In _ _ _) rfl (by simp) rfl ?_
  simp
  refine .flat (fun _ => c_l1In _ _ _) rfl (by simp) rfl (by simp) ?_
  simp [okPt]
  cases inR p.k 1 8 <;> cases inR p.l 0 2 <;> by_cases h3 : p.k = 3 <;> by_cases h0 : p.l = 0 <;> simp [h3, h0]

theorem c_PartNeeds (p : Pt) : DCalls Tryd.prog 78 [.d p.d] fun y => y = iD (needs p) := by
  refine dcalls_intro Ty.mixed Tryd.func78 rfl rfl rfl [1] (by kernel_rfl) (by simp) ?_
  simp [Pt.d]
  refine .dval (c_PartValid p) rfl (by simp [Pt.d]) rfl ?_
  simp
  refine ⟨fun h => by simp [needs, h], fun h => ?_⟩
  have hk : 1 ≤ p.k ∧ p.k ≤ 8 := by simp [okPt, inR] at h; exact h.1
  have hc : p.k = 1 ∨ p.k = 2 ∨ p.k = 3 ∨ p.k = 4 ∨ p.k = 5 ∨ p.k = 6 ∨ p.k = 7 ∨ p.k = 8 := by omega
  rcases hc with hc | hc | hc | hc | hc | hc | hc | hc <;> simp [needs, h, hc]

theorem exD_bd (e : List Pt) : ∀ d, exD e = some d → 0 ≤ d ∧ d ≤ e.length := by
  induction e using snocInd with
  | nil => intro d h; simp [exD] at h; subst h; simp
  | snoc e p ih =>
    intro d h
    rw [exD_snoc] at h
    cases he : exD e with
    | none => rw [he] at h; simp [stepX] at h
    | some d0 =>
      rw [he] at h
      have := ih d0 he
      simp only [stepX, Option.bind_some] at h
      split at h
      · cases h
      · simp only [Option.some.injEq] at h
        have hb := needs_bd p
        simp; omega
theorem exD_take {e : List Pt} {i : Nat} (h : i < e.length) : exD (e.take (i + 1)) = stepX (exD (e.take i)) e[i] := by
  rw [List.take_succ_eq_append_getElem h, exD_snoc]
theorem exD_no {e : List Pt} {i : Nat} (h : exD (e.take i) = none) : okEx e = false := by
  have : exD e = none := by
    have e1 : e = e.take i ++ e.drop i := (List.take_append_drop i e).symm
    rw [e1]; unfold exD at h ⊢; rw [List.foldl_append, h, stepX_none]
  simp [okEx, this]

theorem c_ExprValid (e : List Pt) (hl : e.length ≤ 1000000) : DCalls Tryd.prog 69 [.d (ptsD e)] fun y => y = .bool (okEx e) := by
  refine dcalls_intro Ty.mixed Tryd.func69 rfl rfl rfl [] (by kernel_rfl) (by simp) ?_
  simp
  refine LoopVC.at { g : Nat × Int // g.1 ≤ e.length ∧ exD (e.take g.1) = some g.2 } (fun g => [(0, .d (ptsD e)), (3, iA g.1.2), (4, iA g.1.1)]) (fun _ => []) [] (fun g => e.length - g.1.1) ⟨(0, 0), by simp, by simp [exD]⟩ (by simp) (by simp) ?_
  rintro ⟨⟨i, d⟩, hi, hd⟩
  simp only at hi hd
  have hbd := exD_bd _ _ hd
  rcases Nat.lt_or_ge i e.length with h | h
  · have hsn := exD_take h
    rw [hd] at hsn
    simp [h, Pt.d]
    refine .dval (c_PartNeeds e[i]) rfl (by simp [Pt.d]) rfl ?_
    have hb := needs_bd e[i]
    simp at hbd
    simp [stepX] at hsn
    generalize needs e[i] = n at *
    simp
    refine ⟨fun hb => ?_, fun h1 h2 => ⟨i + 1, d - n + 1, .mk (by simp; exact ⟨wrap64_2 (by omega) (by omega) (by omega) (by omega), wrap64 (by omega) (by omega)⟩) (by simp), ⟨h, ?_⟩, by omega⟩⟩
    · rw [if_pos hb] at hsn
      exact exD_no hsn
    · rw [if_neg (by omega)] at hsn
      exact hsn
  · have : i = e.length := by omega
    subst this
    rw [List.take_length] at hd
    simp [okEx, hd]
    rfl

theorem wt_step {e : List Pt} {i : Nat} (h : i < e.length) : wt (e.drop i) = needs e[i] - 1 + wt (e.drop (i + 1)) := by
  rw [List.drop_eq_getElem_cons h, wt_cons]
theorem wt_hi : ∀ e : List Pt, wt e ≤ e.length
  | [] => by simp [wt]
  | p :: e => by
    have := wt_hi e
    have := needs_bd p
    rw [wt_cons]; simp; omega

theorem c_l2Start (pre post : List Pt) (t : Tr) (ht : t.ok) (hl : pre.length + t.parts.length + post.length ≤ 1000000) : DCalls Tryd.prog 87 [.d (ptsD (pre ++ t.parts ++ post)), iA ((pre.length : Int) + t.parts.length - 1)] fun y => y = iD pre.length := by
  refine dcalls_intro Ty.mixed Tryd.func87 rfl rfl rfl [] (by kernel_rfl) (by simp) ?_
  have hpos := Tr.pos t
  simp
  refine LoopVC.at { i : Nat // i < t.parts.length } (fun i => [(0, .d (ptsD (pre ++ t.parts ++ post))), (5, iA (1 + wt (t.parts.drop (i.1 + 1)))), (6, iA ((pre.length : Int) + i.1))]) (fun _ => []) [] (fun i => i.1) ⟨t.parts.length - 1, by omega⟩ (by
    have e : t.parts.length - 1 + 1 = t.parts.length := by omega
    simp [e, wt]
    omega) (by simp) ?_
  rintro ⟨i, hi⟩
  have hw := wt_step hi
  have h0 := Tr.wt_is t ht
  have hd := Tr.wt_drop t ht
  have hn := needs_bd t.parts[i]
  have hhi := wt_hi (t.parts.drop (i + 1))
  have hlo := hd (i + 1) (by omega)
  simp at hhi
  have hk : pre.length + i < (pre ++ t.parts ++ post).length := by simp; omega
  have he : (pre ++ t.parts ++ post)[pre.length + i] = t.parts[i] := by
    simp [List.getElem_append, hi]
  generalize hE : pre ++ t.parts ++ post = E at *
  have htn : ((pre.length : Int) + i).toNat = pre.length + i := by omega
  simp [hk, Pt.d, htn, show 0 ≤ (pre.length : Int) + i by omega, show (pre.length : Int) + i < E.length by omega]
  refine .dval (c_PartNeeds E[pre.length + i]) rfl (by simp [Pt.d]) rfl ?_
  rw [he]
  generalize needs t.parts[i] = n at *
  have hwr : IntKind.i64.wrap (IntKind.i64.wrap (1 + wt (t.parts.drop (i + 1)) - 1) + n) = 1 + wt (t.parts.drop i) := by
    rw [wrap64 (n := 1 + wt (t.parts.drop (i + 1)) - 1) (by omega) (by omega), wrap64 (by omega) (by omega)]; omega
  simp [hwr]
  refine ⟨fun hz => ?_, fun hz => ?_⟩
  · rcases Nat.eq_zero_or_pos i with h | h
    · omega
    · have := hd i h; omega
  · have hi0 : 0 < i := by
      rcases Nat.eq_zero_or_pos i with h | h
      · subst h; simp [h0] at hz
      · exact h
    refine ⟨i - 1, .mk ?_ (by simp), by omega, by omega⟩
    simp [show i - 1 + 1 = i by omega]
    rw [wrap64 (by omega) (by omega)]; omega

theorem c_l2Split0 (p : Pt) (h : needs p = 0) : TCalls Tryd.prog 79 [.d (ptsD (Tr.leaf p).parts)] fun r => r = [ptsD [], ptsD []] := by
  refine tcalls_intro Ty.mixed Tryd.func79 rfl rfl rfl [] (by kernel_rfl) (by simp) ?_
  have hw : IntKind.i64.wrap 0 = 0 := by decide
  simp [Tr.parts, Pt.d, hw]
  refine .dval (c_PartNeeds p) rfl (by simp [Pt.d]) rfl ?_
  simp [h]
theorem c_l2SplitA (E A : List Pt) (p : Pt) (h : needs p = 1) (hl : A.length ≤ 1000) (he : E = A ++ [p]) : TCalls Tryd.prog 79 [.d (ptsD E)] fun r => r = [ptsD A, ptsD []] := by
  refine tcalls_intro Ty.mixed Tryd.func79 rfl rfl rfl [] (by kernel_rfl) (by simp) ?_
  have hn : E.length = A.length + 1 := by rw [he]; simp
  have hp : E[A.length]? = some p := by rw [he]; simp
  have ht : E.take A.length = A := by rw [he]; simp
  have hw : IntKind.i64.wrap (A.length : Int) = A.length := wrap64 (by omega) (by omega)
  simp [Pt.d, hw, hp, hn]
  have hp2 : E[A.length] = p := by have := List.getElem?_eq_some_iff.1 hp; exact this.2
  refine ⟨by omega, ?_⟩
  refine .dval (c_PartNeeds E[A.length]) rfl (by simp [Pt.d]) rfl ?_
  rw [hp2]
  simp [h, hn]
  refine ⟨⟨by omega, fun _ => rfl⟩, ?_⟩
  rw [← List.map_take, ht]
theorem c_l2SplitB (E : List Pt) (p : Pt) (a b : Tr) (h : needs p = 2) (ha : a.ok) (hb : b.ok) (hl : a.parts.length + b.parts.length ≤ 1000) (he : E = a.parts ++ b.parts ++ [p]) : TCalls Tryd.prog 79 [.d (ptsD E)] fun r => r = [ptsD a.parts, ptsD b.parts] := by
  refine tcalls_intro Ty.mixed Tryd.func79 rfl rfl rfl [] (by kernel_rfl) (by simp) ?_
  have hn : E.length = a.parts.length + b.parts.length + 1 := by rw [he]; simp; omega
  have hp : E[a.parts.length + b.parts.length]? = some p := by rw [he]; simp
  have ht1 : E.take a.parts.length = a.parts := by rw [he]; simp
  have ht2 : (E.take (a.parts.length + b.parts.length)).drop a.parts.length = b.parts := by
    rw [he, List.take_append_of_le_length (by simp), List.take_of_length_le (by simp), List.drop_left]
  have hst := c_l2Start a.parts [p] b hb (by simp; omega)
  rw [← he] at hst
  generalize hN : a.parts.length + b.parts.length = N at *
  have hw : IntKind.i64.wrap (N : Int) = N := wrap64 (by omega) (by omega)
  simp [Pt.d, hw, hp, hn]
  have hp2 : E[N] = p := by have := List.getElem?_eq_some_iff.1 hp; exact this.2
  refine ⟨by omega, ?_⟩
  refine .dval (c_PartNeeds E[N]) rfl (by simp [Pt.d]) rfl ?_
  rw [hp2]
  simp [h, hn]
  have hw2 : IntKind.i64.wrap ((N : Int) - 1) = (a.parts.length : Int) + b.parts.length - 1 := by rw [wrap64 (by omega) (by omega)]; omega
  rw [hw2]
  refine .dval hst rfl (by simp) rfl ?_
  have hbp := Tr.pos b
  simp
  refine .one (sch [.pur 0, .pur 1, .pur 2, .pur 3, .pur 4, .pur 5, .pur 6, .pur 7, .pur 8]) (by kernel_rfl) ?_
  simp [hn]
  have hx : a.parts.length < E.length := by omega
  refine ⟨⟨by omega, fun _ => rfl⟩, ⟨by omega, by omega, fun _ => by simp [hx, Pt.d]⟩, ?_⟩
  rw [← List.map_take, ← List.map_take, ← List.map_drop, ht1, ht2]
  exact ⟨rfl, rfl⟩
end Go.Fw
