/- Expressions compiled, as the reference does it: what comes out is an automaton. -/
import Derived.Test.YtpecepipllbghaaDoorOi
import Derived.Test.YtpecepipllbghaaDoorOb
set_option linter.unusedSimpArgs false
set_option linter.unusedVariables false
namespace Go.Fw
open Go Go.Proofs
set_option linter.unusedSectionVars false
set_option linter.unnecessarySimpa false

theorem needs_kind {p : Pt} : (needs p = 0 → (p.k = 1 ∨ p.k = 2 ∨ p.k = 3 ∧ 0 ≤ p.l ∧ p.l < 3)) ∧ (needs p = 1 → p.k = 7 ∨ p.k = 8) ∧ (needs p = 2 → p.k = 4 ∨ p.k = 5 ∨ p.k = 6) := by
  unfold needs
  split
  · rename_i h
    simp only [okPt, inR, Bool.and_eq_true, Bool.or_eq_true, decide_eq_true_eq, Bool.not_eq_true', decide_eq_false_iff_not] at h
    refine ⟨fun h' => ?_, fun h' => ?_, fun h' => ?_⟩ <;> (split at h' <;> (try split at h')) <;> omega
  · refine ⟨fun h' => ?_, fun h' => ?_, fun h' => ?_⟩ <;> omega

theorem tmono {P : Program} {f : FuncId} {args : List AV} {R R' : List D → Prop} (h : TCalls P f args R) (hk : ∀ r, R r → R' r) : TCalls P f args R' :=
  ACalls.mono h fun _ _ _ ⟨⟨r, h1, h2⟩, h3⟩ => ⟨⟨r, h1, hk r h2⟩, h3⟩
theorem MadeR.no {r : List D} (h : r = [(Df.mk [] []).d, .bool false]) : MadeR r := ⟨⟨[], []⟩, false, h, by simp⟩

set_option maxRecDepth 100000 in
theorem c_l11Leaf (p : Pt) (h : needs p = 0) : TCalls Tryd.prog 70 [.d (ptsD [p])] MadeR := by
  refine tcalls_intro Ty.mixed Tryd.func70 rfl rfl rfl [] (by kernel_rfl) (by simp) ?_
  have hsp : TCalls Tryd.prog 79 [.d (.list [p.d])] fun r => r = [.list [], .list []] := c_l2Split0 p h
  have hk := needs_kind.1 h
  have hw0 : IntKind.i64.wrap 0 = 0 := by decide
  have hsmall : ∀ x : Df, okDf x = true → DCalls Tryd.prog 83 [.d x.d] fun r => ∃ y : Df, r = y.d ∧ IsMin x y := fun x hx => c_l10Small x hx
  simp [Pt.d, hw0]
  refine ⟨rfl, ?_⟩
  refine .tdat hsp rfl (by simp [Pt.d]) ?_
  rintro _ rfl
  rcases hk with hk | hk | ⟨hk, hl⟩
  · simp [hk]
    refine .ddropE (hsmall ⟨[[0, 0, 0]], [false]⟩ (by decide)) rfl (by simp [Df.d]) (by simp) ?_
    rintro _ ⟨y, rfl, hy⟩
    simp [Df.d]
    exact ⟨y, true, rfl, fun _ => hy.1.ok⟩
  · simp [hk]
    refine ⟨rfl, rfl, ?_⟩
    refine .ddropE (hsmall ⟨[[1, 1, 1], [1, 1, 1]], [true, false]⟩ (by decide)) rfl (by simp [Df.d]) (by simp) ?_
    rintro _ ⟨y, rfl, hy⟩
    simp [Df.d]
    exact ⟨y, true, rfl, fun _ => hy.1.ok⟩
  · have hll : p.l = 0 ∨ p.l = 1 ∨ p.l = 2 := by omega
    simp [hk]
    refine ⟨rfl, hl, hl.2, rfl, ?_⟩
    rcases hll with hll | hll | hll
    · simp only [hll]
      refine .ddropE (hsmall ⟨[[1, 2, 2], [2, 2, 2], [2, 2, 2]], [false, true, false]⟩ (by decide)) rfl (by simp [Df.d]) (by simp) ?_
      rintro _ ⟨y, rfl, hy⟩
      simp [Df.d]
      exact ⟨y, true, rfl, fun _ => hy.1.ok⟩
    · simp only [hll]
      refine .ddropE (hsmall ⟨[[2, 1, 2], [2, 2, 2], [2, 2, 2]], [false, true, false]⟩ (by decide)) rfl (by simp [Df.d]) (by simp) ?_
      rintro _ ⟨y, rfl, hy⟩
      simp [Df.d]
      exact ⟨y, true, rfl, fun _ => hy.1.ok⟩
    · simp only [hll]
      refine .ddropE (hsmall ⟨[[2, 2, 1], [2, 2, 2], [2, 2, 2]], [false, true, false]⟩ (by decide)) rfl (by simp [Df.d]) (by simp) ?_
      rintro _ ⟨y, rfl, hy⟩
      simp [Df.d]
      exact ⟨y, true, rfl, fun _ => hy.1.ok⟩

/-- The other words. -/
def notDf (a : Df) : Df := ⟨a.next, a.ends.map fun b => !b⟩
theorem notDf_ok {a : Df} (h : okDf a = true) : okDf (notDf a) = true := by
  simp only [okDf, notDf] at *
  simpa using h

set_option maxRecDepth 100000 in
theorem c_l11Un (p : Pt) (e E : List Pt) (hE : E = e ++ [p]) (h : needs p = 1) (h1 : 0 < e.length) (h2 : e.length ≤ 1000) (hsp : TCalls Tryd.prog 79 [.d (ptsD E)] fun r => r = [ptsD e, ptsD []])
    (ih : TCalls Tryd.prog 70 [.d (ptsD e)] MadeR) : TCalls Tryd.prog 70 [.d (ptsD E)] MadeR := by
  refine tcalls_intro Ty.mixed Tryd.func70 rfl rfl rfl [] (by kernel_rfl) (by simp) ?_
  have hn : E.length = e.length + 1 := by rw [hE]; simp
  have hp : E[e.length]? = some p := by rw [hE]; simp
  have hpl : e.length < E.length := by omega
  have hp2 : E[e.length] = p := by have := List.getElem?_eq_some_iff.1 hp; exact this.2
  have hw : IntKind.i64.wrap (e.length : Int) = e.length := wrap64 (by omega) (by omega)
  have hk := needs_kind.2.1 h
  have h1' : (0 : Int) < e.length := by omega
  simp [Pt.d, hn, hw, hp2, hpl]
  refine ⟨rfl, by omega, ?_⟩
  refine .tdat hsp rfl (by simp [Pt.d]) ?_
  rintro _ rfl
  simp [h1, h1']
  refine .tdat ih rfl (by simp [Pt.d]) ?_
  rintro _ ⟨a, ok, rfl, ha⟩
  cases ok with
  | false =>
    simp [Df.d]
    exact .no rfl
  | true =>
    have ha := ha rfl
    obtain ⟨n1, n2, n3⟩ := okDf_len ha
    rcases hk with hk | hk
    · simp [Df.d, hk]
      refine LoopVC.wk (Wk.adoptBx 1200 1 901 1 (cs := [.d (rowsD a.next), .nl]) (by simp) rfl (by simp)) ?_
      refine LoopVC.at { k : Nat // k ≤ a.ends.length } (fun k => [(2, .ptr 200 0), (8, .ptr 800 0), (10, .d (.bool true)), (12, .ptr 1200 0), (14, iA k.1)])
        (fun k => [(200, .bx [.nl, .nl]), (800, .bx [.d (rowsD a.next), .d (bsD a.ends)]), (1200, .bx [.d (rowsD a.next), .sl 1 901 0 k.1]), (901, .ar 1 ((a.ends.take k.1).map fun b => bD (!b)))]) [200, 800, 901, 1200] (fun k => a.ends.length - k.1) ⟨0, by simp⟩ (by simp) (by simp) ?_
      rintro ⟨k, hk⟩
      rcases Nat.lt_or_ge k a.ends.length with hk' | hk'
      · have hte : (a.ends.map fun b => bD (!b)).take (k + 1) = (a.ends.map fun b => bD (!b)).take k ++ [bD !a.ends[k]] := by
          rw [← List.map_take, ← List.map_take, take_snoc hk', List.map_append]; rfl
        simp [hk']
        refine .one (sch [.pur 0, .pur 1, .pur 2, .pur 3, .pur 4, .pur 5, .pur 6, .pur 7, .eff 8 [0, 1], .eff 9 [], .pur 10, .eff 11 []]) (by kernel_rfl) ?_
        simp [hk']
        refine ⟨⟨by omega, by omega, by omega⟩, k + 1, .mk ?_ ?_, hk', by omega⟩
        · simp; exact wrap64 (by omega) (by omega)
        · simp [hte]
      · have : k = a.ends.length := by omega
        subst this
        simp
        refine .ddropE (c_l10Small (notDf a) (notDf_ok ha)) rfl ?_ (by simp) ?_
        · simp [Df.d, notDf]
          rw [List.take_of_length_le (by simp)]
          rfl
        rintro _ ⟨y, rfl, hy⟩
        simp [Df.d]
        exact ⟨y, true, rfl, fun _ => hy.1.ok⟩
    · simp [Df.d, hk]
      refine .tdat (c_l11Star a ha) rfl (by simp [Df.d]) ?_
      rintro _ ⟨x, ok, rfl, hx⟩
      cases ok with
      | false =>
        simp [Df.d]
        exact .no rfl
      | true =>
        simp [Df.d]
        refine .ddat (c_l10Small x (hx rfl)) rfl (by simp [Df.d]) ?_
        rintro _ ⟨y, rfl, hy⟩
        simp [Df.d]
        exact ⟨y, true, rfl, fun _ => hy.1.ok⟩

set_option maxRecDepth 100000 in
theorem c_l11Bin (p : Pt) (e f E : List Pt) (hE : E = e ++ f ++ [p]) (h : needs p = 2) (h1 : 0 < e.length) (h2 : 0 < f.length) (h3 : e.length + f.length ≤ 1000) (hsp : TCalls Tryd.prog 79 [.d (ptsD E)] fun r => r = [ptsD e, ptsD f])
    (ih1 : TCalls Tryd.prog 70 [.d (ptsD e)] MadeR) (ih2 : TCalls Tryd.prog 70 [.d (ptsD f)] MadeR) : TCalls Tryd.prog 70 [.d (ptsD E)] MadeR := by
  refine tcalls_intro Ty.mixed Tryd.func70 rfl rfl rfl [] (by kernel_rfl) (by simp) ?_
  have hn : E.length = e.length + f.length + 1 := by rw [hE]; simp; omega
  have hp : E[e.length + f.length]? = some p := by rw [hE]; simp
  have hk := needs_kind.2.2 h
  have h1' : (0 : Int) < e.length := by omega
  have h2' : (0 : Int) < f.length := by omega
  generalize hN : e.length + f.length = N at *
  have hpl : N < E.length := by omega
  have hp2 : E[N] = p := by have := List.getElem?_eq_some_iff.1 hp; exact this.2
  have hw : IntKind.i64.wrap (N : Int) = N := wrap64 (by omega) (by omega)
  simp [Pt.d, hn, hw, hp2, hpl]
  refine ⟨rfl, by omega, ?_⟩
  refine .tdat hsp rfl (by simp [Pt.d]) ?_
  rintro _ rfl
  simp [h1, h1']
  refine .tdat ih1 rfl (by simp [Pt.d]) ?_
  rintro _ ⟨a, ok, rfl, ha⟩
  simp [Df.d, h2, h2']
  refine .tdat ih2 rfl (by simp [Pt.d]) ?_
  rintro _ ⟨b, ok2, rfl, hb⟩
  cases ok with
  | false =>
    simp [Df.d]
    exact .no rfl
  | true =>
  cases ok2 with
  | false =>
    simp [Df.d]
    exact .no rfl
  | true =>
    have ha := ha rfl
    have hb := hb rfl
    rcases hk with hk | hk | hk
    · simp [Df.d, hk]
      refine .tdat (c_l11Join a b ha hb) rfl (by simp [Df.d]) ?_
      rintro _ ⟨x, ok, rfl, hx⟩
      cases ok with
      | false =>
        simp [Df.d]
        exact .no rfl
      | true =>
        simp [Df.d]
        refine .ddat (c_l10Small x (hx rfl)) rfl (by simp [Df.d]) ?_
        rintro _ ⟨y, rfl, hy⟩
        simp [Df.d]
        exact ⟨y, true, rfl, fun _ => hy.1.ok⟩
    · simp [Df.d, hk]
      refine .tdat (tmono (c_l11Pair a b 1 ha hb (by omega)) fun _ h => h.ok) rfl (by simp [Df.d]) ?_
      rintro _ ⟨x, ok, rfl, hx⟩
      cases ok with
      | false =>
        simp [Df.d]
        exact .no rfl
      | true =>
        simp [Df.d]
        refine .ddat (c_l10Small x (hx rfl)) rfl (by simp [Df.d]) ?_
        rintro _ ⟨y, rfl, hy⟩
        simp [Df.d]
        exact ⟨y, true, rfl, fun _ => hy.1.ok⟩
    · simp [Df.d, hk]
      refine .tdat (tmono (c_l11Pair a b 0 ha hb (by omega)) fun _ h => h.ok) rfl (by simp [Df.d]) ?_
      rintro _ ⟨x, ok, rfl, hx⟩
      cases ok with
      | false =>
        simp [Df.d]
        exact .no rfl
      | true =>
        simp [Df.d]
        refine .ddat (c_l10Small x (hx rfl)) rfl (by simp [Df.d]) ?_
        rintro _ ⟨y, rfl, hy⟩
        simp [Df.d]
        exact ⟨y, true, rfl, fun _ => hy.1.ok⟩

theorem c_l11Dfa : ∀ (t : Tr), t.ok → t.parts.length ≤ 1000 → TCalls Tryd.prog 70 [.d (ptsD t.parts)] MadeR
  | .leaf p, h, _ => c_l11Leaf p h
  | .un p a, h, hl => by
    obtain ⟨h1, h2⟩ := h
    simp only [Tr.parts, List.length_append, List.length_singleton] at hl
    exact c_l11Un p a.parts _ rfl h1 (Tr.pos a) (by omega) (c_l2SplitA _ a.parts p h1 (by omega) rfl) (c_l11Dfa a h2 (by omega))
  | .bin p a b, h, hl => by
    obtain ⟨h1, h2, h3⟩ := h
    simp only [Tr.parts, List.length_append, List.length_singleton] at hl
    exact c_l11Bin p a.parts b.parts _ rfl h1 (Tr.pos a) (Tr.pos b) (by omega) (c_l2SplitB _ p a b h1 h2 h3 (by omega) rfl) (c_l11Dfa a h2 (by omega)) (c_l11Dfa b h3 (by omega))

theorem c_CompileExpr (e : List Pt) (hl : e.length ≤ 1000000) : TCalls Tryd.prog 61 [.d (ptsD e)] MadeR := by
  refine tcalls_intro Ty.mixed Tryd.func61 rfl rfl rfl [] (by kernel_rfl) (by simp) ?_
  simp
  refine .dval (c_ExprValid e hl) rfl (by simp) rfl ?_
  simp
  refine ⟨fun _ => .no rfl, fun hv => ?_⟩
  obtain ⟨t, rfl, ht, htl⟩ := okEx_tree hv
  refine .tdat (c_l11Dfa t ht (by omega)) rfl (by simp) ?_
  rintro _ ⟨x, ok, rfl, hx⟩
  simp [Df.d]
  exact ⟨x, ok, rfl, hx⟩
end Go.Fw
