/- The reference's smallest automaton. -/
import Derived.Test.YteenfgdemklhcaaOe
set_option linter.unusedSimpArgs false
set_option linter.unusedVariables false
namespace Go.Fw
open Go Go.Proofs
set_option linter.unusedSectionVars false
set_option linter.unnecessarySimpa false

theorem fine_of_okDf {a : Df} (h : okDf a = true) : a.fine := by
  obtain ⟨n1, n2, n3⟩ := okDf_len h
  refine ⟨by omega, fun x hx => ?_, by omega⟩
  obtain ⟨i, hi, rfl⟩ := List.mem_iff_getElem.1 hx
  have := (okDf_row h hi).1
  rw [← (getD_row (xs := a.next) (i := i) [] hi).2 hi] at this
  omega

/-- Of the row 'r' with the classes. -/
def clsRow (cl : List Int) (r : List Int) : List Int := r.map fun t => cl.getD t.toNat 0

set_option maxRecDepth 100000 in
theorem c_l10Small (a : Df) (h : okDf a = true) : DCalls Try.prog 58 [.d a.d] fun r => ∃ y : Df, r = y.d ∧ IsMin a y := by
  refine dcalls_intro Ty.mixed Try.func58 rfl rfl rfl [1] (by kernel_rfl) (by simp) ?_
  simp [Df.d]
  refine .ddat (c_DfaTrim a h (fine_of_okDf h)) rfl (by simp [Df.d]) ?_
  rintro _ ⟨x, rfl, hx⟩
  have hxo := hx.ok h
  obtain ⟨n1, n2, n3⟩ := okDf_len hxo
  simp [Df.d]
  refine .ddat (c_l10Classes x hxo) rfl (by simp [Df.d]) ?_
  rintro _ ⟨cl, rfl, hcl⟩
  have hcn := hcl.len
  simp
  refine LoopVC.wk (Wk.adoptBx 500 0 901 1 (cs := [.nl, .nl]) (by simp) rfl (by simp)) ?_
  refine LoopVC.wk (Wk.adoptBx 500 1 902 1 (cs := [.sl 1 901 0 0, .nl]) (by simp) rfl (by simp)) ?_
  refine LoopVC.at { k : Nat // k ≤ x.next.length } (fun k => [(2, .ptr 200 0), (3, .ptr 300 0), (4, .d (intsD cl)), (5, .ptr 500 0), (6, iA k.1)])
    (fun k => [(200, .bx [.nl, .nl]), (300, .bx [.d (rowsD x.next), .d (bsD x.ends)]), (500, .bx [.sl 1 901 0 k.1, .sl 1 902 0 k.1]), (901, .ar 1 ((x.next.take k.1).map fun r => intsD (clsRow cl r))), (902, .ar 1 ((x.ends.take k.1).map bD))]) [200, 300, 500, 901, 902] (fun k => x.next.length - k.1) ⟨0, by simp⟩ (by simp) (by simp) ?_
  rintro ⟨k, hk⟩
  rcases Nat.lt_or_ge k x.next.length with hkn | hkn
  · obtain ⟨g1, g2⟩ := okDf_row hxo hkn
    have a1 := getD_row (xs := x.next) (i := k) [] hkn
    have htk : ∀ f : List Int → D, (x.next.map f).take (k + 1) = (x.next.map f).take k ++ [f (x.next.getD k [])] := fun f => by
      rw [← List.map_take, ← List.map_take, take_snoc hkn, a1.2 hkn]; simp
    have hke : k < x.ends.length := by omega
    have hte : (x.ends.map bD).take (k + 1) = (x.ends.map bD).take k ++ [bD x.ends[k]] := by
      rw [← List.map_take, ← List.map_take, take_snoc hke, List.map_append]; rfl
    have h1 := htk fun r => intsD (clsRow cl r)
    generalize x.next.getD k [] = nr at *
    have hrl : (clsRow cl nr).length = 3 := by simp [clsRow, g1]
    simp [hkn]
    refine LoopVC.at { c : Nat // c ≤ 3 } (fun c => [(2, .ptr 200 0), (3, .ptr 300 0), (4, .d (intsD cl)), (5, .ptr 500 0), (6, iA k), (7, .sl 1 2100 0 c.1), (8, iA c.1)])
      (fun c => [(200, .bx [.nl, .nl]), (300, .bx [.d (rowsD x.next), .d (bsD x.ends)]), (500, .bx [.sl 1 901 0 k, .sl 1 902 0 k]), (901, .ar 1 ((x.next.take k).map fun r => intsD (clsRow cl r))), (902, .ar 1 ((x.ends.take k).map bD)), (2100, .ar 1 (((clsRow cl nr).take c.1).map iD))]) [200, 300, 500, 901, 902, 2100] (fun c => 3 - c.1) ⟨0, by simp⟩ (by simp) (by simp) ?_
    rintro ⟨c, hc⟩
    rcases Nat.lt_or_ge c 3 with hc3 | hc3
    · have a2 := getD_row (xs := nr) (i := c) 0 (by omega)
      have hst := g2 _ (List.mem_of_getElem? a2.1)
      have hrt : ((clsRow cl nr).map iD).take (c + 1) = ((clsRow cl nr).map iD).take c ++ [iD (cl.getD (nr.getD c 0).toNat 0)] := by
        rw [← List.map_take, ← List.map_take, take_snoc (by omega), List.map_append]
        simp only [clsRow, List.getElem_map, a2.2 (by omega)]; rfl
      generalize nr.getD c 0 = t at *
      obtain ⟨t', rfl⟩ : ∃ z : Nat, t = z := ⟨t.toNat, by have := hst.1; omega⟩
      have ht' : t' < x.next.length := by have := hst.2; omega
      obtain ⟨v, b1, b1', eb⟩ := getD_ex (xs := cl) (i := t') (by omega)
      simp only [Int.toNat_natCast, eb] at hrt
      have l3 : (c : Int) < 3 := by omega
      simp [l3, hkn, a1, a2, g1, hc3, hcn, ht', b1, b1']
      refine ⟨⟨by omega, by omega, by omega⟩, c + 1, .mk ?_ ?_, hc3, by omega⟩
      · simp; exact wrap64 (by omega) (by omega)
      · simp [hrt]
    · have : c = 3 := by omega
      subst this
      have hrt : List.take 3 ((clsRow cl nr).map iD) = (clsRow cl nr).map iD := List.take_of_length_le (by simp [hrl])
      simp [hrl]
      refine ⟨by omega, ?_⟩
      refine .one (sch [.pur 0, .pur 1, .pur 2, .pur 3, .pur 4, .pur 5, .pur 6, .eff 7 [0, 1], .eff 8 [], .pur 9, .eff 10 []]) (by kernel_rfl) ?_
      simp [hke]
      refine ⟨⟨by omega, by omega, by omega⟩, k + 1, .mk ?_ ?_, hkn, by omega⟩
      · simp; exact wrap64 (by omega) (by omega)
      · simp [h1, hte, hrt]
  · have : k = x.next.length := by omega
    subst this
    have hco := clsDf_ok hxo hcl
    have hdc : (clsDf x cl).d = .agg [.list (x.next.map fun r => intsD (clsRow cl r)), bsD x.ends] := by
      simp only [Df.d, clsDf, rowsD, List.map_map]; rfl
    simp
    refine .ddropE (c_DfaTrim (clsDf x cl) hco (fine_of_okDf hco)) rfl ?_ ?_ ?_
    · rw [hdc]
      simp
      have e2 : List.take x.next.length (List.map bD x.ends) = List.map bD x.ends := List.take_of_length_le (by simp [n3])
      exact ⟨List.take_of_length_le (by simp), by rw [e2, e2]⟩
    · simp; omega
    rintro _ ⟨y, rfl, hy⟩
    simp [Df.d]
    exact ⟨y, ⟨rfl, rfl⟩, min_of_trims h hx hcl hy⟩

end Go.Fw
