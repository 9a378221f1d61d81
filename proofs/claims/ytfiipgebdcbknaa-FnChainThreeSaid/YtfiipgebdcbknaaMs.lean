/- One rewriter behind the other, as the program finds it. -/
import Derived.Test.YtfiipgebdcbknaaMp
set_option linter.unusedSimpArgs false
set_option linter.unusedVariables false
namespace Go.Fw
open Go Go.Proofs
set_option linter.unusedSectionVars false
set_option linter.unnecessarySimpa false

abbrev rwP (r : Rw) : AV := .dp [.d (.list (r.next.map intsD)), .d (.list (r.out.map ssD)), .d (ssD r.fin)]

set_option maxRecDepth 100000 in
theorem c_chain1 (a b : Rw) (s : Pr) (c : Int) (ha : okRw a = true) (hb : okRw b = true) (hs : okPr a b s) (hc : 0 ≤ c ∧ c < 3) :
    DCalls Try.prog 65 [.d (pD s), iA c, rwP b, rwP a] fun y => y = pD (nxC a b s c) := by
  obtain ⟨⟨s1, s2⟩, s3, s4⟩ := hs
  obtain ⟨n1, n2, n3, n4⟩ := okRw_len ha
  have hol := isOut_l (okRw_o ha ⟨s1, s2⟩ hc)
  have hk : s.a.toNat < a.next.length := by omega
  obtain ⟨g1, g2, g3, g4, g5⟩ := okRw_row ha hk
  have a1 := getD_row (xs := a.next) (i := s.a.toNat) [] hk
  have a2 := getD_row (xs := a.out) (i := s.a.toNat) [] (by omega)
  have a3 := getD_row (xs := a.next.getD s.a.toNat []) (i := c.toNat) 0 (by omega)
  have a4 := getD_row (xs := a.out.getD s.a.toNat []) (i := c.toNat) [] (by omega)
  have ho : a.o s.a c = (a.out.getD s.a.toNat []).getD c.toNat [] := rfl
  have hn : a.n s.a c = (a.next.getD s.a.toNat []).getD c.toNat 0 := rfl
  rw [← hn] at a3
  rw [← ho] at a4
  have hx : nxC a b s c = ⟨a.n s.a c, (runRw b s.b (a.o s.a c)).1⟩ := rfl
  rw [hx]
  refine dcalls_intro Ty.mixed Try.func65 rfl rfl rfl [4] (by kernel_rfl) (by simp) ?_
  have hrun := c_rwRun b s.b (a.o s.a c) hb ⟨s3, s4⟩ hol.1 (by omega)
  generalize a.n s.a c = nv at *
  generalize a.o s.a c = ov at *
  generalize a.next.getD s.a.toNat [] = nx at *
  generalize a.out.getD s.a.toNat [] = ox at *
  have l2 : c.toNat < 3 := by omega
  simp [pD]
  refine .one (sch [.pur 0, .pur 1, .pur 2, .pur 3, .pur 4, .pur 5, .pur 6, .pur 7, .pur 8, .pur 9, .pur 10, .pur 11, .eff 12 [], .pur 13, .pur 14, .pur 15, .pur 16, .pur 17]) (by kernel_rfl) ?_
  simp [s1, s2, n3, a1, a2, a3, a4, g1, g2, hc, l2]
  refine .tdat hrun rfl (by simp [Rw.d]) ?_
  rintro _ rfl
  simp [s1, s2, n3, a1, a2, a3, a4, g1, g2, hc, l2]
theorem c_chain2 (s : Pr) : DCalls Try.prog 66 [.d (pD s)] fun y => y = .bool false := by
  refine dcalls_intro Ty.mixed Try.func66 rfl rfl rfl [1] (by kernel_rfl) (by simp) ?_
  simp [pD]
end Go.Fw
