/- One rewriter behind the other, as the program finds it: the whole. -/
import Derived.Test.YtfiipgebdcbknaaMs
set_option linter.unusedSimpArgs false
set_option linter.unusedVariables false
namespace Go.Fw
open Go Go.Proofs
set_option linter.unusedSectionVars false
set_option linter.unnecessarySimpa false

theorem outC_take (a b : Rw) (s : Pr) {c : Nat} (hc : c < 3) : (outC a b s).take (c + 1) = (outC a b s).take c ++ [(runRw b s.b (a.o s.a c)).2] := by
  match c, hc with
  | 0, _ => rfl
  | 1, _ => rfl
  | 2, _ => rfl
def ChainR (a b : Rw) (r : List D) : Prop := ∃ R ok, r = [R.d, .bool ok] ∧ ChainIs a b R ok
theorem chainR_no {a b : Rw} (h : ChainIs a b zeroRw false) : ChainR a b [.agg [.list [], .list [], .list []], .bool false] := ⟨zeroRw, false, rfl, h⟩
set_option maxRecDepth 100000 in
theorem c_ChainRewriters (a b : Rw) (hfa : a.fine) (hfb : b.fine) : TCalls Try.prog 29 [.d a.d, .d b.d] (ChainR a b) := by
  refine tcalls_intro Ty.mixed Try.func29 rfl rfl rfl [2, 3] (by kernel_rfl) (by simp) ?_
  simp [Rw.d]
  refine .dval (c_RewriterValid a hfa.out hfa.fin hfa.next hfa.len) rfl (by simp [Rw.d]) rfl ?_
  simp
  refine .flat (fun _ => c_RewriterValid b hfb.out hfb.fin hfb.next hfb.len) rfl (by simp [Rw.d]) rfl (by simp) ?_
  simp
  refine ⟨fun hno => chainR_no (.inl ⟨?_, rfl, rfl⟩), fun ha hb => ?_⟩
  · rintro ⟨h1, h2⟩
    rcases hno with h | h
    · rw [h1] at h; cases h
    · rw [h2] at h; cases h
  have hex := c_exploredPair ⟨0, 0⟩ 12 (by omega) (by omega) (nxC a b) (fun _ => false) (okPr a b) ⟨st0Rw ha, st0Rw hb⟩ (fun s c hs hc => okPr_step ha hb hs hc)
    (cloS Try.prog 65 [] [rwP b, rwP a]) (cloS Try.prog 66 [] [])
    (fun s c hs hc K hK => ⟨_, c_chain1 a b s c ha hb hs hc, by rintro r rfl; rfl, by rintro r rfl; exact hK⟩)
    (fun s hs K hK => ⟨_, c_chain2 s, by rintro r rfl; rfl, by rintro r rfl; exact hK⟩)
  refine .tdat hex rfl (by simp [Rw.d, pD]) ?_
  rintro _ (⟨k, e1, e2, rfl⟩ | ⟨k, e1, rfl⟩)
  · have hw := metK_whole e1
    have hok := met_okPr ha hb k
    have hC1 : okRw (chainRw a b (metK (nxC a b) ⟨0, 0⟩ k)) = true → ChainIs a b (chainRw a b (metK (nxC a b) ⟨0, 0⟩ k)) true := fun h => .inr ⟨⟨ha, hb⟩, .inl ⟨k, e1, e2, .inl ⟨h, rfl, rfl⟩⟩⟩
    have hC2 : okRw (chainRw a b (metK (nxC a b) ⟨0, 0⟩ k)) = false → ChainIs a b zeroRw false := fun h => .inr ⟨⟨ha, hb⟩, .inl ⟨k, e1, e2, .inr ⟨h, rfl, rfl⟩⟩⟩
    have hnx : (autoL (nxC a b) (fun _ => false) (metK (nxC a b) ⟨0, 0⟩ k)).next = (chainRw a b (metK (nxC a b) ⟨0, 0⟩ k)).next := rfl
    clear hex
    generalize metK (nxC a b) ⟨0, 0⟩ k = L at *
    simp [Df.d]
    rw [hnx]
    generalize hNX : (chainRw a b L).next = NX
    refine LoopVC.wk (Wk.adoptBx 900 1 2301 1 (cs := [.d (.list (NX.map intsD)), .nl, .nl]) (by simp) rfl (by simp)) ?_
    refine LoopVC.wk (Wk.adoptBx 900 2 2302 1 (cs := [.d (.list (NX.map intsD)), .sl 1 2301 0 0, .nl]) (by simp) rfl (by simp)) ?_
    refine LoopVC.at { j : Nat // j ≤ L.length } (fun j => [(2, rwP a), (3, rwP b), (4, .ptr 400 0), (9, .ptr 900 0), (40, .d (.list (L.map pD))), (41, iA L.length), (42, iA j.1)])
      (fun j => [(400, .bx [.nl, .nl, .nl]), (900, .bx [.d (.list (NX.map intsD)), .sl 1 2301 0 j.1, .sl 1 2302 0 j.1]), (2301, .ar 1 ((L.take j.1).map fun s => ssD (outC a b s))), (2302, .ar 1 ((L.take j.1).map fun s => sD (finC a b s)))]) [400, 900, 2301, 2302] (fun j => L.length - j.1) ⟨0, by simp⟩ (by simp) (by simp) ?_
    rintro ⟨j, hj⟩
    rcases Nat.lt_or_ge j L.length with hjL | hjL
    · obtain ⟨s, hsj⟩ : ∃ s, L[j]? = some s := ⟨_, List.getElem?_eq_getElem hjL⟩
      have hps := hok s (List.mem_of_getElem? hsj)
      have htk : L.take (j + 1) = L.take j ++ [s] := by rw [take_snoc hjL]; simp [List.getElem?_eq_getElem hjL] at hsj; rw [hsj]
      obtain ⟨hj1, hsk⟩ := List.getElem?_eq_some_iff.1 hsj
      simp [show (j : Int) < L.length by omega, hj1, hsk, pD]
      refine LoopVC.wk (Wk.adoptSl 12 4301 1 (by simp) (by simp)) ?_
      refine LoopVC.at { c : Nat // c ≤ 3 } (fun c => [(2, rwP a), (3, rwP b), (4, .ptr 400 0), (9, .ptr 900 0), (11, .ptr 1100 0), (12, .sl 1 4301 0 c.1), (40, .d (.list (L.map pD))), (41, iA L.length), (42, iA j), (46, iA c.1)])
        (fun c => [(400, .bx [.nl, .nl, .nl]), (900, .bx [.d (.list (NX.map intsD)), .sl 1 2301 0 j, .sl 1 2302 0 j]), (1100, .bx [iA s.a, iA s.b]), (2301, .ar 1 ((L.take j).map fun s => ssD (outC a b s))), (2302, .ar 1 ((L.take j).map fun s => sD (finC a b s))), (4301, .ar 1 (((outC a b s).take c.1).map sD))]) [400, 900, 1100, 2301, 2302, 4301] (fun c => 3 - c.1) ⟨0, by simp⟩ (by simp) (by simp [pD]) ?_
      rintro ⟨c, hc⟩
      obtain ⟨⟨s1, s2⟩, s3, s4⟩ := hps
      obtain ⟨n1, n2, n3, n4⟩ := okRw_len ha
      obtain ⟨m1, m2, m3, m4⟩ := okRw_len hb
      have hk : s.a.toNat < a.next.length := by omega
      obtain ⟨g1, g2, g3, g4, g5⟩ := okRw_row ha hk
      rcases Nat.lt_or_ge c 3 with hc3 | hc3
      · have hol := isOut_l (okRw_o ha (q := s.a) ⟨s1, s2⟩ (c := c) (by omega))
        have hrun := c_rwRun b s.b (a.o s.a c) hb ⟨s3, s4⟩ hol.1 (by omega)
        have hlen := (runRw_letters hb (q := s.b) ⟨s3, s4⟩ hol.1).2.2
        have hot := outC_take a b s hc3
        have a2 := getD_row (xs := a.out) (i := s.a.toNat) [] (by omega)
        have a4 := getD_row (xs := a.out.getD s.a.toNat []) (i := c) [] (by omega)
        have ho : a.o s.a c = (a.out.getD s.a.toNat []).getD c [] := rfl
        rw [← ho] at a4
        have htl : ((outC a b s).take c).length = c := by simp [outC]; omega
        generalize a.o s.a c = ov at *
        generalize a.out.getD s.a.toNat [] = ox at *
        simp [show (c : Int) < 3 by omega]
        refine .one (sch [.pur 0, .pur 1, .pur 2, .pur 3, .pur 4, .pur 5, .pur 6, .pur 7, .pur 8, .pur 9, .pur 10, .pur 11, .eff 12 [], .pur 13, .pur 14, .pur 15, .pur 16, .pur 17]) (by kernel_rfl) ?_
        have l3 : (c : Int) < 3 := by omega
        simp [s1, s2, n3, a2, a4, g2, hc3, l3]
        refine .tdat hrun rfl (by simp [Rw.d]) ?_
        rintro _ rfl
        simp [htl]
        have hol3 : (outC a b s).length = 3 := rfl
        have hotD : ((outC a b s).map sD).take (c + 1) = ((outC a b s).map sD).take c ++ [sD (runRw b s.b ov).2] := by
          rw [← List.map_take, hot]; simp
        refine ⟨⟨by omega, by omega, by omega⟩, c + 1, .mk ?_ ?_, hc3, by omega⟩
        · simp; exact wrap64 (by omega) (by omega)
        · simp [hotD]
      · have : c = 3 := by omega
        subst this
        have hol := isOut_l (okRw_f ha (q := s.a) ⟨s1, s2⟩)
        have hrun := c_rwRun b s.b (a.f s.a) hb ⟨s3, s4⟩ hol.1 (by omega)
        have hlet := runRw_letters hb (q := s.b) ⟨s3, s4⟩ hol.1
        have a5 := getD_row (xs := a.fin) (i := s.a.toNat) [] (by omega)
        have hf : a.f s.a = a.fin.getD s.a.toNat [] := rfl
        rw [← hf] at a5
        have hfc : finC a b s = (runRw b s.b (a.f s.a)).2 ++ b.f (runRw b s.b (a.f s.a)).1 := rfl
        have hb5 := isOut_l (okRw_f hb hlet.1)
        generalize a.f s.a = fv at *
        generalize runRw b s.b fv = rr at *
        obtain ⟨r1, r2⟩ := rr
        simp only at hlet hfc hb5
        obtain ⟨⟨t1, t2⟩, t3, t4⟩ := hlet
        have b5 := getD_row (xs := b.fin) (i := r1.toNat) [] (by omega)
        have hbf : b.f r1 = b.fin.getD r1.toNat [] := rfl
        rw [← hbf] at b5
        generalize b.f r1 = bv at *
        have ho3 : (outC a b s).take 3 = outC a b s := rfl
        have hol3 : (outC a b s).length = 3 := rfl
        simp
        refine .one (sch [.pur 0, .pur 1, .pur 2, .pur 3, .pur 4, .pur 5, .pur 6, .pur 7, .pur 8, .eff 9 [], .pur 10, .pur 11, .pur 12, .pur 13, .pur 14]) (by kernel_rfl) ?_
        simp [s1, s2, n4, a5]
        refine .tdat hrun rfl (by simp [Rw.d]) ?_
        rintro _ rfl
        simp [hol3]
        have htkD : ∀ {β : Type} (f : Pr → β), (L.map f).take (j + 1) = (L.map f).take j ++ [f s] := fun f => by
          rw [← List.map_take, htk]; simp
        refine ⟨⟨by omega, by omega, by omega⟩, ?_⟩
        refine .one (sch [.pur 0, .pur 1, .pur 2, .pur 3, .pur 4, .pur 5, .pur 6, .pur 7, .pur 8, .eff 9 [0, 1], .eff 10 [], .pur 11, .eff 12 []]) (by kernel_rfl) ?_
        simp [t1, t2, m4, b5]
        refine ⟨by omega, ⟨by omega, by omega, by omega⟩, j + 1, .mk ?_ ?_, hjL, by omega⟩
        · simp; exact wrap64 (by omega) (by omega)
        · simp [htkD, hfc]
          rfl
    · have : j = L.length := by omega
      subst this
      simp
      have hfl := chain_fineL ha hb hok (by omega)
      refine .dvalE (c_RewriterValid (chainRw a b L) hfl.out hfl.fin hfl.next hfl.len) rfl (by simp [Rw.d, ← hNX, chainRw, takeM]) (by simp) rfl ?_
      cases hv : okRw (chainRw a b L) with
      | false =>
        simp
        exact chainR_no (hC2 hv)
      | true =>
        simp
        exact ⟨_, true, by simp [Rw.d, ← hNX, chainRw, takeM], hC1 hv⟩
  · simp [Df.d]
    exact chainR_no (.inr ⟨⟨ha, hb⟩, .inr ⟨k, e1, rfl, rfl⟩⟩)
end Go.Fw
