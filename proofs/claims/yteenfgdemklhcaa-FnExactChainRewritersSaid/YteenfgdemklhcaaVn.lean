/- One rewriter behind the other, in rows of the caller's own. -/
import Derived.Test.YteenfgdemklhcaaVb
import Derived.Test.YteenfgdemklhcaaVdf
import Derived.Test.YteenfgdemklhcaaVrw
import Derived.Test.YteenfgdemklhcaaChn
set_option linter.unusedSimpArgs false
set_option linter.unusedVariables false
namespace Go.Fw
open Go Go.Proofs
set_option linter.unusedSectionVars false
set_option linter.unnecessarySimpa false

theorem heapLe_nxG {O b k r : Nat} {used : List Nat} {σ : AS} {L : List (List D)} {t : List (Nat × Blk)} (hk : k = L.length) (hu : ∀ j, 0 < k → (j = O ∨ b ≤ j ∧ j < b + k) → j ∈ used) (h0 : 0 < L.length → σ.hp.heap O = some (.bx (outY b L r))) (h1 : ∀ i x, L[i]? = some x → σ.hp.heap (i + b) = some (.ar 1 x)) (ht : heapLe σ used t) : heapLe σ used (nxH O b L r ++ t) := by
  subst hk
  rw [heapLe_app]
  refine ⟨?_, ht⟩
  unfold nxH
  split
  · trivial
  · rename_i h
    have hc : ∀ j, (j = O ∨ b ≤ j ∧ j < b + L.length) → used.contains j = true := fun j hj => List.contains_iff_mem.2 (hu j (by omega) hj)
    refine ⟨⟨h0 (by omega), ?_, .inr (hc O (.inl rfl))⟩, heapLe_fam _ _ fun i x hx => ⟨by rw [Nat.add_comm]; exact h1 i x hx, .inr (hc _ (.inr ?_))⟩⟩
    · show Blk.bx (AV.kpL _ _) = _
      rw [outY_kp fun i hi => by
        simp only [outU, Bool.not_eq_false', Bool.or_eq_true]
        exact .inr (hc _ (.inr (by omega)))]
    · have := (List.getElem?_eq_some_iff.1 hx).1; omega
theorem nxH_skip {O b r j : Nat} {L : List (List D)} {t : List (Nat × Blk)} (h1 : j ≠ O) (h2 : OutF b L.length j) : lookH (nxH O b L r ++ t) j = lookH t j := by
  unfold OutF at h2
  have e : lookH (famH b L) j = none := by
    rw [famH_look]
    by_cases hb : b ≤ j
    · rw [if_pos hb, List.getElem?_eq_none (by omega)]; rfl
    · rw [if_neg hb]
  rw [lookH_app, nxH]
  by_cases h : L.length = 0
  · rw [if_pos h]; rfl
  · rw [if_neg h, lookH, if_neg h1, e]
/-- The rows of texts that have been made. -/
def rowsO (a b : Rw) (L : List Pr) (j : Nat) : List (List D) := rowsS ((L.take j).map (outC a b))
theorem rowsO_len {a b : Rw} {L : List Pr} {j : Nat} (h : j ≤ L.length) : (rowsO a b L j).length = j := by
  simp [rowsO, rowsS]; omega
theorem rowsO_zero {a b : Rw} {L : List Pr} : rowsO a b L 0 = [] := by simp [rowsO, rowsS]
theorem rowsO_next {a b : Rw} {L : List Pr} {j : Nat} {s : Pr} (h : L.take (j + 1) = L.take j ++ [s]) : rowsO a b L (j + 1) = rowsO a b L j ++ [(outC a b s).map sD] := by
  unfold rowsO rowsS; rw [h]; simp
set_option maxHeartbeats 2000000 in
set_option maxRecDepth 100000 in
theorem f_ChainRewriters (a b : Rw) (hfa : a.fine) (hfb : b.fine) : FCalls Try.prog 16 [.d a.d, .d b.d] fun x res =>
    (∃ (R : Rw) (m m2 : Nat), ChainIs a b R true ∧ R.next.length ≤ 12 ∧ R.out.length = R.next.length ∧ R.fin.length = R.next.length ∧ x = .tp [rwAV 2000000000 8700 2302 R, .d (.bool true)] ∧ res = rwR 2000000000 8700 2302 2000000003 m 3000000000 m2 R) ∨
    (x = .tp [.ag [.nl, .nl, .nl], .d (.bool false)] ∧ res = [] ∧ ChainIs a b zeroRw false) := by
  refine gcalls_intro Ty.mixed Try.func16 rfl rfl rfl [2, 3, 1086] (by kernel_rfl) (by simp) ?_
  simp [Rw.d]
  refine .dval (c_RewriterValid a hfa.out hfa.fin hfa.next hfa.len) rfl (by simp [Rw.d]) rfl ?_
  simp
  refine .flat (fun _ => c_RewriterValid b hfb.out hfb.fin hfb.next hfb.len) rfl (by simp [Rw.d]) rfl (by simp) ?_
  simp
  refine ⟨fun hno => ⟨[], ⟨rfl, .inl ⟨?_, rfl, rfl⟩⟩, by simp⟩, fun ha hb => ?_⟩
  · rintro ⟨h1, h2⟩
    rcases hno with h | h
    · rw [h1] at h; cases h
    · rw [h2] at h; cases h
  have hex := f_exploredPair ⟨0, 0⟩ 12 (by omega) (by omega) (nxC a b) (fun _ => false) (okPr a b) ⟨st0Rw ha, st0Rw hb⟩ (fun s c hs hc => okPr_step ha hb hs hc)
    (cloS Try.prog 47 [] [rwP b, rwP a]) (cloS Try.prog 49 [] [])
    (fun s c hs hc K hK => ⟨_, c_chain1 a b s c ha hb hs hc, by rintro r rfl; rfl, by rintro r rfl; exact hK⟩)
    (fun s hs K hK => ⟨_, c_chain2 s, by rintro r rfl; rfl, by rintro r rfl; exact hK⟩)
  refine .freshG 2000000000 hex rfl rfl (by simp [Rw.d, pD]) (by omega) ?_
  rintro _ _ (⟨k, m, e1, e2, rfl, rfl⟩ | ⟨k, e1, rfl, rfl⟩)
  · have hw := metK_whole e1
    have hok := met_okPr ha hb k
    have hLp := metK_pos (nx := nxC a b) (s0 := ⟨0, 0⟩) k
    have hC1 : okRw (chainRw a b (metK (nxC a b) ⟨0, 0⟩ k)) = true → ChainIs a b (chainRw a b (metK (nxC a b) ⟨0, 0⟩ k)) true := fun h => .inr ⟨⟨ha, hb⟩, .inl ⟨k, e1, e2, .inl ⟨h, rfl, rfl⟩⟩⟩
    have hC2 : okRw (chainRw a b (metK (nxC a b) ⟨0, 0⟩ k)) = false → ChainIs a b zeroRw false := fun h => .inr ⟨⟨ha, hb⟩, .inl ⟨k, e1, e2, .inr ⟨h, rfl, rfl⟩⟩⟩
    clear hex
    generalize metK (nxC a b) ⟨0, 0⟩ k = L at *
    have hnx : L.map (rowL (nxC a b) L) = (chainRw a b L).next := rfl
    rw [hnx]
    have hNl : (rowsI (chainRw a b L).next).length = L.length := by simp [rowsI, chainRw]
    have hokE : FamOk 7400 [(2302, .ar 1 (L.map fun _ => bD false)), (2400, .ar 2 (L.map pD))] 1000000000 (rowsI (chainRw a b L).next) := by
      refine ⟨by omega, fun q hq => ?_, by simp, by omega⟩
      simp only [List.mem_cons, List.not_mem_nil, or_false] at hq
      rcases hq with rfl | rfl <;> simp
    refine ⟨⟨hokE.nodup, hokE.rng, fun j hj => ?_⟩, ?_⟩
    · rw [famR_len] at hj
      simp at hj ⊢
      omega
    rw [hokE.newS, exp_back hokE]
    generalize hNX : rowsI (chainRw a b L).next = NX at *
    simp
    have hLne : L ≠ [] := List.ne_nil_of_length_pos hLp
    have hskp : ∀ (j : Nat) (r : Nat) (t : List (Nat × Blk)), 2000000000 ≤ j → j < 3000000000 → ∀ M : List (List D), lookH (nxH 8700 3000000000 M r ++ t) j = lookH t j := fun j r t h1 h2 M => nxH_look (by omega) h2
    refine LoopVC.wk (Wk.frz 40 (y := .list (L.map pD)) (p := 2 = 2 ∧ 0 + L.length ≤ (L.map pD).length) (l := [2000000002]) (by simp [takeM]) (by simp)) ?_
    refine LoopVC.wk (Wk.adoptBx 900 2 2302 1 (cs := [.sl 1 2000000000 0 L.length, .nl, .nl]) (by simp) rfl (by simp)) ?_
    refine LoopVC.atU { g : Nat × Nat // g.1 ≤ L.length } (fun g => [(2, rwP a), (3, rwP b), (4, .ptr 400 0), (9, .ptr 900 0), (40, .d (.list (L.map pD))), (41, iA L.length), (42, iA g.1.1)])
      (fun g => nxH 8700 3000000000 (rowsO a b L g.1.1) g.1.2 ++ (nxH 2000000000 2000000003 NX m ++ [(400, .bx [.nl, .nl, .nl]), (900, .bx [.sl 1 2000000000 0 L.length, nxA 8700 g.1.1, .sl 1 2302 0 g.1.1]), (2302, .ar 1 ((L.take g.1.1).map fun s => sD (finC a b s)))])) (fun g => nxU 8700 3000000000 g.1.1 ++ (nxU 2000000000 2000000003 L.length ++ [400, 900, 2302])) (fun g => L.length - g.1.1) ⟨(0, 0), by simp⟩ (by simp) ?_ ?_
    · rw [rowsO_zero, nxH_nil, List.nil_append]
      refine heapLe_nxG hNl.symm (fun q h1 h2 => by simp [nxU_mem]; omega) (fun h => by simp) (fun i x hx => ?_) (by simp [nxA, hLne])
      have hne : ∀ q : Nat, q < 2000000003 → ¬ i + 2000000003 = q := fun q h => by omega
      have e : ∀ (σ : AS) (o b1 b2 : Blk), (famS σ 2000000000 o [b1, b2] NX).hp.heap (i + 2000000003) = some (.ar 1 x) := fun σ o b1 b2 => famS_atN hx (by simp only [List.length_cons, List.length_nil])
      simp [hne, e]
    rintro ⟨⟨j, mm⟩, hj⟩
    simp only at hj
    have hro := rowsO_len (a := a) (b := b) hj
    rcases Nat.lt_or_ge j L.length with hjL | hjL
    · obtain ⟨s, hsj⟩ : ∃ s, L[j]? = some s := ⟨_, List.getElem?_eq_getElem hjL⟩
      have hps := hok s (List.mem_of_getElem? hsj)
      have htk : L.take (j + 1) = L.take j ++ [s] := by rw [take_snoc hjL]; simp [List.getElem?_eq_getElem hjL] at hsj; rw [hsj]
      obtain ⟨hj1, hsk⟩ := List.getElem?_eq_some_iff.1 hsj
      simp [show (j : Int) < L.length by omega, hj1, hsk, pD]
      refine LoopVC.wk (Wk.adoptSl 12 4301 1 (by simp) (by simp)) ?_
      refine LoopVC.at { c : Nat // c ≤ 3 } (fun c => [(2, rwP a), (3, rwP b), (4, .ptr 400 0), (9, .ptr 900 0), (11, .ptr 1100 0), (12, .sl 1 4301 0 c.1), (40, .d (.list (L.map pD))), (41, iA L.length), (42, iA j), (46, iA c.1)])
        (fun c => nxH 8700 3000000000 (rowsO a b L j) mm ++ (nxH 2000000000 2000000003 NX m ++ [(400, .bx [.nl, .nl, .nl]), (900, .bx [.sl 1 2000000000 0 L.length, nxA 8700 j, .sl 1 2302 0 j]), (1100, .bx [iA s.a, iA s.b]), (2302, .ar 1 ((L.take j).map fun s => sD (finC a b s))), (4301, .ar 1 (((outC a b s).take c.1).map sD))])) (nxU 8700 3000000000 j ++ (nxU 2000000000 2000000003 L.length ++ [400, 900, 1100, 2302, 4301])) (fun c => 3 - c.1) ⟨0, by simp⟩ (by simp) (heapLe_nxG hro.symm (fun q h1 h2 => by simp [nxU_mem]; omega) (fun h => by simp [nxH_o h]) (fun i x hx => by simp [nxH_at hx]) (heapLe_nxG hNl.symm (fun q h1 h2 => by simp [nxU_mem]; omega) (fun h => by simp [hskp, nxH_o h]) (fun i x hx => by
          have hi : i < 12 := by have := (List.getElem?_eq_some_iff.1 hx).1; omega
          have e := fun r t M => hskp (i + 2000000003) r t (by omega) (by omega) M
          have hne : ∀ q : Nat, q < 2000000003 → ¬ i + 2000000003 = q := fun q h => by omega
          simp [e, nxH_at hx, hne]) (by simp [pD, hLne]))) ?_
      rintro ⟨c, hc⟩
      obtain ⟨⟨s1, s2⟩, s3, s4⟩ := hps
      obtain ⟨n1, n2, n3, n4⟩ := okRw_len ha
      obtain ⟨m1, m2, m3, m4⟩ := okRw_len hb
      have hk : s.a.toNat < a.next.length := by omega
      obtain ⟨g1, g2, g3, g4, g5⟩ := okRw_row ha hk
      rcases Nat.lt_or_ge c 3 with hc3 | hc3
      · have hol := isOut_l (okRw_o ha (q := s.a) ⟨s1, s2⟩ (c := c) (by omega))
        have hrun := c_rwRun b s.b (a.o s.a c) hb ⟨s3, s4⟩ hol.1 (by omega)
        have hlen := (runRw_letters hb (q := s.b) ⟨s3, s4⟩ hol.1).2.2
        have hot := outC_take a b s hc3
        have a2 := getD_row (xs := a.out) (i := s.a.toNat) [] (by omega)
        have a4 := getD_row (xs := a.out.getD s.a.toNat []) (i := c) [] (by omega)
        have ho : a.o s.a c = (a.out.getD s.a.toNat []).getD c [] := rfl
        rw [← ho] at a4
        have htl : ((outC a b s).take c).length = c := by simp [outC]; omega
        generalize a.o s.a c = ov at *
        generalize a.out.getD s.a.toNat [] = ox at *
        simp [show (c : Int) < 3 by omega]
        refine .one (sch [.pur 0, .pur 1, .pur 2, .pur 3, .pur 4, .pur 5, .pur 6, .pur 7, .pur 8, .pur 9, .pur 10, .pur 11, .eff 12 [], .pur 13, .pur 14, .pur 15, .pur 16, .pur 17]) (by kernel_rfl) ?_
        have l3 : (c : Int) < 3 := by omega
        simp [s1, s2, n3, a2, a4, g2, hc3, l3]
        refine .tdat hrun rfl (by simp [Rw.d]) ?_
        rintro _ rfl
        simp [htl]
        have hol3 : (outC a b s).length = 3 := rfl
        have hotD : ((outC a b s).map sD).take (c + 1) = ((outC a b s).map sD).take c ++ [sD (runRw b s.b ov).2] := by
          rw [← List.map_take, hot]; simp
        refine ⟨⟨by omega, by omega, by omega⟩, c + 1, .mk ?_ (heapLe_nxG hro.symm (fun q h1 h2 => by simp [nxU_mem]; omega) (fun h => by simp [nxH_o h]) (fun i x hx => by simp [nxH_at hx]) (heapLe_nxG hNl.symm (fun q h1 h2 => by simp [nxU_mem]; omega) (fun h => by simp [hskp, nxH_o h]) (fun i x hx => by
          have hi : i < 12 := by have := (List.getElem?_eq_some_iff.1 hx).1; omega
          have e := fun r t M => hskp (i + 2000000003) r t (by omega) (by omega) M
          have hne : ∀ q : Nat, q < 2000000003 → ¬ i + 2000000003 = q := fun q h => by omega
          simp [e, nxH_at hx, hne]) ?_)), hc3, by omega⟩
        · simp; exact wrap64 (by omega) (by omega)
        · simp [hotD, hLne]
      · have : c = 3 := by omega
        subst this
        have hol := isOut_l (okRw_f ha (q := s.a) ⟨s1, s2⟩)
        have hrun := c_rwRun b s.b (a.f s.a) hb ⟨s3, s4⟩ hol.1 (by omega)
        have hlet := runRw_letters hb (q := s.b) ⟨s3, s4⟩ hol.1
        have a5 := getD_row (xs := a.fin) (i := s.a.toNat) [] (by omega)
        have hf : a.f s.a = a.fin.getD s.a.toNat [] := rfl
        rw [← hf] at a5
        have hfc : finC a b s = (runRw b s.b (a.f s.a)).2 ++ b.f (runRw b s.b (a.f s.a)).1 := rfl
        have hb5 := isOut_l (okRw_f hb hlet.1)
        generalize a.f s.a = fv at *
        generalize runRw b s.b fv = rr at *
        obtain ⟨r1, r2⟩ := rr
        simp only at hlet hfc hb5
        obtain ⟨⟨t1, t2⟩, t3, t4⟩ := hlet
        have b5 := getD_row (xs := b.fin) (i := r1.toNat) [] (by omega)
        have hbf : b.f r1 = b.fin.getD r1.toNat [] := rfl
        rw [← hbf] at b5
        generalize b.f r1 = bv at *
        have ho3 : (outC a b s).take 3 = outC a b s := rfl
        have hol3 : (outC a b s).length = 3 := rfl
        simp
        refine .one (sch [.pur 0, .pur 1, .pur 2, .pur 3, .pur 4, .pur 5, .pur 6, .pur 7, .pur 8, .eff 9 [], .pur 10, .pur 11, .pur 12, .pur 13, .pur 14]) (by kernel_rfl) ?_
        simp [s1, s2, n4, a5]
        refine .tdat hrun rfl (by simp [Rw.d]) ?_
        rintro _ rfl
        rcases Nat.eq_zero_or_pos j with hj0 | hj0
        · subst hj0
          simp [hol3, rowsO_zero, nxH_nil, nxA]
          have htkD : ∀ {β : Type} (f : Pr → β), (L.map f).take (0 + 1) = (L.map f).take 0 ++ [f s] := fun f => by
            rw [← List.map_take, htk]; simp
          intro m3
          refine .one (sch [.pur 0, .pur 1, .pur 2, .pur 3, .pur 4, .pur 5, .pur 6, .pur 7, .pur 8, .eff 9 [0, 1], .eff 10 [], .pur 11, .eff 12 []]) (by kernel_rfl) ?_
          simp [t1, t2, m4, b5]
          have ho3D : List.take 3 ((outC a b s).map sD) = (outC a b s).map sD := List.take_of_length_le (by simp [hol3])
          have hnxt := rowsO_next (a := a) (b := b) htk
          have hne : ∀ q : Nat, q < 3000000000 → ¬ q = 3000000000 + 0 := fun q h => by omega
          have hFA : AV.renL (gR 4301 (3000000000 + 0)) (outY 2000000003 NX m) = outY 2000000003 NX m := outY_ren fun i hi => by simp [gR]; omega
          have hR : outY 3000000000 (rowsO a b L (0 + 1)) m3 = .sl 1 3000000000 0 3 :: List.replicate m3 .unk := by
            rw [hnxt, rowsO_zero]; simp [outY, famC, hol3]
          rw [Nat.zero_add] at hR
          rw [Nat.add_zero] at hFA
          refine ⟨by omega, 1, ⟨m3, (Wk.renB 4301 (3000000000 + 0) (by omega) (by omega) (by simp; omega)).trans (.mk ?_ (heapLe_nxG (rowsO_len hjL).symm (fun q h1 h2 => by simp [nxU_mem]; omega) (fun _ => ?_) (fun i x hx => ?_) (heapLe_nxG hNl.symm (fun q h1 h2 => by simp [nxU_mem]; omega) (fun h => ?_) (fun i x hx => ?_) ?_)))⟩, hjL, by omega⟩
          · simp; exact wrap64 (by omega) (by omega)
          · simp [hR, AV.killL_eq, AV.kill, renL_unk]
          · rw [hnxt, rowsO_zero] at hx
            match i, hx with
            | 0, hx =>
              simp at hx
              subst hx
              simp [ho3D]
            | i + 1, hx => simp at hx
          · simp [nxH_o h, hne, hFA]
          · have hi : i < 12 := by have := (List.getElem?_eq_some_iff.1 hx).1; omega
            have e := fun r t M => hskp (i + 2000000003) r t (by omega) (by omega) M
            have hne2 : ∀ q : Nat, q < 2000000003 → ¬ i + 2000000003 = q := fun q h => by omega
            have hne3 : ¬ i + 2000000003 = 3000000000 + 0 := by omega
            simp [e, nxH_at hx, hne2, hne3]
          · simp [htkD, hfc, hne, nxA_pos, hLne]
        · have hjr : 0 < (rowsO a b L j).length := by omega
          simp [hol3, nxA_pos hj0, nxH_o hjr]
          have htkD : ∀ {β : Type} (f : Pr → β), (L.map f).take (j + 1) = (L.map f).take j ++ [f s] := fun f => by
            rw [← List.map_take, htk]; simp
          refine ⟨⟨by rw [outY_len]; omega, by omega, by omega⟩, fun m3 => ?_⟩
          refine .one (sch [.pur 0, .pur 1, .pur 2, .pur 3, .pur 4, .pur 5, .pur 6, .pur 7, .pur 8, .eff 9 [0, 1], .eff 10 [], .pur 11, .eff 12 []]) (by kernel_rfl) ?_
          simp [t1, t2, m4, b5]
          have ho3D : List.take 3 ((outC a b s).map sD) = (outC a b s).map sD := List.take_of_length_le (by simp [hol3])
          have hnxt := rowsO_next (a := a) (b := b) htk
          have hne : ∀ q : Nat, q < 3000000000 → ¬ q = 3000000000 + j := fun q h => by omega
          have hFA : AV.renL (gR 4301 (3000000000 + j)) (outY 2000000003 NX m) = outY 2000000003 NX m := outY_ren fun i hi => by simp [gR]; omega
          have hR : outY 3000000000 (rowsO a b L (j + 1)) m3 = famC 3000000000 (rowsO a b L j) ++ .sl 1 (3000000000 + j) 0 3 :: List.replicate m3 .unk := by
            rw [hnxt, outY, famC_snoc, hro]; simp [hol3]
          have hT : List.take j (outY 3000000000 (rowsO a b L j) mm) = famC 3000000000 (rowsO a b L j) := by rw [outY, List.take_left' (by rw [famC_len, hro])]
          have hF : AV.renL (gR 4301 (3000000000 + j)) (famC 3000000000 (rowsO a b L j)) = famC 3000000000 (rowsO a b L j) := famC_ren _ _ _ _ fun i hi => by simp [gR]; omega
          refine ⟨by omega, ⟨by omega, by omega, by omega⟩, j + 1, ⟨m3, (Wk.renB 4301 (3000000000 + j) (by omega) (by omega) (by simp; omega)).trans (.mk ?_ (heapLe_nxG (rowsO_len hjL).symm (fun q h1 h2 => by simp [nxU_mem]; omega) (fun _ => ?_) (fun i x hx => ?_) (heapLe_nxG hNl.symm (fun q h1 h2 => by simp [nxU_mem]; omega) (fun h => ?_) (fun i x hx => ?_) ?_)))⟩, hjL, by omega⟩
          · simp; exact wrap64 (by omega) (by omega)
          · simp [hR, hT, outY_kill, AV.killL_eq, famC_kill, AV.kill, renL_app, renL_unk, hF, hne]
          · rw [hnxt] at hx
            rcases Nat.lt_or_ge i (rowsO a b L j).length with hi | hi
            · rw [List.getElem?_append_left hi] at hx
              simp [nxH_at hx, show ¬ i + 3000000000 = 3000000000 + j by omega]
            · rw [List.getElem?_append_right hi] at hx
              have hik : i = (rowsO a b L j).length := by
                have := (List.getElem?_eq_some_iff.1 hx).1
                simp at this; omega
              subst hik
              simp at hx
              subst hx
              simp [hro, Nat.add_comm j, ho3D]
          · simp [hskp, nxH_o h, hne, hFA]
          · have hi : i < 12 := by have := (List.getElem?_eq_some_iff.1 hx).1; omega
            have e := fun r t M => hskp (i + 2000000003) r t (by omega) (by omega) M
            have hne2 : ∀ q : Nat, q < 2000000003 → ¬ i + 2000000003 = q := fun q h => by omega
            have hne3 : ¬ i + 2000000003 = 3000000000 + j := by omega
            simp [e, nxH_at hx, hne2, hne3]
          · simp [htkD, hfc, hne, nxA_pos, hLne]
    · have : j = L.length := by omega
      subst this
      have hRO : rowsO a b L L.length = rowsS (chainRw a b L).out := by simp [rowsO, chainRw]
      have hfin : (chainRw a b L).fin.map sD = L.map fun s => sD (finC a b s) := by simp [chainRw]
      have hjr : 0 < (rowsO a b L L.length).length := by omega
      have hNr : 0 < NX.length := by omega
      have hlen : (chainRw a b L).next.length = L.length ∧ (chainRw a b L).out.length = L.length ∧ (chainRw a b L).fin.length = L.length := by simp [chainRw]
      have hfl := chain_fineL ha hb hok (by omega)
      simp [nxA_pos hLp]
      refine .dvalV (ys := [.d (chainRw a b L).d]) (c_RewriterValid (chainRw a b L) hfl.out hfl.fin hfl.next hfl.len) ?_ rfl ?_
      · rw [show (AV.ag [.sl 1 2000000000 0 L.length, .sl 1 8700 0 L.length, .sl 1 2302 0 L.length] : AV) = rwAV 2000000000 8700 2302 (chainRw a b L) from by simp [rwAV, hlen]]
        refine RwAt.view (b1 := 2000000003) (b2 := 3000000000) (r1 := m) (r2 := mm) ⟨?_, ?_, ?_, fun i x hx => ?_, fun i x hx => ?_⟩ (zs := []) ⟨_, _, rfl, trivial⟩
        · rw [hNX]
          simp [hskp, nxH_o hNr]
        · rw [← hRO]
          simp [nxH_o hjr]
        · rw [hfin]
          simp
        · rw [hNX] at hx
          have hi : i < 12 := by have := (List.getElem?_eq_some_iff.1 hx).1; omega
          have e := fun r t M => hskp (i + 2000000003) r t (by omega) (by omega) M
          have hne : ∀ q : Nat, q < 2000000003 → ¬ i + 2000000003 = q := fun q h => by omega
          simp [e, nxH_at hx, hne]
        · rw [← hRO] at hx
          simp [nxH_at hx]
      cases hv : okRw (chainRw a b L) with
      | false =>
        simp
        exact ⟨[], ⟨rfl, hC2 hv⟩, by simp⟩
      | true =>
        have hok3 : Fam2Ok 2000000000 8700 [(2302, .ar 1 ((chainRw a b L).fin.map sD))] 2000000003 (rowsI (chainRw a b L).next) 3000000000 (rowsS (chainRw a b L).out) := by
          have l1 := rowsI_len (chainRw a b L).next
          have l2 := rowsS_len (chainRw a b L).out
          refine ⟨⟨by omega, by omega, .inl (by omega), .inl (by omega)⟩, ⟨by omega, by omega, .inl (by omega), .inl (by omega), by omega⟩, fun q hq => ?_, by simp, by omega, by omega, by omega⟩
          simp only [List.mem_cons, List.not_mem_nil, or_false] at hq
          subst hq
          exact ⟨⟨by simp, by simp, .inl (by simp), .inl (by simp), by simp, by simp⟩, rfl⟩
        simp [-retXP_is]
        refine retXP_fam2 (r1 := m) (r2 := mm) trivial hok3 (.inl ⟨chainRw a b L, hC1 hv, by omega, by omega, by omega, by simp [rwAV, hlen], m, mm, rfl⟩) ?_ ?_ ?_ ?_ ?_ ?_
        · rw [hNX]
          simp [hskp, nxH_o hNr]
        · rw [← hRO]
          simp [nxH_o hjr]
        · intro q hq
          simp only [List.mem_cons, List.not_mem_nil, or_false] at hq
          subst hq
          rw [hfin]
          simp
        · intro i x hx
          rw [hNX] at hx
          have hi : i < 12 := by have := (List.getElem?_eq_some_iff.1 hx).1; omega
          have e := fun r t M => hskp (i + 2000000003) r t (by omega) (by omega) M
          have hne : ∀ q : Nat, q < 2000000003 → ¬ i + 2000000003 = q := fun q h => by omega
          simp [e, nxH_at hx, hne]
        · intro i x hx
          rw [← hRO] at hx
          simp [nxH_at hx]
        · have k1 := hok3.k1 (r1 := m) (r2 := mm)
          have k2 := hok3.k2 (r1 := m) (r2 := mm)
          have k3 := hok3.ka (r1 := m) (r2 := mm) (q := (2302, .ar 1 ((chainRw a b L).fin.map sD))) (by simp)
          simp [k1, k2, k3]
  · refine ⟨⟨by simp, by simp, fun j hj => by simp at hj⟩, ?_⟩
    simp [newL, newBs, AV.kp, AV.kpL, AV.ren, AV.renL]
    exact ⟨[], ⟨rfl, .inr ⟨⟨ha, hb⟩, .inr ⟨k, e1, rfl, rfl⟩⟩⟩, by simp⟩
end Go.Fw
