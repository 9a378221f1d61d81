/- A language taken back by a rewriter, as the reference finds it. -/
import Derived.Test.YtpecepipllbghaaTg
import Derived.Test.YtpecepipllbghaaOh
set_option linter.unusedSimpArgs false
set_option linter.unusedVariables false
namespace Go.Fw
open Go Go.Proofs
set_option linter.unusedSectionVars false
set_option linter.unnecessarySimpa false

set_option maxRecDepth 100000 in
set_option maxHeartbeats 1600000 in
theorem c_sRewriteBack (r : Rw) (d : Df) (hrf : r.fine) (hdf : d.fine) : TCalls Try.prog 36 [.d r.d, .d d.d] (BackR r d) := by
  refine tcalls_intro Ty.mixed Try.func36 rfl rfl rfl [2, 3] (by kernel_rfl) (by simp) ?_
  simp [Df.d, Rw.d]
  refine .dval (c_sRewriterValid r hrf) rfl (by simp [Rw.d]) rfl ?_
  simp
  refine .flat (fun _ => c_sDfaValid d hdf) rfl (by simp [Df.d]) rfl (by simp) ?_
  simp
  refine ⟨fun hno => ⟨⟨[], []⟩, false, rfl, .inr ⟨fun ⟨h1, h2⟩ => by rw [h1, h2] at hno; simp at hno, rfl, rfl⟩⟩, fun h1 h2 => ?_⟩
  obtain ⟨n1, n2, n3, n4⟩ := okRw_len h1
  obtain ⟨m1, m2, m3⟩ := okDf_len h2
  refine ⟨rfl, ?_⟩
  refine LoopVC.wk (Wk.adoptBx 700 0 901 1 (cs := [.nl, .nl]) (by simp) rfl (by simp)) ?_
  refine LoopVC.wk (Wk.adoptBx 700 1 902 1 (cs := [.sl 1 901 0 0, .nl]) (by simp) rfl (by simp)) ?_
  have hmet := met_okB h1 h2
  have hnxd : ∀ s c, nxB r d s c = ⟨r.n s.a c, d.run s.b (r.o s.a c)⟩ := fun _ _ => rfl
  have hfnd : ∀ s, finB r d s = d.fin (d.run s.b (r.f s.a)) := fun _ => rfl
  have hA : ∀ k, (metK (nxB r d) ⟨0, 0⟩ k).length ≤ k → (metK (nxB r d) ⟨0, 0⟩ k).length ≤ 40 → okDf (autoL (nxB r d) (finB r d) (metK (nxB r d) ⟨0, 0⟩ k)) = true ∧ ∀ x, IsMin (autoL (nxB r d) (finB r d) (metK (nxB r d) ⟨0, 0⟩ k)) x → BackR r d [x.d, .bool true] := fun k e1 e2 => ⟨autoL_ok _ (metK_whole e1) e2, fun x hx => ⟨x, true, rfl, .inl ⟨⟨h1, h2⟩, SmallIs.of_min e1 e2 hx⟩⟩⟩
  have hB : ∀ k, 40 < (metK (nxB r d) ⟨0, 0⟩ k).length → BackR r d [(Df.mk [] []).d, .bool false] := fun k e => ⟨⟨[], []⟩, false, rfl, .inl ⟨⟨h1, h2⟩, .inr ⟨rfl, rfl, k, e⟩⟩⟩
  generalize hnx : nxB r d = nx at hmet hnxd hA hB
  generalize hfn : finB r d = fn at hA hfnd
  refine LoopVC.at { k : Nat // k ≤ (metK nx ⟨0, 0⟩ k).length ∧ (metK nx ⟨0, 0⟩ k).length ≤ 43 ∧ k ≤ 40 } (fun k => [(2, rwQ r), (3, dpA d), (4, .ptr 400 0), (6, .sl 1 2500 0 (metK nx ⟨0, 0⟩ k.1).length), (7, .ptr 700 0), (8, iA k.1)])
    (fun k => [(400, .bx [.nl, .nl]), (700, .bx [.sl 1 901 0 k.1, .sl 1 902 0 k.1]), (901, .ar 1 (((metK nx ⟨0, 0⟩ k.1).take k.1).map fun s => intsD (rowL nx (metK nx ⟨0, 0⟩ k.1) s))), (902, .ar 1 (((metK nx ⟨0, 0⟩ k.1).take k.1).map fun s => bD (fn s))), (2500, .ar 1 ((metK nx ⟨0, 0⟩ k.1).map pR))]) [400, 700, 901, 902, 2500] (fun k => 44 - k.1) ⟨0, by simp [metK]⟩ (by simp [metK]) (by simp [metK]) ?_
  rintro ⟨k, hk1, hk2, hk40⟩
  have hstep : ∀ s, (metK nx ⟨0, 0⟩ k)[k]? = some s → metK nx ⟨0, 0⟩ (k + 1) = meets (metK nx ⟨0, 0⟩ k) (suc nx s) := fun s hs => by simp only [metK, hs]
  have hmem := hmet k
  have hnd := metK_nodup (nx := nx) (s0 := (⟨0, 0⟩ : Pr)) k
  rcases Nat.lt_or_ge k (metK nx ⟨0, 0⟩ k).length with hkl | hkl
  · simp [show (k : Int) < (metK nx ⟨0, 0⟩ k).length by omega]
    refine ⟨fun hbig => hB k (by omega), fun hlm => ?_⟩
    obtain ⟨s, hsk⟩ : ∃ s, (metK nx ⟨0, 0⟩ k)[k]? = some s := ⟨_, List.getElem?_eq_getElem hkl⟩
    have hms := hstep s hsk
    have hps := hmem s (List.mem_of_getElem? hsk)
    refine LoopVC.at { c : Nat // c ≤ 3 } (fun c => [(2, rwQ r), (3, dpA d), (4, .ptr 400 0), (6, .sl 1 2500 0 (meets (metK nx ⟨0, 0⟩ k) ((suc nx s).take c.1)).length), (7, .ptr 700 0), (8, iA k), (9, .sl 1 3700 0 c.1), (10, iA c.1)])
      (fun c => [(400, .bx [.nl, .nl]), (700, .bx [.sl 1 901 0 k, .sl 1 902 0 k]), (901, .ar 1 (((metK nx ⟨0, 0⟩ k).take k).map fun s => intsD (rowL nx (metK nx ⟨0, 0⟩ k) s))), (902, .ar 1 (((metK nx ⟨0, 0⟩ k).take k).map fun s => bD (fn s))), (2500, .ar 1 ((meets (metK nx ⟨0, 0⟩ k) ((suc nx s).take c.1)).map pR)), (3700, .ar 1 ((rowG nx (metK nx ⟨0, 0⟩ k) s c.1).map iD))]) [400, 700, 901, 902, 2500, 3700] (fun c => 3 - c.1) ⟨0, by simp⟩ (by simp [meets]) (by simp [meets, rowG]) ?_
    rintro ⟨c, hc⟩
    obtain ⟨⟨s1, s2⟩, s3, s4⟩ := hps
    have hk : s.a.toNat < r.next.length := by omega
    obtain ⟨g1, g2, g3, g4, g5⟩ := okRw_row h1 hk
    have hpc : metK nx ⟨0, 0⟩ k <+: meets (metK nx ⟨0, 0⟩ k) ((suc nx s).take c) := meets_prefix _ _
    have hskc : (meets (metK nx ⟨0, 0⟩ k) ((suc nx s).take c))[k]? = some s := by
      obtain ⟨rr, hr⟩ := hpc
      rw [← hr, List.getElem?_append_left hkl]; exact hsk
    obtain ⟨hkM, hskM⟩ := List.getElem?_eq_some_iff.1 hskc
    have hml := meets_len ((suc nx s).take c) (metK nx ⟨0, 0⟩ k)
    have htl : ((suc nx s).take c).length = c := by simp [suc]; omega
    have hndM : (meets (metK nx ⟨0, 0⟩ k) ((suc nx s).take c)).Nodup := nodup_meets _ hnd
    have hrg := rowG_len (nx := nx) (L := metK nx ⟨0, 0⟩ k) (s := s) hc
    rcases Nat.lt_or_ge c 3 with hc3 | hc3
    · have hsn : meets (metK nx ⟨0, 0⟩ k) ((suc nx s).take (c + 1)) = meet (meets (metK nx ⟨0, 0⟩ k) ((suc nx s).take c)) (nx s c) := by rw [suc_take hc3, meets_snoc]
      have hrs := rowG_succ (nx := nx) (L := metK nx ⟨0, 0⟩ k) (s := s) hc3
      have hol := isOut_l (okRw_o h1 (q := s.a) (c := (c : Int)) ⟨s1, s2⟩ (by omega))
      have a1 := getD_row (xs := r.next) (i := s.a.toNat) [] hk
      have a2 := getD_row (xs := r.out) (i := s.a.toNat) [] (by omega)
      have a3 := getD_row (xs := r.next.getD s.a.toNat []) (i := c) 0 (by omega)
      have a4 := getD_row (xs := r.out.getD s.a.toNat []) (i := c) [] (by omega)
      have ho : r.o s.a c = (r.out.getD s.a.toNat []).getD c [] := by simp [Rw.o]
      have hn : r.n s.a c = (r.next.getD s.a.toNat []).getD c 0 := by simp [Rw.n]
      have hxe := hnxd s c
      rw [← hn] at a3
      rw [← ho] at a4
      rw [hsn] at hrs
      have hrun := c_l7Run d s.b (r.o s.a c) h2 ⟨s3, s4⟩ hol.1 (by omega)
      generalize r.n s.a c = nv at *
      generalize r.o s.a c = wv at *
      generalize d.run s.b wv = ov at *
      generalize r.next.getD s.a.toNat [] = nr at *
      generalize r.out.getD s.a.toNat [] = ox at *
      have l3 : (c : Int) < 3 := by omega
      simp [l3]
      refine .one (sch [.pur 0, .pur 1, .pur 2, .pur 3, .pur 4, .pur 5, .pur 6, .pur 7, .pur 8, .pur 9, .pur 10, .pur 11, .pur 12, .pur 13]) (by kernel_rfl) ?_
      simp [hkM, hskM, s1, s2, s3, s4, n3, a1, a2, a3, g1, g2, hc3, l3]
      refine .one (sch [.pur 0, .pur 1, .pur 2, .pur 3, .pur 4, .pur 5, .pur 6, .pur 7, .pur 8, .pur 9, .pur 10, .pur 11, .pur 12, .pur 13, .pur 14, .pur 15, .pur 16, .pur 17, .pur 18, .pur 19, .eff 20 [], .pur 21]) (by kernel_rfl) ?_
      simp [hkM, hskM, s1, s2, s3, s4, n3, a1, a2, a4, g1, g2, hc3, l3]
      refine .dval hrun rfl (by simp [Df.d]) rfl ?_
      simp
      refine LoopVC.at { j : Nat // j ≤ (meets (metK nx ⟨0, 0⟩ k) ((suc nx s).take c)).length } (fun j => [(2, rwQ r), (3, dpA d), (4, .ptr 400 0), (6, .sl 1 2500 0 (meets (metK nx ⟨0, 0⟩ k) ((suc nx s).take c)).length), (7, .ptr 700 0), (8, iA k), (9, .sl 1 3700 0 c), (10, iA c), (11, iA nv), (12, iA ov), (13, iA (fnd (meets (metK nx ⟨0, 0⟩ k) ((suc nx s).take c)) (nx s c) j.1)), (14, iA j.1)])
        (fun j => [(400, .bx [.nl, .nl]), (700, .bx [.sl 1 901 0 k, .sl 1 902 0 k]), (901, .ar 1 (((metK nx ⟨0, 0⟩ k).take k).map fun s => intsD (rowL nx (metK nx ⟨0, 0⟩ k) s))), (902, .ar 1 (((metK nx ⟨0, 0⟩ k).take k).map fun s => bD (fn s))), (2500, .ar 1 ((meets (metK nx ⟨0, 0⟩ k) ((suc nx s).take c)).map pR)), (3700, .ar 1 ((rowG nx (metK nx ⟨0, 0⟩ k) s c).map iD))]) [400, 700, 901, 902, 2500, 3700] (fun j => (meets (metK nx ⟨0, 0⟩ k) ((suc nx s).take c)).length - j.1) ⟨0, by simp⟩ (by simp [fnd]) (by simp) ?_
      rintro ⟨j, hj⟩
      rcases Nat.lt_or_ge j (meets (metK nx ⟨0, 0⟩ k) ((suc nx s).take c)).length with hjM | hjM
      · have hfs := fnd_succ hndM (s := nx s c) hjM
        have hcmp : (meets (metK nx ⟨0, 0⟩ k) ((suc nx s).take c))[j] = nx s c ↔ ((meets (metK nx ⟨0, 0⟩ k) ((suc nx s).take c))[j].a = nv ∧ (meets (metK nx ⟨0, 0⟩ k) ((suc nx s).take c))[j].b = ov) := by
          rw [hxe]
          constructor
          · intro e; rw [e]; exact ⟨rfl, rfl⟩
          · rintro ⟨e1, e2⟩; cases hq : (meets (metK nx ⟨0, 0⟩ k) ((suc nx s).take c))[j]; rw [hq] at e1 e2; simp at e1 e2; rw [e1, e2]
        have hj18 : j ≤ 46 := by omega
        simp [hjM]
        refine ⟨fun e1 e2 => ?_, fun hno => ?_⟩
        · rw [if_pos (hcmp.2 ⟨e1, e2⟩)] at hfs
          refine ⟨j + 1, .mk (by simp [hfs]; exact wrap64 (by omega) (by omega)) (by simp), hjM, by omega⟩
        · rw [if_neg (fun h => hno (hcmp.1 h).1 (hcmp.1 h).2)] at hfs
          refine ⟨j + 1, .mk (by simp [hfs]; exact wrap64 (by omega) (by omega)) (by simp), hjM, by omega⟩
      · have hjM' : j = (meets (metK nx ⟨0, 0⟩ k) ((suc nx s).take c)).length := by omega
        subst hjM'
        have hfe : fnd (meets (metK nx ⟨0, 0⟩ k) ((suc nx s).take c)) (nx s c) (meets (metK nx ⟨0, 0⟩ k) ((suc nx s).take c)).length = if nx s c ∈ (meets (metK nx ⟨0, 0⟩ k) ((suc nx s).take c)) then ((meets (metK nx ⟨0, 0⟩ k) ((suc nx s).take c)).idxOf (nx s c) : Int) else -1 := by
          unfold fnd; rw [List.take_length]
        by_cases hin : nx s c ∈ (meets (metK nx ⟨0, 0⟩ k) ((suc nx s).take c))
        · have hmt : meet (meets (metK nx ⟨0, 0⟩ k) ((suc nx s).take c)) (nx s c) = (meets (metK nx ⟨0, 0⟩ k) ((suc nx s).take c)) := by unfold meet; rw [if_pos hin]
          rw [hmt] at hrs hsn
          rw [hfe, if_pos hin]
          simp [hrg, show ¬ (((meets (metK nx ⟨0, 0⟩ k) ((suc nx s).take c)).idxOf (nx s c) : Int) < 0) by omega]
          refine ⟨⟨by omega, by omega⟩, c + 1, .mk ?_ ?_, hc3, by omega⟩
          · simp [hsn]; exact wrap64 (by omega) (by omega)
          · simp [hsn, hrs]
        · have hmt : meet (meets (metK nx ⟨0, 0⟩ k) ((suc nx s).take c)) (nx s c) = (meets (metK nx ⟨0, 0⟩ k) ((suc nx s).take c)) ++ [nx s c] := by unfold meet; rw [if_neg hin]
          rw [hmt] at hrs hsn
          have hix : ((meets (metK nx ⟨0, 0⟩ k) ((suc nx s).take c)) ++ [nx s c]).idxOf (nx s c) = (meets (metK nx ⟨0, 0⟩ k) ((suc nx s).take c)).length := by rw [List.idxOf_append, if_neg hin]; simp
          rw [hix] at hrs
          rw [hfe, if_neg hin]
          simp [hrg]
          refine ⟨rfl, ⟨by omega, by omega⟩, ⟨by omega, by omega⟩, c + 1, .mk ?_ ?_, hc3, by omega⟩
          · simp [hsn]; exact wrap64 (by omega) (by omega)
          · simp [hsn, hrs, hxe]
    · have : c = 3 := by omega
      subst this
      have ht3 : (suc nx s).take 3 = suc nx s := by simp [suc]
      obtain ⟨hn1, hn2⟩ := metK_next hsk
      have hrd : rowG nx (metK nx ⟨0, 0⟩ k) s 3 = rowL nx (metK nx ⟨0, 0⟩ (k + 1)) s := by rw [rowG_done, hms]
      have hsl : (suc nx s).length = 3 := by simp [suc]
      have hof := isOut_l (okRw_f h1 (q := s.a) ⟨s1, s2⟩)
      have hkf : s.a.toNat < r.fin.length := by omega
      have a5 := getD_row (xs := r.fin) (i := s.a.toNat) [] hkf
      have hf5 : r.f s.a = r.fin.getD s.a.toNat [] := rfl
      rw [← hf5] at a5
      have hst := run_st h2 (q := s.b) ⟨s3, s4⟩ hof.1
      have b5 := fin_row h2 hst
      have t1 := hst.1
      have t2 := hst.2
      have hfs := hfnd s
      have hrun := c_l7Run d s.b (r.f s.a) h2 ⟨s3, s4⟩ hof.1 (by omega)
      rw [ht3] at hskc
      obtain ⟨hkM', hskM'⟩ := List.getElem?_eq_some_iff.1 hskc
      generalize d.run s.b (r.f s.a) = tq at *
      generalize r.f s.a = fv at *
      simp [ht3, hrg]
      refine ⟨by omega, ?_⟩
      refine .one (sch [.pur 0, .pur 1, .pur 2, .pur 3, .pur 4, .pur 5, .pur 6, .pur 7, .pur 8, .pur 9, .pur 10, .pur 11, .pur 12, .pur 13, .pur 14, .pur 15, .pur 16, .pur 17, .pur 18, .pur 19, .pur 20, .eff 21 [0, 1, 2, 3], .pur 22, .pur 23, .eff 24 [0, 1], .eff 25 [], .pur 26, .eff 27 []]) (by kernel_rfl) ?_
      simp [hkM', hskM', s1, s2, s3, s4, n4, a5, hkf]
      refine .dval hrun rfl (by simp [Df.d]) rfl ?_
      have hn2D : ((metK nx ⟨0, 0⟩ k).take k).map (fun s => intsD (rowL nx (metK nx ⟨0, 0⟩ k) s)) ++ [intsD (rowL nx (metK nx ⟨0, 0⟩ (k + 1)) s)] = ((metK nx ⟨0, 0⟩ (k + 1)).take (k + 1)).map fun s => intsD (rowL nx (metK nx ⟨0, 0⟩ (k + 1)) s) := by
        have := congrArg (List.map intsD) hn2
        simpa [Function.comp_def] using this
      have hn1D : ∀ (f : Pr → D), ((metK nx ⟨0, 0⟩ k).take k).map f ++ [f s] = ((metK nx ⟨0, 0⟩ (k + 1)).take (k + 1)).map f := fun f => by rw [hn1]; simp
      have htr : List.take 3 ((rowG nx (metK nx ⟨0, 0⟩ k) s 3).map iD) = (rowL nx (metK nx ⟨0, 0⟩ (k + 1)) s).map iD := by
        rw [List.take_of_length_le (by rw [List.length_map, hrg]; exact Nat.le_refl _), hrd]
      have htr2 : List.take 3 (List.take 3 ((rowG nx (metK nx ⟨0, 0⟩ k) s 3).map iD)) = (rowL nx (metK nx ⟨0, 0⟩ (k + 1)) s).map iD := by
        rw [htr, List.take_of_length_le (by simp [rowL, suc])]
      have hn1a := hn1D fun s => bD (fn s)
      simp only [List.map_take] at hn2D hn1a
      have hml3 := meets_len (suc nx s) (metK nx ⟨0, 0⟩ k)
      have hk1l : k + 1 ≤ (metK nx ⟨0, 0⟩ (k + 1)).length := by
        rw [hms]
        have := (meets_prefix (suc nx s) (metK nx ⟨0, 0⟩ k)).length_le
        have h3 := congrArg List.length hn1
        rw [List.length_take, List.length_append, List.length_take] at h3
        simp at h3
        rw [hms] at h3
        omega
      have hk2l : (metK nx ⟨0, 0⟩ (k + 1)).length ≤ 43 := by rw [hms]; omega
      have hk44 : 44 - (k + 1) < 44 - k := by omega
      have hkl44 : k ≤ 43 := by omega
      have hwk : IntKind.i64.wrap ((k : Int) + 1) = ((k + 1 : Nat) : Int) := by rw [wrap64 (by omega) (by omega)]; omega
      rw [hms] at hn2D hn1a htr htr2
      rw [hfs] at hn1a
      simp [t1, t2, b5]
      refine ⟨⟨by omega, by omega, by omega⟩, k + 1, .mk ?_ ?_, ⟨hk1l, hk2l, by omega⟩, hk44⟩
      · simp [hms, hwk]
      · simp [htr, htr2, hn2D, hn1a, hms]
  · simp [show ¬ (k : Int) < (metK nx ⟨0, 0⟩ k).length by omega]
    have htk : (metK nx ⟨0, 0⟩ k).take k = metK nx ⟨0, 0⟩ k := List.take_of_length_le hkl
    have hres : D.agg [D.list ((metK nx ⟨0, 0⟩ k).map fun s => intsD (rowL nx (metK nx ⟨0, 0⟩ k) s)), D.list ((metK nx ⟨0, 0⟩ k).map fun s => bD (fn s))] = (autoL nx fn (metK nx ⟨0, 0⟩ k)).d := by
      simp only [autoL, Df.d, rowL, rowsD, bsD, List.map_map]; rfl
    have htt : ∀ {β : Type} (f : Pr → β), List.take k (List.take k (List.map f (metK nx ⟨0, 0⟩ k))) = (metK nx ⟨0, 0⟩ k).map f := fun f => by
      rw [List.take_take, Nat.min_self, ← List.map_take, htk]
    have hml4 : (metK nx ⟨0, 0⟩ k).length ≤ 40 ∨ 40 < (metK nx ⟨0, 0⟩ k).length := by omega
    obtain ⟨hok, hAx⟩ := hA k hkl (by omega)
    refine .ddropE (c_l10Small _ hok) rfl (by simp; rw [htt, htt, hres]) (by simp; omega) ?_
    rintro _ ⟨x, rfl, hx⟩
    have := hAx x hx
    simp [Df.d] at this ⊢
    exact this
end Go.Fw
