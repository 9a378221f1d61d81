/- explored at pairs, whose automaton lies in rows of the caller's own. -/
import Derived.Test.YteenfgdemklhcaaVdf
set_option linter.unusedSimpArgs false
set_option linter.unusedVariables false
namespace Go.Fw
open Go Go.Proofs
set_option linter.unusedSectionVars false
set_option linter.unnecessarySimpa false

set_option maxHeartbeats 1000000 in
set_option maxRecDepth 100000 in
theorem f_exploredPair (s0 : Pr) (most : Nat) (hm1 : 1 ≤ most) (hm2 : most ≤ 2000) (nx : Pr → Int → Pr) (fin : Pr → Bool) (p : Pr → Prop) (h0 : p s0) (hp : ∀ s c, p s → 0 ≤ c ∧ c < 3 → p (nx s c)) (SN SE : List D → (D → Prop) → Prop)
    (hN : ∀ s (c : Int), p s → 0 ≤ c ∧ c < 3 → ∀ K : D → Prop, K (pD (nx s c)) → SN [pD s, iD c] K) (hE : ∀ s, p s → ∀ K : D → Prop, K (.bool (fin s)) → SE [pD s] K) :
    FCalls Try.prog 46 [.d (pD s0), iA most, .clo SN, .clo SE] fun x res =>
      (∃ k m, (metK nx s0 k).length ≤ k ∧ (metK nx s0 k).length ≤ most ∧ x = .tp [.ag [.sl 1 7400 0 (metK nx s0 k).length, .sl 1 2302 0 (metK nx s0 k).length], .sl 2 2400 0 (metK nx s0 k).length, .d (.bool true)] ∧
        res = famR 7400 [(2302, .ar 1 ((metK nx s0 k).map fun s => bD (fin s))), (2400, .ar 2 ((metK nx s0 k).map pD))] 1000000000 (rowsI ((metK nx s0 k).map (rowL nx (metK nx s0 k)))) m) ∨
      (∃ k, most < (metK nx s0 k).length ∧ x = .tp [.ag [.nl, .nl], .nl, .d (.bool false)] ∧ res = []) := by
  have hkey : ∀ s t : Pr, keyEq (pD s) (pD t) = decide (s = t) := key_pD
  refine gcalls_intro Ty.mixed Try.func46 rfl rfl rfl [4, 1073] (by kernel_rfl) (by simp) ?_
  simp [pD]
  refine ⟨rfl, ?_⟩
  refine LoopVC.wk (Wk.adoptBx 1300 1 2302 1 (cs := [.nl, .nl]) (by simp) rfl (by simp)) ?_
  refine LoopVC.atU { g : Nat × Nat // g.1 ≤ (metK nx s0 g.1).length ∧ (metK nx s0 g.1).length ≤ most } (fun g => [(1, iA most), (2, .clo SN), (3, .clo SE), (4, .dp [iA s0.a, iA s0.b]), (8, .ptr 800 0), (11, .mp 2000), (12, .sl 2 2400 0 (metK nx s0 g.1.1).length), (13, .ptr 1300 0), (14, iA g.1.1)])
    (fun g => nxH 7400 1000000000 (rowsK nx s0 g.1.1) g.1.2 ++ [(800, .bx [.nl, .nl]), (1300, .bx [nxA 7400 g.1.1, .sl 1 2302 0 g.1.1]), (2000, .mb (numE pD (metK nx s0 g.1.1))), (2302, .ar 1 (((metK nx s0 g.1.1).take g.1.1).map fun s => bD (fin s))), (2400, .ar 2 ((metK nx s0 g.1.1).map pD))])
    (fun g => nxU 7400 1000000000 g.1.1 ++ [800, 1300, 2000, 2302, 2400]) (fun g => most + 1 - g.1.1) ⟨(0, 0), by simp [metK]; omega⟩ (by simp [metK]) (by simp [rowsK_zero, nxH_nil, nxU, nxA, metK, numE, pD]) ?_
  rintro ⟨⟨k, m⟩, hk1, hk2⟩
  simp only at hk1 hk2
  have hrk := rowsK_len hk1
  have hstep : ∀ s, (metK nx s0 k)[k]? = some s → metK nx s0 (k + 1) = meets (metK nx s0 k) (suc nx s) := fun s hs => by simp only [metK, hs]
  have hmem := metK_ind (nx := nx) (s0 := s0) (p := p) h0 (fun s hs => ⟨hp s 0 hs (by omega), hp s 1 hs (by omega), hp s 2 hs (by omega)⟩) k
  have hold := fun i s (hi : i < k) hs => metK_suc (nx := nx) (s0 := s0) (k := k) (i := i) (s := s) hi hs
  have hpre := metK_succ_prefix (nx := nx) (s0 := s0) k
  rcases Nat.lt_or_ge k (metK nx s0 k).length with hkl | hkl
  · obtain ⟨s, hsk⟩ : ∃ s, (metK nx s0 k)[k]? = some s := ⟨_, List.getElem?_eq_getElem hkl⟩
    have hms := hstep s hsk
    have hps := hmem s (List.mem_of_getElem? hsk)
    simp [show (k : Int) < (metK nx s0 k).length by omega]
    refine LoopVC.at { c : Nat // c ≤ 3 ∧ (meets (metK nx s0 k) ((suc nx s).take c)).length ≤ most } (fun c => [(1, iA most), (2, .clo SN), (3, .clo SE), (4, .dp [iA s0.a, iA s0.b]), (8, .ptr 800 0), (11, .mp 2000), (12, .sl 2 2400 0 (meets (metK nx s0 k) ((suc nx s).take c.1)).length), (13, .ptr 1300 0), (14, iA k), (15, .sl 1 3100 0 3), (32, iA c.1)])
      (fun c => nxH 7400 1000000000 (rowsK nx s0 k) m ++ [(800, .bx [.nl, .nl]), (1300, .bx [nxA 7400 k, .sl 1 2302 0 k]), (2000, .mb (numE pD (meets (metK nx s0 k) ((suc nx s).take c.1)))), (2302, .ar 1 (((metK nx s0 k).take k).map fun s => bD (fin s))), (2400, .ar 2 ((meets (metK nx s0 k) ((suc nx s).take c.1)).map pD)), (3100, .ar 1 ((rowC nx (metK nx s0 k) s c.1).map iD))])
      (nxU 7400 1000000000 k ++ [800, 1300, 2000, 2302, 2400, 3100]) (fun c => 3 - c.1) ⟨0, by simp [meets]; omega⟩ (by simp [meets]) (heapLe_nx hrk.symm (fun h => by simp [nxH_o h]) (fun i x hx => by simp [nxH_at hx]) (by simp [meets, rowC])) ?_
    rintro ⟨c, hc, hlc⟩
    rcases Nat.lt_or_ge c 3 with hc3 | hc3
    · have hpc : metK nx s0 k <+: meets (metK nx s0 k) ((suc nx s).take c) := meets_prefix _ _
      have hskc : (meets (metK nx s0 k) ((suc nx s).take c))[k]? = some s := by
        obtain ⟨r, hr⟩ := hpc
        rw [← hr, List.getElem?_append_left hkl]; exact hsk
      have hlen := hpc.length_le
      have hsn : meets (metK nx s0 k) ((suc nx s).take (c + 1)) = meet (meets (metK nx s0 k) ((suc nx s).take c)) (nx s c) := by rw [suc_take hc3, meets_snoc]
      have hrc := rowC_len (nx := nx) (L := metK nx s0 k) (s := s) hc
      have hrs := rowC_succ (nx := nx) (L := metK nx s0 k) (s := s) hc3
      have hfin : meets (metK nx s0 k) ((suc nx s).take (c + 1)) <+: metK nx s0 (k + 1) := by
        rw [hms]
        have e : meets (metK nx s0 k) (suc nx s) = meets (meets (metK nx s0 k) ((suc nx s).take (c + 1))) ((suc nx s).drop (c + 1)) := by
          unfold meets; rw [← List.foldl_append, List.take_append_drop]
        rw [e]; exact meets_prefix _ _
      rw [hsn] at hrs hfin
      obtain ⟨hkM, hskM⟩ := List.getElem?_eq_some_iff.1 hskc
      simp [show (c : Int) < 3 by omega, hkM, hskM, pD]
      refine hN s c hps (by omega) _ ?_
      have hk1 : ∀ t : Pr, keyOk (.row [.i64, .i64]) (pD t) := fun t => by simp [keyOk, aggOk, pD]
      have hk2 : ∀ (M : List Pr) (a b : D), (a, b) ∈ numE pD M → keyOk (.row [.i64, .i64]) a := fun M a b h => by
        simp only [numE, List.mem_map] at h
        obtain ⟨q, _, e⟩ := h
        rw [Prod.mk.injEq] at e
        rw [← e.1]; exact hk1 q.1
      have hkx := hk1 (nx s c)
      have hk2c := hk2 (meets (metK nx s0 k) ((suc nx s).take c))
      by_cases hin : nx s c ∈ meets (metK nx s0 k) ((suc nx s).take c)
      · have hmg := mget_num hkey hin
        have hmt : meet (meets (metK nx s0 k) ((suc nx s).take c)) (nx s c) = meets (metK nx s0 k) ((suc nx s).take c) := by unfold meet; rw [if_pos hin]
        rw [hmt] at hrs hsn hfin
        have hmh : mhas (numE pD (meets (metK nx s0 k) ((suc nx s).take c))) (pD (nx s c)) = true := by rw [mhas_num hkey]; simpa using hin
        have hrsD : ((rowC nx (metK nx s0 k) s c).map iD).set c (.int .i64 ((meets (metK nx s0 k) ((suc nx s).take c)).idxOf (nx s c) : Int)) = (rowC nx (metK nx s0 k) s (c + 1)).map iD := by rw [← hrs, List.map_set]
        simp only [pD] at hmh hmg hkx
        simp [-keyOk, hmh, hmg, hkx, hrc, hc3, pD]
        refine ⟨hk2c, by omega, c + 1, .mk ?_ (heapLe_nx hrk.symm (fun h => by simp [nxH_o h]) (fun i x hx => by simp [nxH_at hx]) ?_), ⟨hc3, by rw [hsn]; exact hlc⟩, by omega⟩
        · simp [hsn]; exact wrap64 (by omega) (by omega)
        · simp [hsn, hrsD]
      · have hmh : mhas (numE pD (meets (metK nx s0 k) ((suc nx s).take c))) (pD (nx s c)) = false := by rw [mhas_num hkey]; simpa using hin
        have hmt : meet (meets (metK nx s0 k) ((suc nx s).take c)) (nx s c) = meets (metK nx s0 k) ((suc nx s).take c) ++ [nx s c] := by unfold meet; rw [if_neg hin]
        rw [hmt] at hrs hsn hfin
        have hmg := mget_num hkey (L := meets (metK nx s0 k) ((suc nx s).take c) ++ [nx s c]) (t := nx s c) (by simp)
        rw [numE_snoc] at hmg
        have hrsD : ((rowC nx (metK nx s0 k) s c).map iD).set c (.int .i64 ((meets (metK nx s0 k) ((suc nx s).take c) ++ [nx s c]).idxOf (nx s c) : Int)) = (rowC nx (metK nx s0 k) s (c + 1)).map iD := by rw [← hrs, List.map_set]
        simp only [pD] at hmh hmg hkx
        simp [-keyOk, hmh, hmg, hkx, hrc, hc3, pD]
        refine ⟨hk2c, fun hm => ⟨[], ⟨⟨k + 1, ?_⟩, rfl⟩, by simp⟩, fun hm => ⟨hk2c, ⟨by omega, by omega⟩, ?_, by omega, c + 1, .mk ?_ (heapLe_nx hrk.symm (fun h => by simp [nxH_o h]) (fun i x hx => by simp [nxH_at hx]) ?_), ⟨hc3, ?_⟩, by omega⟩⟩
        · have := hfin.length_le
          simp at this; omega
        · rintro a b (h | ⟨rfl, _⟩)
          · exact hk2c a b h
          · exact hkx
        · simp [hsn]; exact wrap64 (by omega) (by omega)
        · simp [hsn, hrsD, numE_snoc, pD]
        · rw [hsn]; simp; omega
    · have : c = 3 := by omega
      subst this
      have ht3 : (suc nx s).take 3 = suc nx s := by simp [suc]
      have hrc := rowC_len (nx := nx) (L := metK nx s0 k) (s := s) (c := 3) (by omega)
      obtain ⟨hn1, hn2⟩ := metK_next hsk
      have hskc : (meets (metK nx s0 k) (suc nx s))[k]? = some s := by
        obtain ⟨r, hr⟩ := meets_prefix (suc nx s) (metK nx s0 k)
        rw [← hr, List.getElem?_append_left hkl]; exact hsk
      obtain ⟨hkM, hskM⟩ := List.getElem?_eq_some_iff.1 hskc
      have hrd : rowC nx (metK nx s0 k) s 3 = rowL nx (metK nx s0 (k + 1)) s := by rw [rowC_done, hms]
      rw [ht3] at hlc
      rcases Nat.eq_zero_or_pos k with hk0 | hk0
      · subst hk0
        simp [ht3, rowsK_zero, nxH_nil, nxA, nxU]
        intro m2
        refine .one (sch [.pur 0, .pur 1, .pur 2, .pur 3, .pur 4, .pur 5, .pur 6, .eff 7 [0, 1], .eff 8 [0, 1], .eff 9 [], .pur 10, .eff 11 []]) (by kernel_rfl) ?_
        simp [hkM, hskM, pD]
        refine hE s hps _ ?_
        simp [hkM, hskM, pD]
        have hrow3 : (rowC nx (metK nx s0 0) s 3).length = 3 := by rw [hrc]
        have hnx := rowsK_next hsk
        rw [← hrd] at hnx
        have hR : outY 1000000000 (rowsK nx s0 (0 + 1)) m2 = .sl 1 1000000000 0 3 :: List.replicate m2 .unk := by
          rw [hnx, rowsK_zero]; simp [outY, famC, hrow3]
        rw [Nat.zero_add] at hR
        refine ⟨1, ⟨m2, (Wk.renB 3100 (1000000000 + 0) (by omega) (by omega) (by simp)).trans (.mk ?_ (heapLe_nx (rowsK_len (by rw [hms]; have := (List.getElem?_eq_some_iff.1 hskc).1; omega)).symm (fun _ => ?_) (fun i x hx => ?_) ?_))⟩, ⟨?_, ?_⟩, ?_⟩
        · simp [hms]; exact wrap64 (by omega) (by omega)
        · simp [hR, AV.killL_eq, AV.kill, renL_unk]
        · rw [hnx, rowsK_zero] at hx
          match i, hx with
          | 0, hx =>
            simp at hx
            subst hx
            simp
          | i + 1, hx => simp at hx
        · have hn1D : ((metK nx s0 0).take 0).map (fun s => bD (fin s)) ++ [bD (fin s)] = ((metK nx s0 (0 + 1)).take (0 + 1)).map fun s => bD (fin s) := by rw [hn1]; simp
          simp only [List.map_take] at hn1D
          rw [hms] at hn1D
          simp [hms, nxA_pos]
          simpa using hn1D
        · have := hpre.length_le
          rw [hms] at this ⊢
          have h2 := (List.getElem?_eq_some_iff.1 hskc).1
          omega
        · rw [hms]; exact hlc
        · omega
      · have hkr : 0 < (rowsK nx s0 k).length := by omega
        simp [ht3, nxA_pos hk0, nxH_o hkr]
        refine ⟨⟨by rw [outY_len]; omega, by omega, by omega⟩, fun m2 => ?_⟩
        refine .one (sch [.pur 0, .pur 1, .pur 2, .pur 3, .pur 4, .pur 5, .pur 6, .eff 7 [0, 1], .eff 8 [0, 1], .eff 9 [], .pur 10, .eff 11 []]) (by kernel_rfl) ?_
        simp [hkM, hskM, pD]
        refine hE s hps _ ?_
        simp [hkM, hskM, pD]
        have hrow3 : (rowC nx (metK nx s0 k) s 3).length = 3 := by rw [hrc]
        have hnx := rowsK_next hsk
        rw [← hrd] at hnx
        have hR : outY 1000000000 (rowsK nx s0 (k + 1)) m2 = famC 1000000000 (rowsK nx s0 k) ++ .sl 1 (1000000000 + k) 0 3 :: List.replicate m2 .unk := by
          rw [hnx, outY, famC_snoc, hrk]; simp [hrow3]
        have hne : ∀ q : Nat, q < 1000000000 → ¬ q = 1000000000 + k := fun q h => by omega
        have hT : List.take k (outY 1000000000 (rowsK nx s0 k) m) = famC 1000000000 (rowsK nx s0 k) := by rw [outY, List.take_left' (by rw [famC_len, hrk])]
        have hF : AV.renL (gR 3100 (1000000000 + k)) (famC 1000000000 (rowsK nx s0 k)) = famC 1000000000 (rowsK nx s0 k) := famC_ren _ _ _ _ fun i hi => by simp [gR]; omega
        refine ⟨⟨by omega, by omega, by omega⟩, k + 1, ⟨m2, (Wk.renB 3100 (1000000000 + k) (by omega) (by omega) (by simp; omega)).trans (.mk ?_ (heapLe_nx (rowsK_len (by rw [hms]; have := (List.getElem?_eq_some_iff.1 hskc).1; omega)).symm (fun _ => ?_) (fun i x hx => ?_) ?_))⟩, ⟨?_, ?_⟩, ?_⟩
        · simp [hms]; exact wrap64 (by omega) (by omega)
        · simp [hR, hT, outY_kill, AV.killL_eq, famC_kill, AV.kill, renL_app, renL_unk, hF, hne]
        · rw [hnx] at hx
          rcases Nat.lt_or_ge i (rowsK nx s0 k).length with hi | hi
          · rw [List.getElem?_append_left hi] at hx
            simp [nxH_at hx, show ¬ i + 1000000000 = 1000000000 + k by omega]
          · rw [List.getElem?_append_right hi] at hx
            have hik : i = (rowsK nx s0 k).length := by
              have := (List.getElem?_eq_some_iff.1 hx).1
              simp at this; omega
            subst hik
            simp at hx
            subst hx
            simp [hrk, Nat.add_comm k]
        · have hn1D : ((metK nx s0 k).take k).map (fun s => bD (fin s)) ++ [bD (fin s)] = ((metK nx s0 (k + 1)).take (k + 1)).map fun s => bD (fin s) := by rw [hn1]; simp
          simp only [List.map_take] at hn1D
          rw [hms] at hn1D
          simp [hn1D, hms, nxA_pos, hne]
        · have := hpre.length_le
          rw [hms] at this ⊢
          have h2 := (List.getElem?_eq_some_iff.1 hskc).1
          omega
        · rw [hms]; exact hlc
        · omega
  · have hkk : k = (metK nx s0 k).length := by omega
    simp [show ¬ (k : Int) < (metK nx s0 k).length by omega, nxA_pos (show 0 < k by have := metK_pos (nx := nx) (s0 := s0) k; omega)]
    have hMk : k = (metK nx s0 k).length := by omega
    have hkp := metK_pos (nx := nx) (s0 := s0) k
    have hall : rowsK nx s0 k = rowsI ((metK nx s0 k).map (rowL nx (metK nx s0 k))) := by
      unfold rowsK; rw [List.take_of_length_le (by omega)]
    have htk : ∀ {α : Type} (f : Pr → α), List.take k (List.map f (metK nx s0 k)) = (metK nx s0 k).map f := fun f => by
      rw [List.take_of_length_le (by simp; omega)]
    have hok : FamOk 7400 [(2302, .ar 1 ((metK nx s0 k).map fun s => bD (fin s))), (2400, .ar 2 ((metK nx s0 k).map pD))] 1000000000 (rowsK nx s0 k) := by
      refine ⟨by omega, fun q hq => ?_, by simp, by omega⟩
      simp only [List.mem_cons, List.not_mem_nil, or_false] at hq
      rcases hq with rfl | rfl <;> simp
    refine ⟨famR 7400 [(2302, .ar 1 ((metK nx s0 k).map fun s => bD (fin s))), (2400, .ar 2 ((metK nx s0 k).map pD))] 1000000000 (rowsK nx s0 k) m, ⟨k, by omega, hk2, ⟨hMk, rfl⟩, m, by rw [hall]⟩, fun a b hm => ?_, ?_⟩
    · obtain ⟨k1, k2, k3⟩ := hok.keep2 (h := fun a => if a = 800 then some (.bx [.sl 1 7400 0 k, .sl 1 2302 0 k]) else lookH (nxH 7400 1000000000 (rowsK nx s0 k) m ++ [(800, .bx [.nl, .nl]), (1300, .bx [.sl 1 7400 0 k, .sl 1 2302 0 k]), (2000, .mb (numE pD (metK nx s0 k))), (2302, .ar 1 (List.take k ((metK nx s0 k).map fun s => bD (fin s)))), (2400, .ar 2 ((metK nx s0 k).map pD))]) a) (r := m) a b hm (by simp [nxH_o (show 0 < (rowsK nx s0 k).length by omega)]) (fun q hq => by
        simp only [List.mem_cons, List.not_mem_nil, or_false] at hq
        rcases hq with rfl | rfl <;> simp [htk]) (fun i x hx => by simp [nxH_at hx])
      exact ⟨k1, k2, k3⟩
    · exact ⟨⟨keepP_in (p := (7400, .bx (outY 1000000000 (rowsK nx s0 k) m))) hok.nodup (by simp [famR]), keepP_in (p := (2302, .ar 1 ((metK nx s0 k).map fun s => bD (fin s)))) hok.nodup (by simp [famR])⟩, keepP_in (p := (2400, .ar 2 ((metK nx s0 k).map pD))) hok.nodup (by simp [famR])⟩

end Go.Fw
