/- The framework, part Vdf. -/
import Derived.Test.YteenfgdemklhcaaMk
import Derived.Test.YteenfgdemklhcaaUmk
import Derived.Test.YteenfgdemklhcaaGwx
import Derived.Test.YteenfgdemklhcaaOp
set_option linter.unusedSimpArgs false
set_option linter.unusedVariables false
/- explored, whose automaton lies in rows of the caller's own. -/
namespace Go.Fw
open Go Go.Proofs
set_option linter.unusedSectionVars false
set_option linter.unnecessarySimpa false

section
variable {S : Type} [DecidableEq S]
/-- The rows that have been made. -/
def rowsK (nx : S → Int → S) (s0 : S) (k : Nat) : List (List D) := rowsI (((metK nx s0 k).take k).map (rowL nx (metK nx s0 k)))
theorem rowsK_zero {nx : S → Int → S} {s0 : S} : rowsK nx s0 0 = [] := by simp [rowsK, rowsI]
theorem rowsK_len {nx : S → Int → S} {s0 : S} {k : Nat} (h : k ≤ (metK nx s0 k).length) : (rowsK nx s0 k).length = k := by
  simp [rowsK, rowsI]; omega
theorem rowsK_next {nx : S → Int → S} {s0 s : S} {k : Nat} (h : (metK nx s0 k)[k]? = some s) : rowsK nx s0 (k + 1) = rowsK nx s0 k ++ [(rowL nx (metK nx s0 (k + 1)) s).map iD] := by
  have := (metK_next h).2
  unfold rowsK rowsI
  rw [← this]; simp
end

set_option maxRecDepth 100000 in
theorem f_exploredInt (s0 : Int) (most : Nat) (hm1 : 1 ≤ most) (hm2 : most ≤ 2000) (nx : Int → Int → Int) (fin : Int → Bool) (p : Int → Prop) (h0 : p s0) (hp : ∀ s c, p s → 0 ≤ c ∧ c < 3 → p (nx s c)) (SN SE : List D → (D → Prop) → Prop)
    (hN : ∀ s (c : Int), p s → 0 ≤ c ∧ c < 3 → ∀ K : D → Prop, K (iD (nx s c)) → SN [iD s, iD c] K) (hE : ∀ s, p s → ∀ K : D → Prop, K (.bool (fin s)) → SE [iD s] K) :
    FCalls Try.prog 70 [.d (iD s0), iA most, .clo SN, .clo SE] fun x res =>
      (∃ k m, (metK nx s0 k).length ≤ k ∧ (metK nx s0 k).length ≤ most ∧ x = .tp [.ag [.sl 1 7400 0 (metK nx s0 k).length, .sl 1 2302 0 (metK nx s0 k).length], .sl 1 2400 0 (metK nx s0 k).length, .d (.bool true)] ∧
        res = famR 7400 [(2302, .ar 1 ((metK nx s0 k).map fun s => bD (fin s))), (2400, .ar 1 ((metK nx s0 k).map iD))] 1000000000 (rowsI ((metK nx s0 k).map (rowL nx (metK nx s0 k)))) m) ∨
      (∃ k, most < (metK nx s0 k).length ∧ x = .tp [.ag [.nl, .nl], .nl, .d (.bool false)] ∧ res = []) := by
  have hkey : ∀ s t : Int, keyEq (iD s) (iD t) = decide (s = t) := fun s t => by simp [keyEq, Bool.beq_eq_decide_eq]
  refine gcalls_intro Ty.mixed Try.func70 rfl rfl rfl [1073] (by kernel_rfl) (by simp) ?_
  simp [iD]
  refine ⟨rfl, ?_⟩
  refine LoopVC.wk (Wk.adoptBx 1300 1 2302 1 (cs := [.nl, .nl]) (by simp) rfl (by simp)) ?_
  refine LoopVC.atU { g : Nat × Nat // g.1 ≤ (metK nx s0 g.1).length ∧ (metK nx s0 g.1).length ≤ most } (fun g => [(1, iA most), (2, .clo SN), (3, .clo SE), (8, .ptr 800 0), (11, .mp 2000), (12, .sl 1 2400 0 (metK nx s0 g.1.1).length), (13, .ptr 1300 0), (14, iA g.1.1)])
    (fun g => nxH 7400 1000000000 (rowsK nx s0 g.1.1) g.1.2 ++ [(800, .bx [.nl, .nl]), (1300, .bx [nxA 7400 g.1.1, .sl 1 2302 0 g.1.1]), (2000, .mb (numE iD (metK nx s0 g.1.1))), (2302, .ar 1 (((metK nx s0 g.1.1).take g.1.1).map fun s => bD (fin s))), (2400, .ar 1 ((metK nx s0 g.1.1).map iD))])
    (fun g => nxU 7400 1000000000 g.1.1 ++ [800, 1300, 2000, 2302, 2400]) (fun g => most + 1 - g.1.1) ⟨(0, 0), by simp [metK]; omega⟩ (by simp [metK]) (by simp [rowsK_zero, nxH_nil, nxU, nxA, metK, numE, iD]) ?_
  rintro ⟨⟨k, m⟩, hk1, hk2⟩
  simp only at hk1 hk2
  have hrk := rowsK_len hk1
  have hstep : ∀ s, (metK nx s0 k)[k]? = some s → metK nx s0 (k + 1) = meets (metK nx s0 k) (suc nx s) := fun s hs => by simp only [metK, hs]
  have hmem := metK_ind (nx := nx) (s0 := s0) (p := p) h0 (fun s hs => ⟨hp s 0 hs (by omega), hp s 1 hs (by omega), hp s 2 hs (by omega)⟩) k
  have hold := fun i s (hi : i < k) hs => metK_suc (nx := nx) (s0 := s0) (k := k) (i := i) (s := s) hi hs
  have hpre := metK_succ_prefix (nx := nx) (s0 := s0) k
  rcases Nat.lt_or_ge k (metK nx s0 k).length with hkl | hkl
  · obtain ⟨s, hsk⟩ : ∃ s, (metK nx s0 k)[k]? = some s := ⟨_, List.getElem?_eq_getElem hkl⟩
    have hms := hstep s hsk
    have hps := hmem s (List.mem_of_getElem? hsk)
    simp [show (k : Int) < (metK nx s0 k).length by omega]
    refine LoopVC.at { c : Nat // c ≤ 3 ∧ (meets (metK nx s0 k) ((suc nx s).take c)).length ≤ most } (fun c => [(1, iA most), (2, .clo SN), (3, .clo SE), (8, .ptr 800 0), (11, .mp 2000), (12, .sl 1 2400 0 (meets (metK nx s0 k) ((suc nx s).take c.1)).length), (13, .ptr 1300 0), (14, iA k), (15, .sl 1 3100 0 3), (32, iA c.1)])
      (fun c => nxH 7400 1000000000 (rowsK nx s0 k) m ++ [(800, .bx [.nl, .nl]), (1300, .bx [nxA 7400 k, .sl 1 2302 0 k]), (2000, .mb (numE iD (meets (metK nx s0 k) ((suc nx s).take c.1)))), (2302, .ar 1 (((metK nx s0 k).take k).map fun s => bD (fin s))), (2400, .ar 1 ((meets (metK nx s0 k) ((suc nx s).take c.1)).map iD)), (3100, .ar 1 ((rowC nx (metK nx s0 k) s c.1).map iD))])
      (nxU 7400 1000000000 k ++ [800, 1300, 2000, 2302, 2400, 3100]) (fun c => 3 - c.1) ⟨0, by simp [meets]; omega⟩ (by simp [meets]) (heapLe_nx hrk.symm (fun h => by simp [nxH_o h]) (fun i x hx => by simp [nxH_at hx]) (by simp [meets, rowC])) ?_
    rintro ⟨c, hc, hlc⟩
    rcases Nat.lt_or_ge c 3 with hc3 | hc3
    · have hpc : metK nx s0 k <+: meets (metK nx s0 k) ((suc nx s).take c) := meets_prefix _ _
      have hskc : (meets (metK nx s0 k) ((suc nx s).take c))[k]? = some s := by
        obtain ⟨r, hr⟩ := hpc
        rw [← hr, List.getElem?_append_left hkl]; exact hsk
      have hlen := hpc.length_le
      have hsn : meets (metK nx s0 k) ((suc nx s).take (c + 1)) = meet (meets (metK nx s0 k) ((suc nx s).take c)) (nx s c) := by rw [suc_take hc3, meets_snoc]
      have hrc := rowC_len (nx := nx) (L := metK nx s0 k) (s := s) hc
      have hrs := rowC_succ (nx := nx) (L := metK nx s0 k) (s := s) hc3
      have hfin : meets (metK nx s0 k) ((suc nx s).take (c + 1)) <+: metK nx s0 (k + 1) := by
        rw [hms]
        have e : meets (metK nx s0 k) (suc nx s) = meets (meets (metK nx s0 k) ((suc nx s).take (c + 1))) ((suc nx s).drop (c + 1)) := by
          unfold meets; rw [← List.foldl_append, List.take_append_drop]
        rw [e]; exact meets_prefix _ _
      rw [hsn] at hrs hfin
      obtain ⟨hkM, hskM⟩ := List.getElem?_eq_some_iff.1 hskc
      simp [show (c : Int) < 3 by omega, hkM, hskM, iD]
      refine hN s c hps (by omega) _ ?_
      have hk1 : ∀ t : Int, keyOk (.one .i64) (iD t) := fun t => by simp [keyOk]
      have hk2 : ∀ (M : List Int) (a b : D), (a, b) ∈ numE iD M → keyOk (.one .i64) a := fun M a b h => by
        simp only [numE, List.mem_map] at h
        obtain ⟨q, _, e⟩ := h
        rw [Prod.mk.injEq] at e
        rw [← e.1]; exact hk1 q.1
      have hkx := hk1 (nx s c)
      have hk2c := hk2 (meets (metK nx s0 k) ((suc nx s).take c))
      by_cases hin : nx s c ∈ meets (metK nx s0 k) ((suc nx s).take c)
      · have hmg := mget_num hkey hin
        have hmt : meet (meets (metK nx s0 k) ((suc nx s).take c)) (nx s c) = meets (metK nx s0 k) ((suc nx s).take c) := by unfold meet; rw [if_pos hin]
        rw [hmt] at hrs hsn hfin
        have hmh : mhas (numE iD (meets (metK nx s0 k) ((suc nx s).take c))) (iD (nx s c)) = true := by rw [mhas_num hkey]; simpa using hin
        have hrsD : ((rowC nx (metK nx s0 k) s c).map iD).set c (.int .i64 ((meets (metK nx s0 k) ((suc nx s).take c)).idxOf (nx s c) : Int)) = (rowC nx (metK nx s0 k) s (c + 1)).map iD := by rw [← hrs, List.map_set]
        skip
        simp [-keyOk, hmh, hmg, hkx, hrc, hc3, iD]
        refine ⟨hk2c, by omega, c + 1, .mk ?_ (heapLe_nx hrk.symm (fun h => by simp [nxH_o h]) (fun i x hx => by simp [nxH_at hx]) ?_), ⟨hc3, by rw [hsn]; exact hlc⟩, by omega⟩
        · simp [hsn]; exact wrap64 (by omega) (by omega)
        · simp [hsn, hrsD]
      · have hmh : mhas (numE iD (meets (metK nx s0 k) ((suc nx s).take c))) (iD (nx s c)) = false := by rw [mhas_num hkey]; simpa using hin
        have hmt : meet (meets (metK nx s0 k) ((suc nx s).take c)) (nx s c) = meets (metK nx s0 k) ((suc nx s).take c) ++ [nx s c] := by unfold meet; rw [if_neg hin]
        rw [hmt] at hrs hsn hfin
        have hmg := mget_num hkey (L := meets (metK nx s0 k) ((suc nx s).take c) ++ [nx s c]) (t := nx s c) (by simp)
        rw [numE_snoc] at hmg
        have hrsD : ((rowC nx (metK nx s0 k) s c).map iD).set c (.int .i64 ((meets (metK nx s0 k) ((suc nx s).take c) ++ [nx s c]).idxOf (nx s c) : Int)) = (rowC nx (metK nx s0 k) s (c + 1)).map iD := by rw [← hrs, List.map_set]
        skip
        simp [-keyOk, hmh, hmg, hkx, hrc, hc3, iD]
        refine ⟨hk2c, fun hm => ⟨[], ⟨⟨k + 1, ?_⟩, rfl⟩, by simp⟩, fun hm => ⟨hk2c, ⟨by omega, by omega⟩, ?_, by omega, c + 1, .mk ?_ (heapLe_nx hrk.symm (fun h => by simp [nxH_o h]) (fun i x hx => by simp [nxH_at hx]) ?_), ⟨hc3, ?_⟩, by omega⟩⟩
        · have := hfin.length_le
          simp at this; omega
        · rintro a b (h | ⟨rfl, _⟩)
          · exact hk2c a b h
          · exact hkx
        · simp [hsn]; exact wrap64 (by omega) (by omega)
        · simp [hsn, hrsD, numE_snoc, iD]
        · rw [hsn]; simp; omega
    · have : c = 3 := by omega
      subst this
      have ht3 : (suc nx s).take 3 = suc nx s := by simp [suc]
      have hrc := rowC_len (nx := nx) (L := metK nx s0 k) (s := s) (c := 3) (by omega)
      obtain ⟨hn1, hn2⟩ := metK_next hsk
      have hskc : (meets (metK nx s0 k) (suc nx s))[k]? = some s := by
        obtain ⟨r, hr⟩ := meets_prefix (suc nx s) (metK nx s0 k)
        rw [← hr, List.getElem?_append_left hkl]; exact hsk
      obtain ⟨hkM, hskM⟩ := List.getElem?_eq_some_iff.1 hskc
      have hrd : rowC nx (metK nx s0 k) s 3 = rowL nx (metK nx s0 (k + 1)) s := by rw [rowC_done, hms]
      rw [ht3] at hlc
      rcases Nat.eq_zero_or_pos k with hk0 | hk0
      · subst hk0
        simp [ht3, rowsK_zero, nxH_nil, nxA, nxU]
        intro m2
        refine .one (sch [.pur 0, .pur 1, .pur 2, .pur 3, .pur 4, .pur 5, .pur 6, .eff 7 [0, 1], .eff 8 [0, 1], .eff 9 [], .pur 10, .eff 11 []]) (by kernel_rfl) ?_
        simp [hkM, hskM, iD]
        refine hE s hps _ ?_
        simp [hkM, hskM, iD]
        have hrow3 : (rowC nx (metK nx s0 0) s 3).length = 3 := by rw [hrc]
        have hnx := rowsK_next hsk
        rw [← hrd] at hnx
        have hR : outY 1000000000 (rowsK nx s0 (0 + 1)) m2 = .sl 1 1000000000 0 3 :: List.replicate m2 .unk := by
          rw [hnx, rowsK_zero]; simp [outY, famC, hrow3]
        rw [Nat.zero_add] at hR
        refine ⟨1, ⟨m2, (Wk.renB 3100 (1000000000 + 0) (by omega) (by omega) (by simp)).trans (.mk ?_ (heapLe_nx (rowsK_len (by rw [hms]; have := (List.getElem?_eq_some_iff.1 hskc).1; omega)).symm (fun _ => ?_) (fun i x hx => ?_) ?_))⟩, ⟨?_, ?_⟩, ?_⟩
        · simp [hms]; exact wrap64 (by omega) (by omega)
        · simp [hR, AV.killL_eq, AV.kill, renL_unk]
        · rw [hnx, rowsK_zero] at hx
          match i, hx with
          | 0, hx =>
            simp at hx
            subst hx
            simp
          | i + 1, hx => simp at hx
        · have hn1D : ((metK nx s0 0).take 0).map (fun s => bD (fin s)) ++ [bD (fin s)] = ((metK nx s0 (0 + 1)).take (0 + 1)).map fun s => bD (fin s) := by rw [hn1]; simp
          simp only [List.map_take] at hn1D
          rw [hms] at hn1D
          simp [hms, nxA_pos]
          simpa using hn1D
        · have := hpre.length_le
          rw [hms] at this ⊢
          have h2 := (List.getElem?_eq_some_iff.1 hskc).1
          omega
        · rw [hms]; exact hlc
        · omega
      · have hkr : 0 < (rowsK nx s0 k).length := by omega
        simp [ht3, nxA_pos hk0, nxH_o hkr]
        refine ⟨⟨by rw [outY_len]; omega, by omega, by omega⟩, fun m2 => ?_⟩
        refine .one (sch [.pur 0, .pur 1, .pur 2, .pur 3, .pur 4, .pur 5, .pur 6, .eff 7 [0, 1], .eff 8 [0, 1], .eff 9 [], .pur 10, .eff 11 []]) (by kernel_rfl) ?_
        simp [hkM, hskM, iD]
        refine hE s hps _ ?_
        simp [hkM, hskM, iD]
        have hrow3 : (rowC nx (metK nx s0 k) s 3).length = 3 := by rw [hrc]
        have hnx := rowsK_next hsk
        rw [← hrd] at hnx
        have hR : outY 1000000000 (rowsK nx s0 (k + 1)) m2 = famC 1000000000 (rowsK nx s0 k) ++ .sl 1 (1000000000 + k) 0 3 :: List.replicate m2 .unk := by
          rw [hnx, outY, famC_snoc, hrk]; simp [hrow3]
        have hne : ∀ q : Nat, q < 1000000000 → ¬ q = 1000000000 + k := fun q h => by omega
        have hT : List.take k (outY 1000000000 (rowsK nx s0 k) m) = famC 1000000000 (rowsK nx s0 k) := by rw [outY, List.take_left' (by rw [famC_len, hrk])]
        have hF : AV.renL (gR 3100 (1000000000 + k)) (famC 1000000000 (rowsK nx s0 k)) = famC 1000000000 (rowsK nx s0 k) := famC_ren _ _ _ _ fun i hi => by simp [gR]; omega
        refine ⟨⟨by omega, by omega, by omega⟩, k + 1, ⟨m2, (Wk.renB 3100 (1000000000 + k) (by omega) (by omega) (by simp; omega)).trans (.mk ?_ (heapLe_nx (rowsK_len (by rw [hms]; have := (List.getElem?_eq_some_iff.1 hskc).1; omega)).symm (fun _ => ?_) (fun i x hx => ?_) ?_))⟩, ⟨?_, ?_⟩, ?_⟩
        · simp [hms]; exact wrap64 (by omega) (by omega)
        · simp [hR, hT, outY_kill, AV.killL_eq, famC_kill, AV.kill, renL_app, renL_unk, hF, hne]
        · rw [hnx] at hx
          rcases Nat.lt_or_ge i (rowsK nx s0 k).length with hi | hi
          · rw [List.getElem?_append_left hi] at hx
            simp [nxH_at hx, show ¬ i + 1000000000 = 1000000000 + k by omega]
          · rw [List.getElem?_append_right hi] at hx
            have hik : i = (rowsK nx s0 k).length := by
              have := (List.getElem?_eq_some_iff.1 hx).1
              simp at this; omega
            subst hik
            simp at hx
            subst hx
            simp [hrk, Nat.add_comm k]
        · have hn1D : ((metK nx s0 k).take k).map (fun s => bD (fin s)) ++ [bD (fin s)] = ((metK nx s0 (k + 1)).take (k + 1)).map fun s => bD (fin s) := by rw [hn1]; simp
          simp only [List.map_take] at hn1D
          rw [hms] at hn1D
          simp [hn1D, hms, nxA_pos, hne]
        · have := hpre.length_le
          rw [hms] at this ⊢
          have h2 := (List.getElem?_eq_some_iff.1 hskc).1
          omega
        · rw [hms]; exact hlc
        · omega
  · have hkk : k = (metK nx s0 k).length := by omega
    simp [show ¬ (k : Int) < (metK nx s0 k).length by omega, nxA_pos (show 0 < k by have := metK_pos (nx := nx) (s0 := s0) k; omega)]
    have hMk : k = (metK nx s0 k).length := by omega
    have hkp := metK_pos (nx := nx) (s0 := s0) k
    have hall : rowsK nx s0 k = rowsI ((metK nx s0 k).map (rowL nx (metK nx s0 k))) := by
      unfold rowsK; rw [List.take_of_length_le (by omega)]
    have htk : ∀ {α : Type} (f : Int → α), List.take k (List.map f (metK nx s0 k)) = (metK nx s0 k).map f := fun f => by
      rw [List.take_of_length_le (by simp; omega)]
    have hok : FamOk 7400 [(2302, .ar 1 ((metK nx s0 k).map fun s => bD (fin s))), (2400, .ar 1 ((metK nx s0 k).map iD))] 1000000000 (rowsK nx s0 k) := by
      refine ⟨by omega, fun q hq => ?_, by simp, by omega⟩
      simp only [List.mem_cons, List.not_mem_nil, or_false] at hq
      rcases hq with rfl | rfl <;> simp
    refine ⟨famR 7400 [(2302, .ar 1 ((metK nx s0 k).map fun s => bD (fin s))), (2400, .ar 1 ((metK nx s0 k).map iD))] 1000000000 (rowsK nx s0 k) m, ⟨k, by omega, hk2, ⟨hMk, rfl⟩, m, by rw [hall]⟩, fun a b hm => ?_, ?_⟩
    · obtain ⟨k1, k2, k3⟩ := hok.keep2 (h := fun a => if a = 800 then some (.bx [.sl 1 7400 0 k, .sl 1 2302 0 k]) else lookH (nxH 7400 1000000000 (rowsK nx s0 k) m ++ [(800, .bx [.nl, .nl]), (1300, .bx [.sl 1 7400 0 k, .sl 1 2302 0 k]), (2000, .mb (numE iD (metK nx s0 k))), (2302, .ar 1 (List.take k ((metK nx s0 k).map fun s => bD (fin s)))), (2400, .ar 1 ((metK nx s0 k).map iD))]) a) (r := m) a b hm (by simp [nxH_o (show 0 < (rowsK nx s0 k).length by omega)]) (fun q hq => by
        simp only [List.mem_cons, List.not_mem_nil, or_false] at hq
        rcases hq with rfl | rfl <;> simp [htk]) (fun i x hx => by simp [nxH_at hx])
      exact ⟨k1, k2, k3⟩
    · exact ⟨⟨keepP_in (p := (7400, .bx (outY 1000000000 (rowsK nx s0 k) m))) hok.nodup (by simp [famR]), keepP_in (p := (2302, .ar 1 ((metK nx s0 k).map fun s => bD (fin s)))) hok.nodup (by simp [famR])⟩, keepP_in (p := (2400, .ar 1 ((metK nx s0 k).map iD))) hok.nodup (by simp [famR])⟩

end Go.Fw

/- The smallest automaton, in rows of the caller's own. -/
namespace Go.Fw
open Go Go.Proofs
set_option linter.unusedSectionVars false
set_option linter.unnecessarySimpa false

def dfAV (O E : Nat) (a : Df) : AV := .ag [.sl 1 O 0 a.next.length, .sl 1 E 0 a.ends.length]
def dfR (O E b : Nat) (a : Df) (r : Nat) : List (Nat × Blk) := famR O [(E, .ar 1 (a.ends.map bD))] b (rowsI a.next) r
/-- An automaton in rows of its own, or none. -/
def DfIs (O E b : Nat) (R : Df → Prop) (x : AV) (res : List (Nat × Blk)) : Prop :=
  (∃ (y : Df) (r : Nat), R y ∧ y.next.length ≤ 2000 ∧ y.ends.length = y.next.length ∧ x = dfAV O E y ∧ res = dfR O E b y r) ∨ (x = .ag [.nl, .nl] ∧ res = [] ∧ R ⟨[], []⟩)

theorem dfOk (O E b : Nat) (a : Df) (h : 100 ≤ O ∧ 100 ≤ E ∧ O < b ∧ E < b ∧ E ≠ O) (hl : b + a.next.length ≤ 1000000000000) : FamOk O [(E, .ar 1 (a.ends.map bD))] b (rowsI a.next) := by
  refine ⟨by omega, fun q hq => ?_, by simp, by simpa [rowsI] using hl⟩
  simp only [List.mem_cons, List.not_mem_nil, or_false] at hq
  subst hq
  exact ⟨⟨h.2.1, h.2.2.2.1, h.2.2.2.2⟩, rfl⟩
theorem df_back {O E b r base : Nat} {a : Df} (hok : FamOk O [(E, .ar 1 (a.ends.map bD))] b (rowsI a.next)) (hE : E < 1000000000000) : (dfAV O E a).back (fun _ => 0) base [] (dfR O E b a r) = dfAV base (base + 1) a := by
  have h1 : outE [] (dfR O E b a r) O = false := outE_in (by simp [dfR, famR])
  have h2 : outE [] (dfR O E b a r) E = false := outE_in (by simp [dfR, famR])
  have o1 := hok.o
  have o2 := hok.top
  have o3 := (hok.ar (E, .ar 1 (a.ends.map bD)) (by simp)).1
  have p1 : posOf O (dfR O E b a r) = 0 := by simp [dfR, famR, posOf]
  have p2 : posOf E (dfR O E b a r) = 1 := by simp [dfR, famR, posOf, o3.2.2]
  simp [dfAV, AV.kp, AV.kpL, h1, h2, AV.ren, AV.renL, renOf, p1, p2, show ¬ (O < 100 ∨ 1000000000000 ≤ O) by omega, show ¬ (E < 100 ∨ 1000000000000 ≤ E) by omega]
theorem exp_back {n s b r base : Nat} {e m : Blk} {L : List (List D)} (hok : FamOk 7400 [(2302, e), (2400, m)] b L) : (AV.tp [.ag [.sl 1 7400 0 n, .sl 1 2302 0 n], .sl s 2400 0 n, .d (.bool true)]).back (fun _ => 0) base [] (famR 7400 [(2302, e), (2400, m)] b L r) = .tp [.ag [.sl 1 base 0 n, .sl 1 (base + 1) 0 n], .sl s (base + 2) 0 n, .d (.bool true)] := by
  have h1 : outE [] (famR 7400 [(2302, e), (2400, m)] b L r) 7400 = false := outE_in (by simp [famR])
  have h2 : outE [] (famR 7400 [(2302, e), (2400, m)] b L r) 2302 = false := outE_in (by simp [famR])
  have h3 : outE [] (famR 7400 [(2302, e), (2400, m)] b L r) 2400 = false := outE_in (by simp [famR])
  have p1 : posOf 7400 (famR 7400 [(2302, e), (2400, m)] b L r) = 0 := by simp [famR, posOf]
  have p2 : posOf 2302 (famR 7400 [(2302, e), (2400, m)] b L r) = 1 := by simp [famR, posOf]
  have p3 : posOf 2400 (famR 7400 [(2302, e), (2400, m)] b L r) = 2 := by simp [famR, posOf]
  simp [AV.kp, AV.kpL, h1, h2, h3, AV.ren, AV.renL, renOf, p1, p2, p3]

set_option maxHeartbeats 1000000 in
set_option maxRecDepth 100000 in
theorem f_minimize (a : Df) (h : okDf a = true) : FCalls Try.prog 32 [.d a.d] fun x res => ∃ (y : Df) (r : Nat), IsMin a y ∧ y.next.length ≤ 2000 ∧ y.ends.length = y.next.length ∧ x = dfAV 2000000000 2000000001 y ∧ res = dfR 2000000000 2000000001 2000000003 y r := by
  refine gcalls_intro Ty.mixed Try.func32 rfl rfl rfl [1] (by kernel_rfl) (by simp) ?_
  obtain ⟨n1, n2, n3⟩ := okDf_len h
  simp [Df.d]
  refine .ddat (c_sameStates a h) rfl (by simp [Df.d]) ?_
  rintro _ ⟨cl, rfl, hcl⟩
  have hz := hcl.zero h
  have hcn := hcl.len
  have hex := f_exploredInt 0 a.next.length (by omega) (by omega) (fun s c => cl.getD (a.go s c).toNat 0) a.fin a.st (st0 h) (fun s c hs hc => hcl.cls.st _ (go_st h hs hc))
    (cloS Try.prog 75 [] [.dp [.d (intsD cl)], dpA a]) (cloS Try.prog 76 [] [dpA a])
    (fun s c hs hc K hK => ⟨_, c_min1 h hcl hs hc, by rintro r rfl; rfl, by rintro r rfl; exact hK⟩)
    (fun s hs K hK => ⟨_, c_min2 h hs, by rintro r rfl; rfl, by rintro r rfl; exact hK⟩)
  have hfin : ∀ k, (metK (fun s c => cl.getD (a.go s c).toNat 0) 0 k).length ≤ k → (metK (fun s c => cl.getD (a.go s c).toNat 0) 0 k).length ≤ a.next.length → IsMin a (autoL (fun s c => cl.getD (a.go s c).toNat 0) a.fin (metK (fun s c => cl.getD (a.go s c).toNat 0) 0 k)) := fun k e1 e2 => by
    have e : cl.getD (Int.toNat 0) 0 = 0 := hz
    have hcan := canon_of_classes h hcl.cls (nx := fun s c => cl.getD (a.go s c).toNat 0) (fun q c _ _ => rfl) (k := k) (by rw [e]; exact e1) (by rw [e]; omega) (fin := a.fin) (fun q _ => rfl)
    rw [e] at hcan
    exact hcan
  have hbd : ∀ k, (metK (fun s c => cl.getD (a.go s c).toNat 0) 0 k).length ≤ a.next.length := fun k => (metK_bound h (nx := fun s c => cl.getD (a.go s c).toNat 0) (st0 h) (fun q c hq hc => hcl.cls.st _ (go_st h hq hc)) k).1
  obtain ⟨v0, d1, d2, d3⟩ := getD_ex (xs := cl) (i := 0) (by omega)
  rw [hz] at d3
  subst d3
  generalize (fun (s c : Int) => cl.getD (a.go s c).toNat 0) = nx at *
  simp
  refine .pre (Wk.look 3 rfl (by simp)) ?_
  refine .one (schA [.pur 0, .pur 1, .pur 2, .pur 3, .pur 4, .pur 5, .pur 6, .pur 7] (.alt 8 [] (sch [.pur 9, .pur 10, .pur 11, .pur 12, .eff 13 [0, 1, 2, 3, 4, 5, 6, 7, 9, 10, 11, 12], .eff 14 [11, 12], .pur 15, .pur 16]) 13 [0, 1, 2, 3, 4, 5, 6, 7] (sch [.eff 8 [], .pur 9, .pur 10, .pur 11, .pur 12, .eff 14 [11, 12], .pur 15, .pur 16]))) (by kernel_rfl) ?_
  simp [hcn, d1, d2]
  refine ⟨by omega, ?_, by omega, ?_⟩
  all_goals
    refine .freshG 2000000000 hex rfl rfl (by simp) (by omega) ?_
    rintro x res (⟨k, m, e1, e2, rfl, rfl⟩ | ⟨k, e1, _⟩)
    · have hok : FamOk 7400 [(2302, .ar 1 ((metK nx 0 k).map fun s => bD (a.fin s))), (2400, .ar 1 ((metK nx 0 k).map iD))] 1000000000 (rowsI ((metK nx 0 k).map (rowL nx (metK nx 0 k)))) := by
        refine ⟨by omega, fun q hq => ?_, by simp, by simp [rowsI]; omega⟩
        simp only [List.mem_cons, List.not_mem_nil, or_false] at hq
        rcases hq with rfl | rfl <;> simp
      have hok2 := dfOk 2000000000 2000000001 2000000003 (autoL nx a.fin (metK nx 0 k)) (by omega) (by simp [autoL]; omega)
      refine ⟨⟨hok.nodup, hok.rng, fun j hj => ?_⟩, ?_⟩
      · rw [famR_len] at hj
        simp [rowsI] at hj ⊢
        omega
      rw [hok.newS, exp_back hok]
      simp [-retXP_is, hcn, d1, d2]
      first | refine ⟨by omega, ?_⟩ | skip
      refine retXP_fam (r := m) trivial hok2 ⟨autoL nx a.fin (metK nx 0 k), hfin k e1 e2, by simp [autoL]; omega, by simp [autoL], by simp [dfAV, autoL], m, rfl⟩ ?_ ?_ ?_ ?_
      · simp [autoL_rows]
      · simp [autoL_rows]
      · intro i x hx
        rw [autoL_rows] at hx
        simp [famS_atN hx]
      · have k0 := hok2.k0 (r := m)
        have k1 := hok2.k1 (r := m) (q := (2000000001, .ar 1 ((autoL nx a.fin (metK nx 0 k)).ends.map bD))) (by simp)
        simp [k0, k1]
    · have := hbd k; omega
end Go.Fw

/- Copies of automata in rows of the caller's own. -/
namespace Go.Fw
open Go Go.Proofs
set_option linter.unusedSectionVars false
set_option linter.unnecessarySimpa false

theorem rowsI_len (L : List (List Int)) : (rowsI L).length = L.length := by simp [rowsI]
theorem rowsI_take {L : List (List Int)} {i : Nat} (h : i < L.length) : rowsI (L.take (i + 1)) = rowsI (L.take i) ++ [L[i].map iD] := by
  unfold rowsI; rw [List.take_succ_eq_append_getElem h, List.map_append]; rfl

set_option maxRecDepth 100000 in
theorem s_toIntS (xs : List Int) (hlen : xs.length ≤ 1048576) : SCalls Try.prog 65 [.d (intsD xs)] fun sz ys => sz = 1 ∧ ys = xs.map iD := by
  refine scalls_intro Ty.mixed Try.func65 rfl rfl rfl [] (by kernel_rfl) (by simp) ?_
  simp
  refine ⟨by omega, ?_⟩
  refine LoopVC.at { i : Nat // i ≤ xs.length } (fun i => [(0, .d (intsD xs)), (3, .sl 1 700 0 xs.length), (4, iA i.1)]) (fun i => [(700, .ar 1 (mixL (xs.map iD) (iD 0) i.1))]) [700] (fun i => xs.length - i.1) ⟨0, by simp⟩ (by simp) (by simp [mixL_zero]) ?_
  rintro ⟨i, hi⟩
  rcases Nat.lt_or_ge i xs.length with h | h
  · have hl : (mixL (xs.map iD) (iD 0) i).length = xs.length := by rw [mixL_len (by simpa using hi)]; simp
    simp [h, hl]
    refine ⟨i + 1, .mk (by simp; exact wrap64 (by omega) (by omega)) (by simp; rw [← mixL_set (by simpa using h)]; simp), h, by omega⟩
  · simp [Nat.not_lt.2 h]
    rw [mixL_all (by simpa using h)]
    simp
set_option maxRecDepth 100000 in
theorem s_toBoolS (xs : List Bool) (hlen : xs.length ≤ 1048576) : SCalls Try.prog 27 [.d (bsD xs)] fun sz ys => sz = 1 ∧ ys = xs.map bD := by
  refine scalls_intro Ty.mixed Try.func27 rfl rfl rfl [] (by kernel_rfl) (by simp) ?_
  simp
  refine ⟨by omega, ?_⟩
  refine LoopVC.at { i : Nat // i ≤ xs.length } (fun i => [(0, .d (bsD xs)), (3, .sl 1 700 0 xs.length), (4, iA i.1)]) (fun i => [(700, .ar 1 (mixL (xs.map bD) (bD false) i.1))]) [700] (fun i => xs.length - i.1) ⟨0, by simp⟩ (by simp) (by simp [mixL_zero]) ?_
  rintro ⟨i, hi⟩
  rcases Nat.lt_or_ge i xs.length with h | h
  · have hl : (mixL (xs.map bD) (bD false) i).length = xs.length := by rw [mixL_len (by simpa using hi)]; simp
    simp [h, hl]
    refine ⟨i + 1, .mk (by simp; exact wrap64 (by omega) (by omega)) (by simp; rw [← mixL_set (by simpa using h)]; simp), h, by omega⟩
  · simp [Nat.not_lt.2 h]
    rw [mixL_all (by simpa using h)]
    simp
set_option maxHeartbeats 800000 in
set_option maxRecDepth 100000 in
theorem f_toIntSS (L : List (List Int)) (hlen : L.length ≤ 1048576) (hr : ∀ x ∈ L, x.length ≤ 1048576) : FCalls Try.prog 26 [.d (rowsD L)] fun x res => x = .sl 1 700 0 L.length ∧ res = famR 700 [] 1000000000 (rowsI L) 0 := by
  refine gcalls_intro Ty.mixed Try.func26 rfl rfl rfl [1007] (by kernel_rfl) (by simp) ?_
  simp
  refine ⟨by omega, ?_⟩
  refine LoopVC.atU { i : Nat // i ≤ L.length } (fun i => [(0, .d (rowsD L)), (3, .sl 1 700 0 L.length), (4, iA i.1)]) (fun i => (700, .bx (fillC 1000000000 L.length (rowsI (L.take i.1)))) :: famH 1000000000 (rowsI (L.take i.1))) (fun i => 700 :: famU 1000000000 i.1) (fun i => L.length - i.1) ⟨0, by simp⟩ (by simp) ?_ ?_
  · refine heapLe_ofam0 (by simp [rowsI]) (by simp [rowsI, fillC_zero]) (fillC_kp (by simp [rowsI])) (fun i x hx => by simp [rowsI] at hx)
  rintro ⟨i, hi⟩
  have hil : (rowsI (L.take i)).length = i := by rw [rowsI_len, List.length_take]; omega
  rcases Nat.lt_or_ge i L.length with h | h
  · have hfl := fillC_len (b := 1000000000) (n := L.length) (L := rowsI (L.take i)) (by omega)
    have hfs := fillC_set (b := 1000000000) (n := L.length) (L := rowsI (L.take i)) (x := L[i].map iD) (by omega)
    rw [hil, ← rowsI_take h] at hfs
    have hne : ∀ q : Nat, q < 1000000000 → ¬ q = 1000000000 + i := fun q h => by omega
    have hne2 : ∀ q : Nat, q < 1000000000 → ¬ 1000000000 + i = q := fun q h => by omega
    rw [List.length_map] at hfs
    simp [h]
    refine .freshS (1000000000 + i) (s_toIntS L[i] (hr _ (List.getElem_mem h))) (by omega) (by simp; omega) rfl (by simp) ?_
    rintro _ _ ⟨rfl, rfl⟩
    simp [hfl, h, hne, hne2, hfs]
    refine ⟨by omega, i + 1, .mk (by simp; exact wrap64 (by omega) (by omega)) (heapLe_ofam0 (by rw [rowsI_len, List.length_take]; omega) (by simp [hne]) (fillC_kp fun j hj => ?_) (fun j x hx => ?_)), h, by omega⟩
    · rw [rowsI_len, List.length_take] at hj
      exact outU_of0 (by omega)
    · rw [rowsI_take h] at hx
      rcases Nat.lt_or_ge j (rowsI (L.take i)).length with hj | hj
      · rw [List.getElem?_append_left hj] at hx
        simp [famH_ati hx, show ¬ j + 1000000000 = 1000000000 + i by omega]
      · rw [List.getElem?_append_right hj] at hx
        have hik : j = (rowsI (L.take i)).length := by
          have := (List.getElem?_eq_some_iff.1 hx).1
          simp at this; omega
        subst hik
        simp at hx
        subst hx
        simp [hil, Nat.add_comm i, hne2]
  · have : i = L.length := by omega
    subst this
    rw [List.take_length] at hil
    have hok : FamOk 700 [] 1000000000 (rowsI L) := ⟨by omega, by simp, by simp, by omega⟩
    simp [-retXP_is]
    refine retXP_fam (r := 0) trivial hok ⟨rfl, rfl⟩ ?_ (by simp) ?_ ?_
    · simp [fillC_all hil]
    · intro i x hx
      simp [famH_ati hx]
    · simp [hok.k0]
theorem sl1_back {n O b r base : Nat} {ars : List (Nat × Blk)} {L : List (List D)} (hok : FamOk O ars b L) : (AV.sl 1 O 0 n).back (fun _ => 0) base [] (famR O ars b L r) = .sl 1 base 0 n := by
  have h1 : outE [] (famR O ars b L r) O = false := outE_in (by simp [famR])
  have p1 : posOf O (famR O ars b L r) = 0 := by simp [famR, posOf]
  have o1 := hok.o
  have o2 := hok.top
  simp [AV.kp, h1, AV.ren, renOf, p1, show ¬ (O < 100 ∨ 1000000000000 ≤ O) by omega]
/-- A copy of an automaton. -/
theorem f_toDfa (a : Df) (h1 : a.next.length ≤ 1048576) (h2 : ∀ x ∈ a.next, x.length ≤ 1048576) (h3 : a.ends.length ≤ 1048576) : FCalls Try.prog 8 [.d a.d] fun x res => x = dfAV 4000000000 600 a ∧ res = dfR 4000000000 600 4000000001 a 0 := by
  refine gcalls_intro Ty.mixed Try.func8 rfl rfl rfl [1] (by kernel_rfl) (by simp) ?_
  simp [Df.d]
  refine .freshG 4000000000 (f_toIntSS a.next h1 h2) rfl rfl (by simp) (by omega) ?_
  rintro _ _ ⟨rfl, rfl⟩
  have hok : FamOk 700 [] 1000000000 (rowsI a.next) := ⟨by omega, by simp, by simp, by rw [rowsI_len]; omega⟩
  have hok2 := dfOk 4000000000 600 4000000001 a (by omega) (by omega)
  refine ⟨⟨hok.nodup, hok.rng, fun j hj => ?_⟩, ?_⟩
  · rw [famR_len, rowsI_len] at hj
    simp at hj ⊢
    omega
  rw [hok.newS, sl1_back hok]
  simp
  refine .freshS 600 (s_toBoolS a.ends h3) (by omega) (by simp) rfl (by simp) ?_
  rintro _ _ ⟨rfl, rfl⟩
  simp [-retXP_is]
  refine retXP_fam (r := 0) trivial hok2 ⟨rfl, rfl⟩ ?_ ?_ ?_ ?_
  · simp
  · simp
  · intro i x hx
    simp [famS_atN hx]
  · have k0 := hok2.k0 (r := 0)
    have k1 := hok2.k1 (r := 0) (q := (600, .ar 1 (a.ends.map bD))) (by simp)
    simp [k0, k1]
end Go.Fw

/- Live automata as data; marks written into them. -/
namespace Go.Fw
open Go Go.Proofs
set_option linter.unusedSectionVars false
set_option linter.unnecessarySimpa false

theorem tot_bound {n : Nat} : ∀ {L : List (List Int)}, (∀ x ∈ L, x.length ≤ n) → tot L ≤ L.length * n
  | [], _ => by simp [tot]
  | x :: t, h => by
    have h1 := h x (by simp)
    have h2 := tot_bound (L := t) fun y hy => h y (by simp [hy])
    have : tot (x :: t) = x.length + tot t := by simp [tot]
    rw [this, List.length_cons, Nat.add_mul]; omega
/-- An automaton lies there. -/
structure DfAt (hp : HP) (O E b : Nat) (a : Df) (r : Nat) : Prop where
  o : hp.heap O = some (.bx (outY b (rowsI a.next) r))
  e : hp.heap E = some (.ar 1 (a.ends.map bD))
  f : ∀ i x, (rowsI a.next)[i]? = some x → hp.heap (i + b) = some (.ar 1 x)
section
variable {P : Program} {σ : AS} {hp : HP} {O E b r : Nat} {a : Df}
theorem rowsI_list (L : List (List Int)) : D.list ((rowsI L).map .list) = rowsD L := by
  simp [rowsI, rowsD, intsD, Function.comp_def]
theorem DfAt.data (h : DfAt hp O E b a r) : ∃ p l, toD hp (dfAV O E a) = some (p, a.d, l) ∧ p := by
  obtain ⟨p, l, h1, h2⟩ := toD1_fam (cs := List.replicate r .unk) h.o fun i x hx => by rw [Nat.add_comm]; exact h.f i x hx
  rw [rowsI_len] at h1
  refine ⟨p ∧ (1 = 1 ∧ 0 + a.ends.length ≤ (a.ends.map bD).length) ∧ True, l ++ ([E] ++ []), ?_, h2, ⟨rfl, by simp⟩, trivial⟩
  have hE : toD1 hp (.sl 1 E 0 a.ends.length) = some (1 = 1 ∧ 0 + a.ends.length ≤ (a.ends.map bD).length, .list (((a.ends.map bD).drop 0).take a.ends.length), [E]) := by simp only [toD1, h.e]
  show (toDs hp [_, _]).map _ = _
  simp only [toDs, h1, hE, Option.map_some]
  rw [rowsI_list, List.drop_zero, List.take_of_length_le (by simp)]
  rfl
theorem DfAt.view (h : DfAt σ.hp O E b a r) {zs ys : List AV} {q : Prop} {l : List Nat} (hv : viewL P σ.hp zs = some (q, ys, l)) (hq : q) : ∃ p l', viewL P σ.hp (dfAV O E a :: zs) = some (p, .d a.d :: ys, l') ∧ p := by
  obtain ⟨p, l', h1, h2⟩ := h.data
  refine ⟨p ∧ q, l' ++ l, ?_, h2, hq⟩
  have e : viewA P σ.hp (dfAV O E a) = some (p, .d a.d, l') := by
    show (toD σ.hp (dfAV O E a)).map _ = _
    rw [h1]; rfl
  simp only [viewL, e, hv]
theorem DfAt.view2 (h : DfAt σ.hp O E b a r) {x y : AV} {q : Prop} {l : List Nat} (hx : viewA P σ.hp x = some (q, y, l)) (hq : q) : ∃ p l', viewL P σ.hp [x, dfAV O E a] = some (p, [y, .d a.d], l') ∧ p := by
  obtain ⟨p, l', h1, h2⟩ := h.view (P := P) (zs := []) rfl trivial
  refine ⟨q ∧ p, l ++ l', ?_, hq, h2⟩
  rw [viewL, hx, h1]
theorem CallVC.dvalV {f : FuncId} {xs ys : List AV} {v : D} {K : AV → AS → Prop} (hc : DCalls P f ys fun r => r = v) (hv : ∃ p l, viewL P σ.hp xs = some (p, ys, l) ∧ p) (hf : v.flat = true) (hk : K (.d v) σ) : CallVC P f xs σ K := by
  obtain ⟨p, l, h1, h2⟩ := hv
  exact .dval hc h1 h2 hf hk

theorem CallVC.freshE {f : FuncId} {xs args : List AV} {R : AV → List (Nat × Blk) → Prop} {K : AV → AS → Prop} (base : Nat) (hc : FCalls P f args R) (hv : ∃ p l, viewL P σ.hp xs = some (p, args, l) ∧ p) (hb : (100 ≤ base ∧ base < 1000000000000))
    (hk : ∀ x res, R x res → ((res.map Prod.fst).Nodup ∧ (∀ p ∈ res, (100 ≤ p.1 ∧ p.1 < 1000000000000)) ∧ (∀ j, j < res.length → (σ.used (base + j) = false ∧ base + j < 1000000000000)) ∧ (x.flatR = true ∧ res.all (fun p => p.2.flatR) = true)) ∧ K (x.back (fun _ => 0) base [] res) (newL σ base (newBs base res))) : CallVC P f xs σ K := by
  obtain ⟨p, l, h1, h2⟩ := hv
  refine .freshV base hc h1 rfl h2 hb fun x res h => ?_
  obtain ⟨⟨g1, g2, g3, g4⟩, g5⟩ := hk x res h
  exact ⟨⟨g1, g2, g3, .inr g4⟩, g5⟩
theorem GCall.flatV {fz : List Nat} {dst : Option Nat} {f : FuncId} {args : Array Operand} {ats : Array TypeId} {g : Bool} {K : AS → Prop} {xs zs ys : List AV} {v : D}
    (hc : DCalls P f ys fun r => r = v) (hz : strips xs = zs) (hv : ∃ p l, viewL P σ.hp zs = some (p, ys, l) ∧ p) (hs : stripsP xs) (hf : v.flat = true) (hcb : callable P f = true) (hk : K (σ.put dst (.op g (.d v)))) : GCall P fz σ dst f args ats xs g K := by
  subst hz
  obtain ⟨p, l, h1, h2⟩ := hv
  exact .flat (fun _ => hc) h1 (fun _ => ⟨hs, h2⟩) hf hcb hk
theorem dfAV_flat : (dfAV O E a).flatR = true := by simp [dfAV, AV.flatR, AV.flat2, AV.flat1]
theorem rowsI_flat (L : List (List Int)) : ∀ xs ∈ rowsI L, xs.all D.flat = true := fun xs h => by
  obtain ⟨x, _, rfl⟩ := List.mem_map.1 h
  simp [D.flat, D.one]
theorem dfR_flat : (dfR O E b a r).all (fun p => p.2.flatR) = true :=
  famR_flat (fun q hq => by
    simp only [List.mem_cons, List.not_mem_nil, or_false] at hq
    subst hq
    simp [Blk.flatR, D.flat, D.one]) (rowsI_flat _)

/-- The same lengths. -/
theorem dfAV_mark (k : Nat) : dfAV O E (markDf a k) = dfAV O E a := by
  simp [dfAV, markDf, mkR_len, marksB_len]

theorem DfAt.viewM {k : Nat} (h : DfAt σ.hp O E b (markDf a k) r) {zs ys : List AV} {q : Prop} {l : List Nat} (hv : viewL P σ.hp zs = some (q, ys, l)) (hq : q) : ∃ p l', viewL P σ.hp (dfAV O E a :: zs) = some (p, .d (markDf a k).d :: ys, l') ∧ p := by
  rw [← dfAV_mark k]; exact h.view hv hq
/-! ### Lent to be marked -/
def gD (O E b n : Nat) (q : Nat) : Nat := if q = 1 then O else if q = 2 then E else if bF ≤ q ∧ q < bF + n then q - bF + b else 0
theorem map_famR {f : Nat × Blk → Nat × Blk} {b' : Nat} : ∀ (M : List (List D)) (b : Nat), (∀ i w, i < M.length → f (b + i, .ar 1 w) = (b' + i, .ar 1 w)) → (famH b M).map f = famH b' M
  | [], _, _ => rfl
  | w :: t, b, h => by
    have h0 := h 0 w (by simp)
    rw [Nat.add_zero, Nat.add_zero] at h0
    rw [famH, List.map_cons, h0, famH]
    congr 1
    exact map_famR t (b + 1) fun i x hi => by rw [show b + 1 + i = b + (i + 1) by omega, h (i + 1) x (by simpa using hi), show b' + 1 + i = b' + (i + 1) by omega]
theorem markDf_rows (a : Df) (k : Nat) : (rowsI (markDf a k).next).length = a.next.length := by simp [rowsI, markDf, mkR_len]
theorem outY_mark {k : Nat} : outY b (rowsI (markDf a k).next) r = outY b (rowsI a.next) r := by
  rw [outY, outY, famC_same (L := rowsI (markDf a k).next) (M := rowsI a.next) (mkR_lens k a.next a.next.length)]
set_option maxHeartbeats 800000 in
theorem CallVC.lendDf {k : Nat} {K : AV → AS → Prop} (hn : a.next.length ≤ 1048576) (hk2 : k + tot a.next + a.ends.length ≤ 8796093022208) (hOE : O ≠ E ∧ O < b ∧ E < b ∧ 0 < O ∧ 0 < E) (h : DfAt σ.hp O E b a r)
    (hk : K (.d (iD (k + tot a.next + a.ends.length : Nat))) (σ.withHp (setAll σ.hp ((O, .bx (outY b (rowsI a.next) r)) :: (E, .ar 1 ((markDf a k).ends.map bD)) :: famH b (rowsI (markDf a k).next))))) : CallVC Try.prog 11 [dfAV O E a, iA k] σ K := by
  have hgF : ∀ i, i < a.next.length → gD O E b a.next.length (bF + i) = b + i := fun i hi => by
    unfold gD
    rw [if_neg (by unfold bF; omega), if_neg (by unfold bF; omega), if_pos (by omega)]; omega
  have hg1 : gD O E b a.next.length 1 = O := by simp [gD]
  have hg2 : gD O E b a.next.length 2 = E := by simp [gD]
  have hrl := rowsI_len a.next
  have hkeys : ∀ q, q ∈ (((1, Blk.bx (outY bF (rowsI a.next) r)) :: (2, Blk.ar 1 (a.ends.map bD)) :: famH bF (rowsI a.next)).map Prod.fst) ↔ q = 1 ∨ q = 2 ∨ (bF ≤ q ∧ q < bF + a.next.length) := fun q => by
    rw [List.map_cons, List.map_cons, List.mem_cons, List.mem_cons, famH_key, hrl]
  refine .lendM (gD O E b a.next.length) (c_markDfa a k r hn hk2) (by simp [dfAV, AV.ren, AV.renL, hg1, hg2]) (fun q hq => ?_) (fun q blk hq => ?_) ?_ (fun q q' h1 h2 e => ?_) ?_
  · rw [hkeys] at hq
    unfold gD
    rw [if_neg (by omega), if_neg (by omega), if_neg (by omega)]
  · rw [List.mem_cons, List.mem_cons] at hq
    rcases hq with hq | hq | hq
    · simp only [Prod.mk.injEq] at hq
      obtain ⟨rfl, rfl⟩ := hq
      refine ⟨by omega, ?_⟩
      rw [hg1, h.o]
      show _ = some (Blk.bx (AV.renL _ _))
      rw [outY_ren fun i hi => hgF i (by omega)]
    · simp only [Prod.mk.injEq] at hq
      obtain ⟨rfl, rfl⟩ := hq
      refine ⟨by omega, ?_⟩
      rw [hg2, h.e]; rfl
    · obtain ⟨i, w, rfl, hw, rfl⟩ := famH_mem hq
      have hi : i < a.next.length := by
        have := (List.getElem?_eq_some_iff.1 hw).1
        omega
      refine ⟨by unfold bF; omega, ?_⟩
      rw [hgF i hi, Nat.add_comm, h.f i w hw]; rfl
  · rw [List.map_cons, List.map_cons, List.nodup_cons, List.nodup_cons, List.mem_cons, famH_key, famH_key]
    exact ⟨by unfold bF; omega, by unfold bF; omega, famH_nodup _ _⟩
  · rw [hkeys] at h1 h2
    have hc : ∀ q, (q = 1 ∨ q = 2 ∨ (bF ≤ q ∧ q < bF + a.next.length)) → (q = 1 ∧ gD O E b a.next.length q = O) ∨ (q = 2 ∧ gD O E b a.next.length q = E) ∨ (bF ≤ q ∧ q < bF + a.next.length ∧ gD O E b a.next.length q = q - bF + b) := fun q hq => by
      rcases hq with rfl | rfl | hq
      · exact .inl ⟨rfl, hg1⟩
      · exact .inr (.inl ⟨rfl, hg2⟩)
      · have := hgF (q - bF) (by omega)
        rw [show bF + (q - bF) = q by omega] at this
        exact .inr (.inr ⟨hq.1, hq.2, by omega⟩)
    rcases hc q h1 with h3 | h3 | h3 <;> rcases hc q' h2 with h4 | h4 | h4 <;> omega
  rintro _ _ _ ⟨rfl, rfl⟩
  have hE : resE (gD O E b a.next.length) 100 (List.map Prod.fst ((1, Blk.bx (outY bF (rowsI a.next) r)) :: (2, Blk.ar 1 (a.ends.map bD)) :: famH bF (rowsI a.next))) (.bx (outY bF (rowsI a.next) r) :: .ar 1 ((markDf a k).ends.map bD) :: (rowsI (markDf a k).next).map (.ar 1)) [] = (O, .bx (outY b (rowsI a.next) r)) :: (E, .ar 1 ((markDf a k).ends.map bD)) :: famH b (rowsI (markDf a k).next) := by
    have hrn : ∀ q, (q < 100 ∨ bF ≤ q) → renOf (gD O E b a.next.length) 100 [] q = gD O E b a.next.length q := fun q hq => by unfold renOf; rw [if_pos (by unfold bF at hq; omega)]
    have hz : (famU bF (rowsI a.next).length).zip ((rowsI (markDf a k).next).map (Blk.ar 1)) = famH bF (rowsI (markDf a k).next) := zip_fam _ _ _ (by rw [hrl, markDf_rows])
    simp only [resE, List.append_nil, List.map_cons, famH_keys, List.zip_cons_cons, hz]
    rw [hrn 1 (by omega), hrn 2 (by omega), hg1, hg2]
    congr 1
    · show (O, Blk.bx (AV.renL _ (AV.kpL _ (outY bF (rowsI a.next) r)))) = _
      rw [outY_kp fun i hi => ?_, outY_ren fun i hi => ?_]
      · rw [hrn (bF + i) (by omega), hgF i (by omega)]
      · simp only [outE, List.map_nil, Bool.not_eq_false', List.contains_cons, famU_in]
        simp [hi]
    · congr 1
      refine map_famR _ _ fun i w hi => ?_
      rw [markDf_rows] at hi
      show (renOf _ 100 [] (bF + i), Blk.ar 1 w) = _
      rw [hrn (bF + i) (by omega), hgF i hi]
  rw [hE]
  exact hk
/-- What lies elsewhere behind a mark. -/
theorem setDf_off {j k : Nat} (h : j ≠ O ∧ j ≠ E ∧ (j < b ∨ b + a.next.length ≤ j)) {x : Blk} {y : Blk} : (setAll hp ((O, x) :: (E, y) :: famH b (rowsI (markDf a k).next))).heap j = hp.heap j := by
  have e : lookH (famH b (rowsI (markDf a k).next)) j = none := by
    rw [famH_look]
    by_cases hb : b ≤ j
    · rw [if_pos hb, List.getElem?_eq_none (by rw [markDf_rows]; omega)]; rfl
    · rw [if_neg hb]
  rw [setAll_heap, lookH, if_neg h.1, lookH, if_neg h.2.1, e]
theorem setDf_at {k : Nat} (hOE : O ≠ E ∧ O < b ∧ E < b) : DfAt (setAll hp ((O, .bx (outY b (rowsI a.next) r)) :: (E, .ar 1 ((markDf a k).ends.map bD)) :: famH b (rowsI (markDf a k).next))) O E b (markDf a k) r := by
  refine ⟨?_, ?_, fun i x hx => ?_⟩
  · rw [setAll_heap, lookH, if_pos rfl, outY_mark]
  · rw [setAll_heap, lookH, if_neg hOE.1.symm, lookH, if_pos rfl]
  · rw [setAll_heap, lookH, if_neg (by omega), lookH, if_neg (by omega), famH_ati hx]
end
theorem small_of_okDf {a : Df} (h : okDf a = true) : a.small := by
  obtain ⟨n1, n2, n3⟩ := okDf_len h
  refine ⟨by omega, fun x hx => ?_, by omega⟩
  obtain ⟨i, hi, rfl⟩ := List.mem_iff_getElem.1 hx
  have := (okDf_row h hi).1
  rw [← (getD_row (xs := a.next) (i := i) [] hi).2 hi] at this
  omega
theorem small_nil : (Df.mk [] []).small := ⟨by simp, by simp, by simp⟩
theorem Df.small.tot {a : Df} (h : a.small) : tot a.next ≤ 1099511627776 := by
  have a3 := tot_bound h.row
  have a4 : a.next.length * 1048576 ≤ 1048576 * 1048576 := Nat.mul_le_mul_right _ h.next
  omega
set_option maxRecDepth 100000 in
theorem c_markIntSS0 (k : Nat) : DCalls Try.prog 35 [.d (rowsD []), iA k] fun y => y = iD k := by
  refine dcalls_intro Ty.mixed Try.func35 rfl rfl rfl [] (by kernel_rfl) (by simp) ?_
  simp
  refine LoopVC.at Unit (fun _ => [(0, .d (rowsD [])), (1, iA k), (5, iA 0)]) (fun _ => []) [] (fun _ => 0) () (by simp) (by simp) ?_
  rintro ⟨⟩
  simp
set_option maxRecDepth 100000 in
theorem c_markBoolS0 (k : Nat) : DCalls Try.prog 36 [.d (bsD []), iA k] fun y => y = iD k := by
  refine dcalls_intro Ty.mixed Try.func36 rfl rfl rfl [] (by kernel_rfl) (by simp) ?_
  simp
  refine LoopVC.at Unit (fun _ => [(0, .d (bsD [])), (1, iA k), (5, iA 0)]) (fun _ => []) [] (fun _ => 0) () (by simp) (by simp) ?_
  rintro ⟨⟩
  simp
set_option maxRecDepth 100000 in
theorem c_markDfa0 (k : Nat) : DCalls Try.prog 11 [.d (Df.mk [] []).d, iA k] fun y => y = iD k := by
  refine dcalls_intro Ty.mixed Try.func11 rfl rfl rfl [2] (by kernel_rfl) (by simp) ?_
  simp [Df.d]
  refine .dval (c_markIntSS0 k) rfl (by simp) rfl ?_
  simp
  refine .dval (c_markBoolS0 k) rfl (by simp) rfl ?_
  simp
end Go.Fw
