/- One rewriter behind the other, as the reference finds it. -/
import Derived.Test.YteenfgdemklhcaaChn
set_option linter.unusedSimpArgs false
set_option linter.unusedVariables false
namespace Go.Fw
open Go Go.Proofs
set_option linter.unusedSectionVars false
set_option linter.unnecessarySimpa false

section
variable {S : Type} [DecidableEq S]
theorem meets_lenH (ss : List S) : ∀ L : List S, (meets L ss).length ≤ L.length + ss.length := by
  induction ss with
  | nil => intro L; exact Nat.le_refl _
  | cons s ss ih =>
    intro L
    have h1 : (meet L s).length ≤ L.length + 1 := by unfold meet; split <;> simp
    have := ih (meet L s)
    show (meets (meet L s) ss).length ≤ _
    simp; omega
/-- What has been written of a row that grows. -/
def rowH (nx : S → Int → S) (L : List S) (s : S) (c : Nat) : List Int := ((suc nx s).take c).map fun t => ((meets L ((suc nx s).take c)).idxOf t : Int)
theorem rowH_len {nx : S → Int → S} {L : List S} {s : S} {c : Nat} (hc : c ≤ 3) : (rowH nx L s c).length = c := by simp [rowH, suc]; omega
theorem rowH_succ {nx : S → Int → S} {L : List S} {s : S} {c : Nat} (hc : c < 3) : rowH nx L s (c + 1) = rowH nx L s c ++ [((meets L ((suc nx s).take (c + 1))).idxOf (nx s c) : Int)] := by
  have hp : meets L ((suc nx s).take c) <+: meets L ((suc nx s).take (c + 1)) := by rw [suc_take hc, meets_snoc]; exact meet_prefix _ _
  unfold rowH
  rw [suc_take hc, List.map_append]
  congr 1
  refine List.map_congr_left fun t ht => ?_
  rw [← suc_take hc, idxOf_prefix hp (mem_meets.2 (.inr ht))]
theorem rowH_done {nx : S → Int → S} {L : List S} {s : S} : rowH nx L s 3 = rowL nx (meets L (suc nx s)) s := by simp [rowH, rowL, suc]
end
abbrev pRc (p : Pr) : D := intsD [p.a, p.b]
structure FI where
  j : Nat
  at_ : Int
/-- Where a pair has been found so far. -/
def fndc (L : List Pr) (s : Pr) (j : Nat) : Int := if s ∈ L.take j then ((L.take j).idxOf s : Int) else -1
theorem fndc_succ {L : List Pr} (hn : L.Nodup) {s : Pr} {j : Nat} (hj : j < L.length) : fndc L s (j + 1) = if L[j] = s then (j : Int) else fndc L s j := by
  unfold fndc
  rw [take_snoc hj]
  have hnj : L[j] ∉ L.take j := fun h => by
    obtain ⟨i, hi, e⟩ := List.mem_iff_getElem.1 h
    simp at hi
    rw [List.getElem_take] at e
    have := (List.getElem_inj hn).1 e
    omega
  by_cases e : L[j] = s
  · subst e
    rw [if_pos (List.mem_append.2 (.inr (List.mem_singleton.2 rfl))), if_pos rfl, List.idxOf_append, if_neg hnj]
    simp; omega
  · rw [if_neg e]
    by_cases h : s ∈ L.take j
    · rw [if_pos (List.mem_append.2 (.inl h)), if_pos h, List.idxOf_append, if_pos h]
    · have : s ∉ L.take j ++ [L[j]] := fun h' => by
        rcases List.mem_append.1 h' with h' | h'
        · exact h h'
        · exact e (List.mem_singleton.1 h').symm
      rw [if_neg this, if_neg h]

theorem part_fine {a b : Rw} (ha : okRw a = true) (hb : okRw b = true) (nx : Pr → Int → Pr) (L : List Pr) {M : List Pr} (hok : ∀ s ∈ M, okPr a b s) (hl : M.length ≤ 1000) : (Rw.mk (M.map (rowL nx L)) (M.map (outC a b)) (M.map (finC a b))).fine := by
  refine ⟨fun xs hx => ?_, fun x hx => ?_, fun x hx => ?_, by simp; omega⟩
  · simp only [List.mem_map] at hx
    obtain ⟨s, hs, rfl⟩ := hx
    have := (pair_lens ha hb (hok s hs)).1
    refine ⟨by simp [outC], fun x hx => ?_⟩
    simp only [outC, List.mem_cons, List.not_mem_nil, or_false] at hx
    have h0 := this 0 (by omega)
    have h1 := this 1 (by omega)
    have h2 := this 2 (by omega)
    rcases hx with rfl | rfl | rfl <;> omega
  · simp only [List.mem_map] at hx
    obtain ⟨s, hs, rfl⟩ := hx
    have := (pair_lens ha hb (hok s hs)).2
    omega
  · simp only [List.mem_map] at hx
    obtain ⟨s, hs, rfl⟩ := hx
    simp [rowL, suc]
set_option maxRecDepth 100000 in
theorem c_sChainRewriters (a b : Rw) (hfa : a.fine) (hfb : b.fine) : TCalls Try.prog 14 [.d a.d, .d b.d] (ChainR a b) := by
  refine tcalls_intro Ty.mixed Try.func14 rfl rfl rfl [2, 3] (by kernel_rfl) (by simp) ?_
  simp [Rw.d]
  refine .dval (c_sRewriterValid a hfa) rfl (by simp [Rw.d]) rfl ?_
  simp
  refine .flat (fun _ => c_sRewriterValid b hfb) rfl (by simp [Rw.d]) rfl (by simp) ?_
  simp
  refine ⟨fun hno => chainR_no (.inl ⟨?_, rfl, rfl⟩), fun ha hb => ?_⟩
  · rintro ⟨h1, h2⟩
    rcases hno with h | h
    · rw [h1] at h; cases h
    · rw [h2] at h; cases h
  refine ⟨rfl, ?_⟩
  refine LoopVC.wk (Wk.adoptBx 700 0 901 1 (cs := [.nl, .nl, .nl]) (by simp) rfl (by simp)) ?_
  refine LoopVC.wk (Wk.adoptBx 700 1 902 1 (cs := [.sl 1 901 0 0, .nl, .nl]) (by simp) rfl (by simp)) ?_
  refine LoopVC.wk (Wk.adoptBx 700 2 903 1 (cs := [.sl 1 901 0 0, .sl 1 902 0 0, .nl]) (by simp) rfl (by simp)) ?_
  have hmet := met_okPr ha hb
  have hnxd : ∀ s c, nxC a b s c = ⟨a.n s.a c, (runRw b s.b (a.o s.a c)).1⟩ := fun _ _ => rfl
  have hstepOk := fun s c => okPr_step (s := s) (c := c) ha hb
  have hA : ∀ k, (metK (nxC a b) ⟨0, 0⟩ k).length ≤ k → (metK (nxC a b) ⟨0, 0⟩ k).length ≤ 12 → okRw (chainRw a b (metK (nxC a b) ⟨0, 0⟩ k)) = true → ChainIs a b (chainRw a b (metK (nxC a b) ⟨0, 0⟩ k)) true := fun k e1 e2 h => .inr ⟨⟨ha, hb⟩, .inl ⟨k, e1, e2, .inl ⟨h, rfl, rfl⟩⟩⟩
  have hB : ∀ k, (metK (nxC a b) ⟨0, 0⟩ k).length ≤ k → (metK (nxC a b) ⟨0, 0⟩ k).length ≤ 12 → okRw (chainRw a b (metK (nxC a b) ⟨0, 0⟩ k)) = false → ChainIs a b zeroRw false := fun k e1 e2 h => .inr ⟨⟨ha, hb⟩, .inl ⟨k, e1, e2, .inr ⟨h, rfl, rfl⟩⟩⟩
  have hC : ∀ k, 12 < (metK (nxC a b) ⟨0, 0⟩ k).length → ChainIs a b zeroRw false := fun k e => .inr ⟨⟨ha, hb⟩, .inr ⟨k, e, rfl, rfl⟩⟩
  generalize hnx : nxC a b = nx at hmet hnxd hstepOk hA hB hC
  refine LoopVC.at { k : Nat // k ≤ (metK nx ⟨0, 0⟩ k).length ∧ (metK nx ⟨0, 0⟩ k).length ≤ 15 } (fun k => [(2, rwP a), (3, rwP b), (4, .ptr 400 0), (6, .sl 1 2900 0 (metK nx ⟨0, 0⟩ k.1).length), (7, .ptr 700 0), (8, iA k.1)])
    (fun k => [(400, .bx [.nl, .nl, .nl]), (700, .bx [.sl 1 901 0 k.1, .sl 1 902 0 k.1, .sl 1 903 0 k.1]), (901, .ar 1 (((metK nx ⟨0, 0⟩ k.1).take k.1).map fun s => intsD (rowL nx (metK nx ⟨0, 0⟩ k.1) s))), (902, .ar 1 (((metK nx ⟨0, 0⟩ k.1).take k.1).map fun s => ssD (outC a b s))), (903, .ar 1 (((metK nx ⟨0, 0⟩ k.1).take k.1).map fun s => sD (finC a b s))), (2900, .ar 1 ((metK nx ⟨0, 0⟩ k.1).map pRc))]) [400, 700, 901, 902, 903, 2900] (fun k => 13 - k.1) ⟨0, by simp [metK]⟩ (by simp [metK]) (by simp [metK]) ?_
  rintro ⟨k, hk1, hk2⟩
  have hstep : ∀ s, (metK nx ⟨0, 0⟩ k)[k]? = some s → metK nx ⟨0, 0⟩ (k + 1) = meets (metK nx ⟨0, 0⟩ k) (suc nx s) := fun s hs => by simp only [metK, hs]
  have hmem := hmet k
  have hnd := metK_nodup (nx := nx) (s0 := (⟨0, 0⟩ : Pr)) k
  by_cases hc : k < (metK nx ⟨0, 0⟩ k).length ∧ (metK nx ⟨0, 0⟩ k).length ≤ 12
  · obtain ⟨hkl, hlm⟩ := hc
    obtain ⟨s, hsk⟩ : ∃ s, (metK nx ⟨0, 0⟩ k)[k]? = some s := ⟨_, List.getElem?_eq_getElem hkl⟩
    have hms := hstep s hsk
    have hps := hmem s (List.mem_of_getElem? hsk)
    simp [show (k : Int) < (metK nx ⟨0, 0⟩ k).length by omega, show ((metK nx ⟨0, 0⟩ k).length : Int) ≤ 12 by omega]
    refine LoopVC.at { c : Nat // c ≤ 3 } (fun c => [(2, rwP a), (3, rwP b), (4, .ptr 400 0), (6, .sl 1 2900 0 (meets (metK nx ⟨0, 0⟩ k) ((suc nx s).take c.1)).length), (7, .ptr 700 0), (8, iA k), (9, .sl 1 4200 0 c.1), (10, .sl 1 4300 0 c.1), (11, iA c.1)])
      (fun c => [(400, .bx [.nl, .nl, .nl]), (700, .bx [.sl 1 901 0 k, .sl 1 902 0 k, .sl 1 903 0 k]), (901, .ar 1 (((metK nx ⟨0, 0⟩ k).take k).map fun s => intsD (rowL nx (metK nx ⟨0, 0⟩ k) s))), (902, .ar 1 (((metK nx ⟨0, 0⟩ k).take k).map fun s => ssD (outC a b s))), (903, .ar 1 (((metK nx ⟨0, 0⟩ k).take k).map fun s => sD (finC a b s))), (2900, .ar 1 ((meets (metK nx ⟨0, 0⟩ k) ((suc nx s).take c.1)).map pRc)), (4200, .ar 1 ((rowH nx (metK nx ⟨0, 0⟩ k) s c.1).map iD)), (4300, .ar 1 (((outC a b s).take c.1).map sD))]) [400, 700, 901, 902, 903, 2900, 4200, 4300] (fun c => 3 - c.1) ⟨0, by simp⟩ (by simp [meets]) (by simp [meets, rowH]) ?_
    rintro ⟨c, hc⟩
    obtain ⟨⟨s1, s2⟩, s3, s4⟩ := hps
    obtain ⟨n1, n2, n3, n4⟩ := okRw_len ha
    obtain ⟨m1, m2, m3, m4⟩ := okRw_len hb
    have hk : s.a.toNat < a.next.length := by omega
    obtain ⟨g1, g2, g3, g4, g5⟩ := okRw_row ha hk
    have hpc : metK nx ⟨0, 0⟩ k <+: meets (metK nx ⟨0, 0⟩ k) ((suc nx s).take c) := meets_prefix _ _
    have hskc : (meets (metK nx ⟨0, 0⟩ k) ((suc nx s).take c))[k]? = some s := by
      obtain ⟨r, hr⟩ := hpc
      rw [← hr, List.getElem?_append_left hkl]; exact hsk
    obtain ⟨hkM, hskM⟩ := List.getElem?_eq_some_iff.1 hskc
    have hml := meets_lenH ((suc nx s).take c) (metK nx ⟨0, 0⟩ k)
    have htl : ((suc nx s).take c).length = c := by simp [suc]; omega
    have hndM : (meets (metK nx ⟨0, 0⟩ k) ((suc nx s).take c)).Nodup := nodup_meets _ hnd
    have hrg := rowH_len (nx := nx) (L := metK nx ⟨0, 0⟩ k) (s := s) hc
    have hotl : ((outC a b s).take c).length = c := by simp [outC]; omega
    rcases Nat.lt_or_ge c 3 with hc3 | hc3
    · have hsn : meets (metK nx ⟨0, 0⟩ k) ((suc nx s).take (c + 1)) = meet (meets (metK nx ⟨0, 0⟩ k) ((suc nx s).take c)) (nx s c) := by rw [suc_take hc3, meets_snoc]
      have hrs := rowH_succ (nx := nx) (L := metK nx ⟨0, 0⟩ k) (s := s) hc3
      have hol := isOut_l (okRw_o ha (q := s.a) ⟨s1, s2⟩ (c := c) (by omega))
      have hrun := c_l21Run b s.b (a.o s.a c) hb ⟨s3, s4⟩ hol.1 (by omega)
      have hlen := (runRw_letters hb (q := s.b) ⟨s3, s4⟩ hol.1).2.2
      have hot := outC_take a b s hc3
      have a1 := getD_row (xs := a.next) (i := s.a.toNat) [] hk
      have a2 := getD_row (xs := a.out) (i := s.a.toNat) [] (by omega)
      have a3 := getD_row (xs := a.next.getD s.a.toNat []) (i := c) 0 (by omega)
      have a4 := getD_row (xs := a.out.getD s.a.toNat []) (i := c) [] (by omega)
      have ho : a.o s.a c = (a.out.getD s.a.toNat []).getD c [] := rfl
      have hn : a.n s.a c = (a.next.getD s.a.toNat []).getD c 0 := rfl
      have hxe := hnxd s c
      rw [← hn] at a3
      rw [← ho] at a4
      rw [hsn] at hrs
      generalize a.o s.a c = ov at *
      generalize a.n s.a c = nv at *
      generalize a.next.getD s.a.toNat [] = nr at *
      generalize a.out.getD s.a.toNat [] = ox at *
      have l3 : (c : Int) < 3 := by omega
      simp [l3]
      refine .one (sch [.pur 0, .pur 1, .pur 2, .pur 3, .pur 4, .pur 5, .pur 6, .pur 7, .pur 8, .pur 9, .pur 10, .pur 11, .pur 12, .pur 13, .pur 14, .pur 15, .pur 16, .pur 17, .pur 18, .pur 19, .eff 20 [], .pur 21, .pur 22, .pur 23, .pur 24, .pur 25]) (by kernel_rfl) ?_
      simp [hkM, hskM, s1, s2, n3, a2, a4, g2, hc3, l3]
      refine .tdat hrun rfl (by simp [Rw.d]) ?_
      rintro _ rfl
      simp
      refine .one (sch [.pur 0, .pur 1, .pur 2, .pur 3, .pur 4, .pur 5, .pur 6, .pur 7, .pur 8, .pur 9, .pur 10, .pur 11, .pur 12, .pur 13]) (by kernel_rfl) ?_
      simp [hkM, hskM, s1, s2, a1, a3, g1, hc3, l3]
      generalize runRw b s.b ov = rr at *
      obtain ⟨ry, rt⟩ := rr
      simp only at hxe hlen hot
      refine LoopVC.at { j : Nat // j ≤ (meets (metK nx ⟨0, 0⟩ k) ((suc nx s).take c)).length } (fun j => [(2, rwP a), (3, rwP b), (4, .ptr 400 0), (6, .sl 1 2900 0 (meets (metK nx ⟨0, 0⟩ k) ((suc nx s).take c)).length), (7, .ptr 700 0), (8, iA k), (9, .sl 1 4200 0 c), (10, .sl 1 4300 0 c), (11, iA c), (12, iA ry), (13, sA rt), (14, iA nv), (15, iA (fndc (meets (metK nx ⟨0, 0⟩ k) ((suc nx s).take c)) (nx s c) j.1)), (16, iA j.1)])
        (fun j => [(400, .bx [.nl, .nl, .nl]), (700, .bx [.sl 1 901 0 k, .sl 1 902 0 k, .sl 1 903 0 k]), (901, .ar 1 (((metK nx ⟨0, 0⟩ k).take k).map fun s => intsD (rowL nx (metK nx ⟨0, 0⟩ k) s))), (902, .ar 1 (((metK nx ⟨0, 0⟩ k).take k).map fun s => ssD (outC a b s))), (903, .ar 1 (((metK nx ⟨0, 0⟩ k).take k).map fun s => sD (finC a b s))), (2900, .ar 1 ((meets (metK nx ⟨0, 0⟩ k) ((suc nx s).take c)).map pRc)), (4200, .ar 1 ((rowH nx (metK nx ⟨0, 0⟩ k) s c).map iD)), (4300, .ar 1 (((outC a b s).take c).map sD))]) [400, 700, 901, 902, 903, 2900, 4200, 4300] (fun j => (meets (metK nx ⟨0, 0⟩ k) ((suc nx s).take c)).length - j.1) ⟨0, by simp⟩ (by simp [fndc]) (by simp) ?_
      rintro ⟨j, hj⟩
      rcases Nat.lt_or_ge j (meets (metK nx ⟨0, 0⟩ k) ((suc nx s).take c)).length with hjM | hjM
      · have hfs := fndc_succ hndM (s := nx s c) hjM
        have hje : (meets (metK nx ⟨0, 0⟩ k) ((suc nx s).take c))[j]? = some (meets (metK nx ⟨0, 0⟩ k) ((suc nx s).take c))[j] := List.getElem?_eq_getElem hjM
        have hcmp : (meets (metK nx ⟨0, 0⟩ k) ((suc nx s).take c))[j] = nx s c ↔ ((meets (metK nx ⟨0, 0⟩ k) ((suc nx s).take c))[j].a = nv ∧ (meets (metK nx ⟨0, 0⟩ k) ((suc nx s).take c))[j].b = ry) := by
          rw [hxe]
          constructor
          · intro e; rw [e]; exact ⟨rfl, rfl⟩
          · rintro ⟨e1, e2⟩; cases hq : (meets (metK nx ⟨0, 0⟩ k) ((suc nx s).take c))[j]; rw [hq] at e1 e2; simp at e1 e2; rw [e1, e2]
        have hj18 : j ≤ 18 := by omega
        simp [hjM]
        refine ⟨fun e1 e2 => ?_, fun hno => ?_⟩
        · rw [if_pos (hcmp.2 ⟨e1, e2⟩)] at hfs
          refine ⟨j + 1, .mk (by simp [hfs]; exact wrap64 (by omega) (by omega)) (by simp), hjM, by omega⟩
        · rw [if_neg (fun h => hno (hcmp.1 h).1 (hcmp.1 h).2)] at hfs
          refine ⟨j + 1, .mk (by simp [hfs]; exact wrap64 (by omega) (by omega)) (by simp), hjM, by omega⟩
      · have hjM' : j = (meets (metK nx ⟨0, 0⟩ k) ((suc nx s).take c)).length := by omega
        subst hjM'
        have hfe : fndc (meets (metK nx ⟨0, 0⟩ k) ((suc nx s).take c)) (nx s c) (meets (metK nx ⟨0, 0⟩ k) ((suc nx s).take c)).length = if nx s c ∈ (meets (metK nx ⟨0, 0⟩ k) ((suc nx s).take c)) then ((meets (metK nx ⟨0, 0⟩ k) ((suc nx s).take c)).idxOf (nx s c) : Int) else -1 := by
          unfold fndc; rw [List.take_length]
        have hotD : ((outC a b s).map sD).take (c + 1) = ((outC a b s).map sD).take c ++ [sD rt] := by
          rw [← List.map_take, hot]; simp
        by_cases hin : nx s c ∈ (meets (metK nx ⟨0, 0⟩ k) ((suc nx s).take c))
        · have hmt : meet (meets (metK nx ⟨0, 0⟩ k) ((suc nx s).take c)) (nx s c) = (meets (metK nx ⟨0, 0⟩ k) ((suc nx s).take c)) := by unfold meet; rw [if_pos hin]
          rw [hmt] at hrs hsn
          rw [hfe, if_pos hin]
          simp [hrg, show ¬ (((meets (metK nx ⟨0, 0⟩ k) ((suc nx s).take c)).idxOf (nx s c) : Int) < 0) by omega]
          have hol3 : (outC a b s).length = 3 := rfl
          refine ⟨⟨by omega, by omega⟩, ⟨by omega, by omega, by omega⟩, c + 1, .mk ?_ ?_, hc3, by omega⟩
          · simp [hsn]; exact wrap64 (by omega) (by omega)
          · simp [hsn, hrs, hotD]
        · have hmt : meet (meets (metK nx ⟨0, 0⟩ k) ((suc nx s).take c)) (nx s c) = (meets (metK nx ⟨0, 0⟩ k) ((suc nx s).take c)) ++ [nx s c] := by unfold meet; rw [if_neg hin]
          rw [hmt] at hrs hsn
          have hix : ((meets (metK nx ⟨0, 0⟩ k) ((suc nx s).take c)) ++ [nx s c]).idxOf (nx s c) = (meets (metK nx ⟨0, 0⟩ k) ((suc nx s).take c)).length := by rw [List.idxOf_append, if_neg hin]; simp
          rw [hix] at hrs
          rw [hfe, if_neg hin]
          simp [hrg]
          have hol3 : (outC a b s).length = 3 := rfl
          refine ⟨rfl, ⟨by omega, by omega⟩, ⟨by omega, by omega⟩, ⟨by omega, by omega, by omega⟩, c + 1, .mk ?_ ?_, hc3, by omega⟩
          · simp [hsn]; exact wrap64 (by omega) (by omega)
          · simp [hsn, hrs, hotD, hxe]
    · have : c = 3 := by omega
      subst this
      have ht3 : (suc nx s).take 3 = suc nx s := by simp [suc]
      obtain ⟨hn1, hn2⟩ := metK_next hsk
      have hrd : rowH nx (metK nx ⟨0, 0⟩ k) s 3 = rowL nx (metK nx ⟨0, 0⟩ (k + 1)) s := by rw [rowH_done, hms]
      have hsl : (suc nx s).length = 3 := by simp [suc]
      have hol := isOut_l (okRw_f ha (q := s.a) ⟨s1, s2⟩)
      have hrun := c_l21Run b s.b (a.f s.a) hb ⟨s3, s4⟩ hol.1 (by omega)
      have hlet := runRw_letters hb (q := s.b) ⟨s3, s4⟩ hol.1
      have a5 := getD_row (xs := a.fin) (i := s.a.toNat) [] (by omega)
      have hf : a.f s.a = a.fin.getD s.a.toNat [] := rfl
      rw [← hf] at a5
      have hfc : finC a b s = (runRw b s.b (a.f s.a)).2 ++ b.f (runRw b s.b (a.f s.a)).1 := rfl
      have hb5 := isOut_l (okRw_f hb hlet.1)
      generalize a.f s.a = fv at *
      generalize runRw b s.b fv = rr at *
      obtain ⟨r1, r2⟩ := rr
      simp only at hlet hfc hb5
      obtain ⟨⟨t1, t2⟩, t3, t4⟩ := hlet
      have b5 := getD_row (xs := b.fin) (i := r1.toNat) [] (by omega)
      have hbf : b.f r1 = b.fin.getD r1.toNat [] := rfl
      rw [← hbf] at b5
      generalize b.f r1 = bv at *
      have hol3 : (outC a b s).length = 3 := rfl
      rw [ht3] at hskc
      obtain ⟨hkM', hskM'⟩ := List.getElem?_eq_some_iff.1 hskc
      simp [ht3]
      refine .one (sch [.pur 0, .pur 1, .pur 2, .pur 3, .pur 4, .pur 5, .pur 6, .pur 7, .pur 8, .pur 9, .pur 10, .pur 11, .pur 12, .pur 13, .pur 14, .pur 15, .pur 16, .eff 17 [], .pur 18, .pur 19, .pur 20, .pur 21, .pur 22]) (by kernel_rfl) ?_
      simp [hkM', hskM', s1, s2, n4, a5]
      refine .tdat hrun rfl (by simp [Rw.d]) ?_
      rintro _ rfl
      simp [hol3, hrg]
      refine ⟨by omega, ?_⟩
      refine .one (sch [.pur 0, .pur 1, .pur 2, .pur 3, .pur 4, .pur 5, .pur 6, .pur 7, .pur 8, .eff 9 [0, 1], .eff 10 [], .pur 11, .eff 12 []]) (by kernel_rfl) ?_
      simp [t1, t2, m4, b5]
      have hml3 := meets_lenH (suc nx s) (metK nx ⟨0, 0⟩ k)
      refine ⟨by omega, ⟨by omega, by omega, by omega⟩, k + 1, .mk ?_ ?_, ⟨?_, ?_⟩, ?_⟩
      · simp [hms]; exact wrap64 (by omega) (by omega)
      · have hn2D : ((metK nx ⟨0, 0⟩ k).take k).map (fun s => intsD (rowL nx (metK nx ⟨0, 0⟩ k) s)) ++ [intsD (rowL nx (metK nx ⟨0, 0⟩ (k + 1)) s)] = ((metK nx ⟨0, 0⟩ (k + 1)).take (k + 1)).map fun s => intsD (rowL nx (metK nx ⟨0, 0⟩ (k + 1)) s) := by
          have := congrArg (List.map intsD) hn2
          simpa [Function.comp_def] using this
        have hn1D : ∀ (f : Pr → D), ((metK nx ⟨0, 0⟩ k).take k).map f ++ [f s] = ((metK nx ⟨0, 0⟩ (k + 1)).take (k + 1)).map f := fun f => by rw [hn1]; simp
        have htr : List.take 3 ((rowH nx (metK nx ⟨0, 0⟩ k) s 3).map iD) = (rowL nx (metK nx ⟨0, 0⟩ (k + 1)) s).map iD := by
          rw [List.take_of_length_le (by rw [List.length_map, hrg]; exact Nat.le_refl _), hrd]
        have hto : List.take 3 (List.take 3 ((outC a b s).map sD)) = (outC a b s).map sD := rfl
        have hn1a := hn1D fun s => ssD (outC a b s)
        have hn1b := hn1D fun s => sD (finC a b s)
        simp only [List.map_take] at hn2D hn1a hn1b
        rw [hms] at hn2D hn1a hn1b htr
        rw [hfc] at hn1b
        simp [htr, hn2D, hn1a, hn1b, hto, hms]
      · have := (meets_prefix (suc nx s) (metK nx ⟨0, 0⟩ k)).length_le
        have h3 := congrArg List.length hn1
        rw [List.length_take, List.length_append, List.length_take] at h3
        simp at h3
        omega
      · rw [hms]; omega
      · omega
  · have hfp := part_fine ha hb nx (metK nx ⟨0, 0⟩ k) (M := (metK nx ⟨0, 0⟩ k).take k) (fun s hs => hmem s (List.mem_of_mem_take hs)) (by simp; omega)
    rcases Nat.lt_or_ge 12 (metK nx ⟨0, 0⟩ k).length with h12 | h12
    · rcases Nat.lt_or_ge k (metK nx ⟨0, 0⟩ k).length with h5 | h5
      · simp [show (k : Int) < (metK nx ⟨0, 0⟩ k).length by omega, show ¬ ((metK nx ⟨0, 0⟩ k).length : Int) ≤ 12 by omega, show (12 : Int) < (metK nx ⟨0, 0⟩ k).length by omega]
        refine .flatE (fun _ => c_sRewriterValid _ hfp) rfl (by simp [Rw.d, Function.comp_def, List.take_take]) (by simp) rfl (by simp) ?_
        simp
        exact chainR_no (hC k h12)
      · simp [show ¬ (k : Int) < (metK nx ⟨0, 0⟩ k).length by omega, show (12 : Int) < (metK nx ⟨0, 0⟩ k).length by omega]
        refine .flatE (fun _ => c_sRewriterValid _ hfp) rfl (by simp [Rw.d, Function.comp_def, List.take_take]) (by simp) rfl (by simp) ?_
        simp
        exact chainR_no (hC k h12)
    · have h5 : (metK nx ⟨0, 0⟩ k).length ≤ k := by omega
      have hkl : k = (metK nx ⟨0, 0⟩ k).length := by omega
      have htk : (metK nx ⟨0, 0⟩ k).take k = metK nx ⟨0, 0⟩ k := List.take_of_length_le h5
      have hch : (Rw.mk ((metK nx ⟨0, 0⟩ k).map (rowL nx (metK nx ⟨0, 0⟩ k))) ((metK nx ⟨0, 0⟩ k).map (outC a b)) ((metK nx ⟨0, 0⟩ k).map (finC a b))) = chainRw a b (metK nx ⟨0, 0⟩ k) := by rw [← hnx]; rfl
      rw [htk, hch] at hfp
      have htt : ∀ {β : Type} (f : Pr → β), List.take k (List.take k (List.map f (metK nx ⟨0, 0⟩ k))) = (metK nx ⟨0, 0⟩ k).map f := fun f => by
        rw [List.take_take, Nat.min_self, ← List.map_take, htk]
      have hres : D.agg [D.list ((metK nx ⟨0, 0⟩ k).map fun s => intsD (rowL nx (metK nx ⟨0, 0⟩ k) s)), D.list ((metK nx ⟨0, 0⟩ k).map fun s => ssD (outC a b s)), D.list ((metK nx ⟨0, 0⟩ k).map fun s => sD (finC a b s))] = (chainRw a b (metK nx ⟨0, 0⟩ k)).d := by
        rw [← hch]; simp [Rw.d, Function.comp_def]
      simp [show ¬ (k : Int) < (metK nx ⟨0, 0⟩ k).length by omega, show ¬ (12 : Int) < (metK nx ⟨0, 0⟩ k).length by omega]
      refine .flatE (fun _ => c_sRewriterValid _ hfp) rfl (by simp only [List.drop_zero, htt]; rw [hres]) (by simp; omega) rfl (by simp) ?_
      rcases Bool.eq_false_or_eq_true (okRw (chainRw a b (metK nx ⟨0, 0⟩ k))) with hv | hv
      · simp [hv]
        refine ⟨by omega, _, true, ?_, hA k h5 (by omega) hv⟩
        simp only [htt]; rw [hres]
      · simp [hv]
        exact chainR_no (hB k h5 (by omega) hv)
end Go.Fw
