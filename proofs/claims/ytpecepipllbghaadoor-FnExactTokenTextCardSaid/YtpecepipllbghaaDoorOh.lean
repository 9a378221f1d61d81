/- Two automata side by side, as the reference runs them. -/
import Derived.Test.YtpecepipllbghaaDoorOg
set_option linter.unusedSimpArgs false
set_option linter.unusedVariables false
namespace Go.Fw
open Go Go.Proofs
set_option linter.unusedSectionVars false
set_option linter.unnecessarySimpa false

abbrev pR (p : Pr) : D := intsD [p.a, p.b]
/-- Where a pair has been found so far. -/
def fnd (L : List Pr) (s : Pr) (j : Nat) : Int := if s ∈ L.take j then ((L.take j).idxOf s : Int) else -1
theorem fnd_succ {L : List Pr} (hn : L.Nodup) {s : Pr} {j : Nat} (hj : j < L.length) : fnd L s (j + 1) = if L[j] = s then (j : Int) else fnd L s j := by
  unfold fnd
  rw [take_snoc hj]
  have hnj : L[j] ∉ L.take j := fun h => by
    obtain ⟨i, hi, e⟩ := List.mem_iff_getElem.1 h
    simp at hi
    rw [List.getElem_take] at e
    have := (List.getElem_inj hn).1 e
    omega
  by_cases e : L[j] = s
  · subst e
    rw [if_pos (List.mem_append.2 (.inr (List.mem_singleton.2 rfl))), if_pos rfl, List.idxOf_append, if_neg hnj]
    simp; omega
  · rw [if_neg e]
    by_cases h : s ∈ L.take j
    · rw [if_pos (List.mem_append.2 (.inl h)), if_pos h, List.idxOf_append, if_pos h]
    · have : s ∉ L.take j ++ [L[j]] := fun h' => by
        rcases List.mem_append.1 h' with h' | h'
        · exact h h'
        · exact e (List.mem_singleton.1 h').symm
      rw [if_neg this, if_neg h]

def nxP (a b : Df) (s : Pr) (c : Int) : Pr := ⟨a.go s.a c, b.go s.b c⟩
/-- May words end? Both, one, the first alone, exactly one. -/
def modeB (m : Int) (x y : Bool) : Bool := decide (m = 0) && x && y || decide (m = 1) && (x || y) || decide (m = 2) && x && !y || decide (m = 3) && (x != y)
def finM (a b : Df) (m : Int) (s : Pr) : Bool := modeB m (a.fin s.a) (b.fin s.b)
def okP (a b : Df) (s : Pr) : Prop := a.st s.a ∧ b.st s.b
theorem okP_step {a b : Df} (ha : okDf a = true) (hb : okDf b = true) {s : Pr} {c : Int} (h : okP a b s) (hc : 0 ≤ c ∧ c < 3) : okP a b (nxP a b s c) := ⟨go_st ha h.1 hc, go_st hb h.2 hc⟩
theorem met_okP {a b : Df} (ha : okDf a = true) (hb : okDf b = true) (k : Nat) : ∀ s ∈ metK (nxP a b) ⟨0, 0⟩ k, okP a b s :=
  metK_ind (p := okP a b) ⟨st0 ha, st0 hb⟩ (fun _ h => ⟨okP_step ha hb h (by omega), okP_step ha hb h (by omega), okP_step ha hb h (by omega)⟩) k

def PairR (a b : Df) (m : Int) (r : List D) : Prop := ∃ (x : Df) (ok : Bool), r = [x.d, .bool ok] ∧
  (ok = true → ∃ k, (metK (nxP a b) ⟨0, 0⟩ k).length ≤ k ∧ (metK (nxP a b) ⟨0, 0⟩ k).length ≤ 40 ∧ x = autoL (nxP a b) (finM a b m) (metK (nxP a b) ⟨0, 0⟩ k)) ∧
  (ok = false → ∃ k, 40 < (metK (nxP a b) ⟨0, 0⟩ k).length)
theorem PairR.ok {a b : Df} {m : Int} {r : List D} (h : PairR a b m r) : ∃ (x : Df) (ok : Bool), r = [x.d, .bool ok] ∧ (ok = true → okDf x = true) := by
  obtain ⟨x, ok, e, h1, _⟩ := h
  refine ⟨x, ok, e, fun ho => ?_⟩
  obtain ⟨k, k1, k2, rfl⟩ := h1 ho
  exact autoL_ok _ (metK_whole k1) k2

set_option maxRecDepth 100000 in
set_option maxHeartbeats 800000 in
theorem c_l11Pair (a b : Df) (m : Int) (ha : okDf a = true) (hb : okDf b = true) (hm : m = 0 ∨ m = 1 ∨ m = 2 ∨ m = 3) : TCalls Tryd.prog 81 [.d a.d, .d b.d, iA m] (PairR a b m) := by
  refine tcalls_intro Ty.mixed Tryd.func81 rfl rfl rfl [3, 4] (by kernel_rfl) (by simp) ?_
  obtain ⟨n1, n2, n3⟩ := okDf_len ha
  obtain ⟨m1, m2, m3⟩ := okDf_len hb
  simp [Df.d]
  refine ⟨rfl, ?_⟩
  refine LoopVC.wk (Wk.adoptBx 900 0 901 1 (cs := [.nl, .nl]) (by simp) rfl (by simp)) ?_
  refine LoopVC.wk (Wk.adoptBx 900 1 902 1 (cs := [.sl 1 901 0 0, .nl]) (by simp) rfl (by simp)) ?_
  have hmet := met_okP ha hb
  have hnxd : ∀ s c, nxP a b s c = ⟨a.go s.a c, b.go s.b c⟩ := fun _ _ => rfl
  have hA : ∀ k, (metK (nxP a b) ⟨0, 0⟩ k).length ≤ k → (metK (nxP a b) ⟨0, 0⟩ k).length ≤ 40 → PairR a b m [(autoL (nxP a b) (finM a b m) (metK (nxP a b) ⟨0, 0⟩ k)).d, .bool true] := fun k e1 e2 => ⟨_, true, rfl, fun _ => ⟨k, e1, e2, rfl⟩, by simp⟩
  have hB : ∀ (x : Df) k, 40 < (metK (nxP a b) ⟨0, 0⟩ k).length → PairR a b m [x.d, .bool false] := fun x k e => ⟨x, false, rfl, by simp, fun _ => ⟨k, e⟩⟩
  generalize hnx : nxP a b = nx at hmet hnxd hA hB
  generalize hfn : finM a b m = fn at hA
  refine LoopVC.at { k : Nat // k ≤ (metK nx ⟨0, 0⟩ k).length ∧ (metK nx ⟨0, 0⟩ k).length ≤ 43 } (fun k => [(2, iA m), (3, .dp [.d (rowsD a.next), .d (bsD a.ends)]), (4, .dp [.d (rowsD b.next), .d (bsD b.ends)]), (6, .ptr 600 0), (8, .sl 1 2000 0 (metK nx ⟨0, 0⟩ k.1).length), (9, .ptr 900 0), (10, iA k.1)])
    (fun k => [(600, .bx [.nl, .nl]), (900, .bx [.sl 1 901 0 k.1, .sl 1 902 0 k.1]), (901, .ar 1 (((metK nx ⟨0, 0⟩ k.1).take k.1).map fun s => intsD (rowL nx (metK nx ⟨0, 0⟩ k.1) s))), (902, .ar 1 (((metK nx ⟨0, 0⟩ k.1).take k.1).map fun s => bD (fn s))), (2000, .ar 1 ((metK nx ⟨0, 0⟩ k.1).map pR))]) [600, 900, 901, 902, 2000] (fun k => 44 - k.1) ⟨0, by simp [metK]⟩ (by simp [metK]) (by simp [metK]) ?_
  rintro ⟨k, hk1, hk2⟩
  have hstep : ∀ s, (metK nx ⟨0, 0⟩ k)[k]? = some s → metK nx ⟨0, 0⟩ (k + 1) = meets (metK nx ⟨0, 0⟩ k) (suc nx s) := fun s hs => by simp only [metK, hs]
  have hmem := hmet k
  have hnd := metK_nodup (nx := nx) (s0 := (⟨0, 0⟩ : Pr)) k
  rcases Nat.lt_or_ge k (metK nx ⟨0, 0⟩ k).length with hkl | hkl
  · simp [show (k : Int) < (metK nx ⟨0, 0⟩ k).length by omega]
    refine ⟨fun hbig => hB ⟨[], []⟩ k (by omega), fun hlm => ?_⟩
    obtain ⟨s, hsk⟩ : ∃ s, (metK nx ⟨0, 0⟩ k)[k]? = some s := ⟨_, List.getElem?_eq_getElem hkl⟩
    have hms := hstep s hsk
    have hps := hmem s (List.mem_of_getElem? hsk)
    refine LoopVC.at { c : Nat // c ≤ 3 } (fun c => [(2, iA m), (3, .dp [.d (rowsD a.next), .d (bsD a.ends)]), (4, .dp [.d (rowsD b.next), .d (bsD b.ends)]), (6, .ptr 600 0), (8, .sl 1 2000 0 (meets (metK nx ⟨0, 0⟩ k) ((suc nx s).take c.1)).length), (9, .ptr 900 0), (10, iA k), (11, .sl 1 3200 0 c.1), (12, iA c.1)])
      (fun c => [(600, .bx [.nl, .nl]), (900, .bx [.sl 1 901 0 k, .sl 1 902 0 k]), (901, .ar 1 (((metK nx ⟨0, 0⟩ k).take k).map fun s => intsD (rowL nx (metK nx ⟨0, 0⟩ k) s))), (902, .ar 1 (((metK nx ⟨0, 0⟩ k).take k).map fun s => bD (fn s))), (2000, .ar 1 ((meets (metK nx ⟨0, 0⟩ k) ((suc nx s).take c.1)).map pR)), (3200, .ar 1 ((rowG nx (metK nx ⟨0, 0⟩ k) s c.1).map iD))]) [600, 900, 901, 902, 2000, 3200] (fun c => 3 - c.1) ⟨0, by simp⟩ (by simp [meets]) (by simp [meets, rowG]) ?_
    rintro ⟨c, hc⟩
    obtain ⟨⟨s1, s2⟩, s3, s4⟩ := hps
    have hk : s.a.toNat < a.next.length := by omega
    have hk' : s.b.toNat < b.next.length := by omega
    obtain ⟨g1, g2⟩ := okDf_row ha hk
    obtain ⟨g3, g4⟩ := okDf_row hb hk'
    have hpc : metK nx ⟨0, 0⟩ k <+: meets (metK nx ⟨0, 0⟩ k) ((suc nx s).take c) := meets_prefix _ _
    have hskc : (meets (metK nx ⟨0, 0⟩ k) ((suc nx s).take c))[k]? = some s := by
      obtain ⟨r, hr⟩ := hpc
      rw [← hr, List.getElem?_append_left hkl]; exact hsk
    obtain ⟨hkM, hskM⟩ := List.getElem?_eq_some_iff.1 hskc
    have hml := meets_len ((suc nx s).take c) (metK nx ⟨0, 0⟩ k)
    have htl : ((suc nx s).take c).length = c := by simp [suc]; omega
    have hndM : (meets (metK nx ⟨0, 0⟩ k) ((suc nx s).take c)).Nodup := nodup_meets _ hnd
    have hrg := rowG_len (nx := nx) (L := metK nx ⟨0, 0⟩ k) (s := s) hc
    rcases Nat.lt_or_ge c 3 with hc3 | hc3
    · have hsn : meets (metK nx ⟨0, 0⟩ k) ((suc nx s).take (c + 1)) = meet (meets (metK nx ⟨0, 0⟩ k) ((suc nx s).take c)) (nx s c) := by rw [suc_take hc3, meets_snoc]
      have hrs := rowG_succ (nx := nx) (L := metK nx ⟨0, 0⟩ k) (s := s) hc3
      have a1 := getD_row (xs := a.next) (i := s.a.toNat) [] hk
      have a2 := getD_row (xs := b.next) (i := s.b.toNat) [] hk'
      have a3 := getD_row (xs := a.next.getD s.a.toNat []) (i := c) 0 (by omega)
      have a4 := getD_row (xs := b.next.getD s.b.toNat []) (i := c) 0 (by omega)
      have ho : b.go s.b c = (b.next.getD s.b.toNat []).getD c 0 := rfl
      have hn : a.go s.a c = (a.next.getD s.a.toNat []).getD c 0 := rfl
      have hxe := hnxd s c
      rw [← hn] at a3
      rw [← ho] at a4
      rw [hsn] at hrs
      generalize a.go s.a c = nv at *
      generalize b.go s.b c = ov at *
      generalize a.next.getD s.a.toNat [] = nr at *
      generalize b.next.getD s.b.toNat [] = ox at *
      have l3 : (c : Int) < 3 := by omega
      simp [l3]
      refine .one (sch [.pur 0, .pur 1, .pur 2, .pur 3, .pur 4, .pur 5, .pur 6, .pur 7, .pur 8, .pur 9, .pur 10, .pur 11, .pur 12, .pur 13]) (by kernel_rfl) ?_
      simp [hkM, hskM, s1, s2, s3, s4, a1, a2, a3, g1, g3, hc3, l3]
      refine .one (sch [.pur 0, .pur 1, .pur 2, .pur 3, .pur 4, .pur 5, .pur 6, .pur 7, .pur 8, .pur 9, .pur 10, .pur 11, .pur 12, .pur 13]) (by kernel_rfl) ?_
      simp [hkM, hskM, s1, s2, s3, s4, a1, a2, a4, g1, g3, hc3, l3]
      refine LoopVC.at { j : Nat // j ≤ (meets (metK nx ⟨0, 0⟩ k) ((suc nx s).take c)).length } (fun j => [(2, iA m), (3, .dp [.d (rowsD a.next), .d (bsD a.ends)]), (4, .dp [.d (rowsD b.next), .d (bsD b.ends)]), (6, .ptr 600 0), (8, .sl 1 2000 0 (meets (metK nx ⟨0, 0⟩ k) ((suc nx s).take c)).length), (9, .ptr 900 0), (10, iA k), (11, .sl 1 3200 0 c), (12, iA c), (13, iA nv), (14, iA ov), (15, iA (fnd (meets (metK nx ⟨0, 0⟩ k) ((suc nx s).take c)) (nx s c) j.1)), (16, iA j.1)])
        (fun j => [(600, .bx [.nl, .nl]), (900, .bx [.sl 1 901 0 k, .sl 1 902 0 k]), (901, .ar 1 (((metK nx ⟨0, 0⟩ k).take k).map fun s => intsD (rowL nx (metK nx ⟨0, 0⟩ k) s))), (902, .ar 1 (((metK nx ⟨0, 0⟩ k).take k).map fun s => bD (fn s))), (2000, .ar 1 ((meets (metK nx ⟨0, 0⟩ k) ((suc nx s).take c)).map pR)), (3200, .ar 1 ((rowG nx (metK nx ⟨0, 0⟩ k) s c).map iD))]) [600, 900, 901, 902, 2000, 3200] (fun j => (meets (metK nx ⟨0, 0⟩ k) ((suc nx s).take c)).length - j.1) ⟨0, by simp⟩ (by simp [fnd]) (by simp) ?_
      rintro ⟨j, hj⟩
      rcases Nat.lt_or_ge j (meets (metK nx ⟨0, 0⟩ k) ((suc nx s).take c)).length with hjM | hjM
      · have hfs := fnd_succ hndM (s := nx s c) hjM
        have hcmp : (meets (metK nx ⟨0, 0⟩ k) ((suc nx s).take c))[j] = nx s c ↔ ((meets (metK nx ⟨0, 0⟩ k) ((suc nx s).take c))[j].a = nv ∧ (meets (metK nx ⟨0, 0⟩ k) ((suc nx s).take c))[j].b = ov) := by
          rw [hxe]
          constructor
          · intro e; rw [e]; exact ⟨rfl, rfl⟩
          · rintro ⟨e1, e2⟩; cases hq : (meets (metK nx ⟨0, 0⟩ k) ((suc nx s).take c))[j]; rw [hq] at e1 e2; simp at e1 e2; rw [e1, e2]
        have hj18 : j ≤ 46 := by omega
        simp [hjM]
        refine ⟨fun e1 e2 => ?_, fun hno => ?_⟩
        · rw [if_pos (hcmp.2 ⟨e1, e2⟩)] at hfs
          refine ⟨j + 1, .mk (by simp [hfs]; exact wrap64 (by omega) (by omega)) (by simp), hjM, by omega⟩
        · rw [if_neg (fun h => hno (hcmp.1 h).1 (hcmp.1 h).2)] at hfs
          refine ⟨j + 1, .mk (by simp [hfs]; exact wrap64 (by omega) (by omega)) (by simp), hjM, by omega⟩
      · have hjM' : j = (meets (metK nx ⟨0, 0⟩ k) ((suc nx s).take c)).length := by omega
        subst hjM'
        have hfe : fnd (meets (metK nx ⟨0, 0⟩ k) ((suc nx s).take c)) (nx s c) (meets (metK nx ⟨0, 0⟩ k) ((suc nx s).take c)).length = if nx s c ∈ (meets (metK nx ⟨0, 0⟩ k) ((suc nx s).take c)) then ((meets (metK nx ⟨0, 0⟩ k) ((suc nx s).take c)).idxOf (nx s c) : Int) else -1 := by
          unfold fnd; rw [List.take_length]
        by_cases hin : nx s c ∈ (meets (metK nx ⟨0, 0⟩ k) ((suc nx s).take c))
        · have hmt : meet (meets (metK nx ⟨0, 0⟩ k) ((suc nx s).take c)) (nx s c) = (meets (metK nx ⟨0, 0⟩ k) ((suc nx s).take c)) := by unfold meet; rw [if_pos hin]
          rw [hmt] at hrs hsn
          rw [hfe, if_pos hin]
          simp [hrg, show ¬ (((meets (metK nx ⟨0, 0⟩ k) ((suc nx s).take c)).idxOf (nx s c) : Int) < 0) by omega]
          refine ⟨⟨by omega, by omega⟩, c + 1, .mk ?_ ?_, hc3, by omega⟩
          · simp [hsn]; exact wrap64 (by omega) (by omega)
          · simp [hsn, hrs]
        · have hmt : meet (meets (metK nx ⟨0, 0⟩ k) ((suc nx s).take c)) (nx s c) = (meets (metK nx ⟨0, 0⟩ k) ((suc nx s).take c)) ++ [nx s c] := by unfold meet; rw [if_neg hin]
          rw [hmt] at hrs hsn
          have hix : ((meets (metK nx ⟨0, 0⟩ k) ((suc nx s).take c)) ++ [nx s c]).idxOf (nx s c) = (meets (metK nx ⟨0, 0⟩ k) ((suc nx s).take c)).length := by rw [List.idxOf_append, if_neg hin]; simp
          rw [hix] at hrs
          rw [hfe, if_neg hin]
          simp [hrg]
          refine ⟨rfl, ⟨by omega, by omega⟩, ⟨by omega, by omega⟩, c + 1, .mk ?_ ?_, hc3, by omega⟩
          · simp [hsn]; exact wrap64 (by omega) (by omega)
          · simp [hsn, hrs, hxe]
    · have : c = 3 := by omega
      subst this
      have ht3 : (suc nx s).take 3 = suc nx s := by simp [suc]
      obtain ⟨hn1, hn2⟩ := metK_next hsk
      have hrd : rowG nx (metK nx ⟨0, 0⟩ k) s 3 = rowL nx (metK nx ⟨0, 0⟩ (k + 1)) s := by rw [rowG_done, hms]
      have hsl : (suc nx s).length = 3 := by simp [suc]
      have a5 := getD_row (xs := a.ends) (i := s.a.toNat) false (by omega)
      have b5 := getD_row (xs := b.ends) (i := s.b.toNat) false (by omega)
      have hfs : fn s = modeB m (a.fin s.a) (b.fin s.b) := by rw [← hfn]; rfl
      have hfa : a.fin s.a = a.ends.getD s.a.toNat false := rfl
      have hfb : b.fin s.b = b.ends.getD s.b.toNat false := rfl
      rw [hfa, hfb] at hfs
      generalize a.ends.getD s.a.toNat false = va at *
      generalize b.ends.getD s.b.toNat false = vb at *
      rw [ht3] at hskc
      obtain ⟨hkM', hskM'⟩ := List.getElem?_eq_some_iff.1 hskc
      simp [ht3, hrg]
      refine ⟨by omega, ?_⟩
      refine .one (sch [.pur 0, .pur 1, .pur 2, .pur 3, .pur 4, .pur 5, .pur 6, .pur 7, .pur 8, .pur 9, .pur 10]) (by kernel_rfl) ?_
      simp [hkM', hskM', s1, s2, n3, a5]
      refine .one (sch [.pur 0, .pur 1, .pur 2, .pur 3, .pur 4, .pur 5, .pur 6, .pur 7, .pur 8, .pur 9, .pur 10]) (by kernel_rfl) ?_
      have hn2D : ((metK nx ⟨0, 0⟩ k).take k).map (fun s => intsD (rowL nx (metK nx ⟨0, 0⟩ k) s)) ++ [intsD (rowL nx (metK nx ⟨0, 0⟩ (k + 1)) s)] = ((metK nx ⟨0, 0⟩ (k + 1)).take (k + 1)).map fun s => intsD (rowL nx (metK nx ⟨0, 0⟩ (k + 1)) s) := by
        have := congrArg (List.map intsD) hn2
        simpa [Function.comp_def] using this
      have hn1D : ∀ (f : Pr → D), ((metK nx ⟨0, 0⟩ k).take k).map f ++ [f s] = ((metK nx ⟨0, 0⟩ (k + 1)).take (k + 1)).map f := fun f => by rw [hn1]; simp
      have htr : List.take 3 ((rowG nx (metK nx ⟨0, 0⟩ k) s 3).map iD) = (rowL nx (metK nx ⟨0, 0⟩ (k + 1)) s).map iD := by
        rw [List.take_of_length_le (by rw [List.length_map, hrg]; exact Nat.le_refl _), hrd]
      have htr2 : List.take 3 (List.take 3 ((rowG nx (metK nx ⟨0, 0⟩ k) s 3).map iD)) = (rowL nx (metK nx ⟨0, 0⟩ (k + 1)) s).map iD := by
        rw [htr, List.take_of_length_le (by simp [rowL, suc])]
      have hn1a := hn1D fun s => bD (fn s)
      simp only [List.map_take] at hn2D hn1a
      have hml3 := meets_len (suc nx s) (metK nx ⟨0, 0⟩ k)
      have hk1l : k + 1 ≤ (metK nx ⟨0, 0⟩ (k + 1)).length := by
        rw [hms]
        have := (meets_prefix (suc nx s) (metK nx ⟨0, 0⟩ k)).length_le
        have h3 := congrArg List.length hn1
        rw [List.length_take, List.length_append, List.length_take] at h3
        simp at h3
        rw [hms] at h3
        omega
      have hk2l : (metK nx ⟨0, 0⟩ (k + 1)).length ≤ 43 := by rw [hms]; omega
      have hk44 : 44 - (k + 1) < 44 - k := by omega
      have hkl44 : k ≤ 43 := by omega
      have hwk : IntKind.i64.wrap ((k : Int) + 1) = ((k + 1 : Nat) : Int) := by rw [wrap64 (by omega) (by omega)]; omega
      rw [hms] at hn2D hn1a htr htr2
      rcases hm with rfl | rfl | rfl | rfl
      · simp [modeB] at hfs
        rw [hfs] at hn1a
        simp [hkM', hskM', s3, s4, m3, b5]
        refine ⟨by cases va <;> simp, ⟨by omega, by omega, by omega⟩, k + 1, .mk ?_ ?_, ⟨hk1l, hk2l⟩, hk44⟩
        · simp [hms, hwk]
        · simp [htr, htr2, hn2D, hn1a, hms]
      · simp [modeB] at hfs
        rw [hfs] at hn1a
        simp [hkM', hskM', s3, s4, m3, b5]
        refine ⟨⟨by omega, by omega, by omega⟩, k + 1, .mk ?_ ?_, ⟨hk1l, hk2l⟩, hk44⟩
        · simp [hms, hwk]
        · simp [htr, htr2, hn2D, hn1a, hms]
      · simp [modeB] at hfs
        rw [hfs] at hn1a
        simp [hkM', hskM', s3, s4, m3, b5]
        refine ⟨by cases va <;> simp, ⟨by omega, by omega, by omega⟩, k + 1, .mk ?_ ?_, ⟨hk1l, hk2l⟩, hk44⟩
        · simp [hms, hwk]
        · simp [htr, htr2, hn2D, hn1a, hms]
      · simp [modeB] at hfs
        have hfs : fn s = !(va == vb) := hfs
        rw [hfs] at hn1a
        simp [hkM', hskM', s3, s4, m3, b5]
        refine ⟨⟨by omega, by omega, by omega⟩, k + 1, .mk ?_ ?_, ⟨hk1l, hk2l⟩, hk44⟩
        · simp [hms, hwk]
        · simp [htr, htr2, hn2D, hn1a, hms]
  · simp [show ¬ (k : Int) < (metK nx ⟨0, 0⟩ k).length by omega]
    have htk : (metK nx ⟨0, 0⟩ k).take k = metK nx ⟨0, 0⟩ k := List.take_of_length_le hkl
    have hres : D.agg [D.list ((metK nx ⟨0, 0⟩ k).map fun s => intsD (rowL nx (metK nx ⟨0, 0⟩ k) s)), D.list ((metK nx ⟨0, 0⟩ k).map fun s => bD (fn s))] = (autoL nx fn (metK nx ⟨0, 0⟩ k)).d := by
      simp only [autoL, Df.d, rowL, rowsD, bsD, List.map_map]; rfl
    have htt : ∀ {β : Type} (f : Pr → β), List.take k (List.take k (List.map f (metK nx ⟨0, 0⟩ k))) = (metK nx ⟨0, 0⟩ k).map f := fun f => by
      rw [List.take_take, Nat.min_self, ← List.map_take, htk]
    refine ⟨by omega, ?_⟩
    rw [htt, htt, hres]
    rcases Nat.lt_or_ge 40 (metK nx ⟨0, 0⟩ k).length with h40 | h40
    · rw [show decide (((metK nx ⟨0, 0⟩ k).length : Int) ≤ 40) = false by simp; omega]
      exact hB _ k h40
    · rw [show decide (((metK nx ⟨0, 0⟩ k).length : Int) ≤ 40) = true by simp; omega]
      exact hA k hkl h40
end Go.Fw
