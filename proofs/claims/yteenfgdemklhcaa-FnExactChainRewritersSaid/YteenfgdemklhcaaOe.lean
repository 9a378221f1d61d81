/- The reference's classes of states, and its smallest automaton. -/
import Derived.Test.YteenfgdemklhcaaOd
set_option linter.unusedSimpArgs false
set_option linter.unusedVariables false
namespace Go.Fw
open Go Go.Proofs
set_option linter.unusedSectionVars false
set_option linter.unnecessarySimpa false

/-- The first classes: where words may end, and where not. -/
def cls0 (a : Df) (k : Nat) : List Int := (a.ends.take k).map fun b => if b then 1 else 0
theorem cls0_cls {a : Df} (h : okDf a = true) : ClsK a 0 (cls0 a a.next.length) := by
  obtain ⟨n1, n2, n3⟩ := okDf_len h
  refine ⟨by simp [cls0, n3], fun q r hq hr => ?_⟩
  have e : ∀ q, a.st q → (cls0 a a.next.length).getD q.toNat 0 = if a.fin q then 1 else 0 := fun q hq => by
    have hk : q.toNat < a.ends.length := by have := hq.1; have := hq.2; omega
    have e2 : a.fin q = a.ends[q.toNat] := ((getD_row (xs := a.ends) (i := q.toNat) false hk).2 hk).symm
    rw [e2]
    simp only [cls0]
    rw [List.take_of_length_le (by omega), List.getD_eq_getElem?_getD, List.getElem?_map, List.getElem?_eq_getElem hk]
    rfl
  rw [e q hq, e r hr, sameK_zero]
  cases a.fin q <;> cases a.fin r <;> simp
theorem cls0_succ {a : Df} {k : Nat} (h : k < a.ends.length) : cls0 a (k + 1) = cls0 a k ++ [if a.ends[k] then 1 else 0] := by
  unfold cls0; rw [take_snoc h, List.map_append]; rfl

/-- The classes on the way. -/
structure LvS (a : Df) where
  m : Nat
  cl : List Int
  chg : Bool
structure LvS.ok {a : Df} (s : LvS a) : Prop where
  cls : ClsK a s.m s.cl
  lev : s.m ≠ 0 → Lev a s.m s.cl
  done : s.chg = false → Lev a s.m s.cl ∧ Stab a s.m
def LvS.mu {a : Df} (s : LvS a) : Nat := (if s.m = 0 then 2000 else 1600 - s.cl.sum.toNat) * 2 + if s.chg then 1 else 0

/-- The next list so far. -/
structure Nxt (a : Df) (m k : Nat) (nx : List Int) : Prop where
  len : nx.length = k
  fst : ∀ i : Nat, i < k → FstK a (m + 1) i (nx.getD i 0)
theorem Nxt.snoc {a : Df} {m k : Nat} {nx : List Int} (h : Nxt a m k nx) {o : Int} (ho : FstK a (m + 1) k o) : Nxt a m (k + 1) (nx ++ [o]) := by
  refine ⟨by simp [h.len], fun i hi => ?_⟩
  have hl := h.len
  rcases Nat.lt_or_ge i k with h1 | h1
  · have := h.fst i h1
    rw [List.getD_eq_getElem?_getD, List.getElem?_append_left (by omega), ← List.getD_eq_getElem?_getD]; exact this
  · have : i = k := by omega
    subst this
    rw [List.getD_eq_getElem?_getD, List.getElem?_append_right (by omega)]
    simpa [hl] using ho
theorem Nxt.lev {a : Df} {m : Nat} {nx : List Int} (h : Nxt a m a.next.length nx) : Lev a (m + 1) nx := by
  refine ⟨h.len, fun q hq => ?_⟩
  have := h.fst q.toNat (by have := hq.1; have := hq.2; omega)
  rw [Int.toNat_of_nonneg hq.1] at this
  exact this

/-- Has a pair been found about which the lists don't agree? Looked at: all before the pair 'k', 'j'. -/
structure ChgS (a : Df) (cl nx : List Int) (k j : Nat) (b : Bool) : Prop where
  lo : b = false → ∀ j' k', j' < k' → (k' < k ∨ (k' = k ∧ j' < j)) → Agr cl nx j' k'
  hi : b = true → ∃ j' k', j' < k' ∧ k' < a.next.length ∧ ¬ Agr cl nx j' k'
theorem ChgS.zero {a : Df} {cl nx : List Int} : ChgS a cl nx 0 0 false := ⟨fun _ j k h h' => by omega, by simp⟩
theorem ChgS.next {a : Df} {cl nx : List Int} {k : Nat} {b : Bool} (h : ChgS a cl nx k k b) : ChgS a cl nx (k + 1) 0 b :=
  ⟨fun hb j' k' h1 h2 => h.lo hb j' k' h1 (by omega), h.hi⟩
theorem ChgS.no {a : Df} {cl nx : List Int} {b : Bool} (h : ChgS a cl nx a.next.length 0 b) (hb : b = false) : ∀ j k, j < k → k < a.next.length → Agr cl nx j k := fun j k h1 h2 => h.lo hb j k h1 (.inl h2)
theorem ChgS.step {a : Df} {cl nx : List Int} {k j : Nat} {b : Bool} (h : ChgS a cl nx k j b) (hj : j < k) (hk : k < a.next.length) : (Agr cl nx j k → ChgS a cl nx k (j + 1) b) ∧ (¬ Agr cl nx j k → ChgS a cl nx k (j + 1) true) := by
  refine ⟨fun ha => ⟨fun hb j' k' h1 h2 => ?_, h.hi⟩, fun ha => ⟨by simp, fun _ => ⟨j, k, hj, hk, ha⟩⟩⟩
  by_cases e : k' = k ∧ j' = j
  · obtain ⟨rfl, rfl⟩ := e; exact ha
  · exact h.lo hb j' k' h1 (by omega)
structure NB where
  k : Nat
  b : Bool
theorem first_idx {d : Df} {m : Nat} {cl : List Int} (h : Lev d m cl) {k : Nat} (hk : k < d.next.length) : (cl.idxOf (cl.getD k 0) : Int) = cl.getD k 0 := by
  have hl := h.len
  have a1 := getD_row (xs := cl) (i := k) 0 (by omega)
  have hf := h.at_ hk
  have hin : cl.getD k 0 ∈ cl := List.mem_of_getElem? a1.1
  have hi := List.idxOf_lt_length_iff.2 hin
  have he : cl[cl.idxOf (cl.getD k 0)] = cl.getD k 0 := List.getElem_idxOf hi
  generalize cl.getD k 0 = o at *
  have hst := hf.st
  have s1 := hst.1
  have s2 := hst.2
  have ho : cl.getD o.toNat 0 = o := by
    have h2 := h.fst o hst
    exact h2.uniq hf hf.same
  have hok : o.toNat < cl.length := by omega
  have hge : cl.idxOf o ≤ o.toNat := by
    rcases Nat.lt_or_ge o.toNat (cl.idxOf o) with h4 | h4
    · have := List.not_of_lt_findIdx (p := (· == o)) (xs := cl) h4
      have h5 := (getD_row (xs := cl) (i := o.toNat) 0 hok).2 hok
      simp at this
      rw [h5, ho] at this
      exact absurd rfl this
    · exact h4
  have hle : o ≤ (cl.idxOf o : Int) := by
    have h6 := (getD_row (xs := cl) (i := cl.idxOf o) 0 hi).2 hi
    have hI : d.st (cl.idxOf o : Int) := ⟨by omega, by omega⟩
    have h7 := h.cls.iff (cl.idxOf o : Int) o hI hst
    simp only [Int.toNat_natCast] at h7
    rw [← h6, he, ho] at h7
    have h8 := h7.1 rfl
    exact hf.first _ hI (h8.trans hf.same)
  omega

set_option maxRecDepth 100000 in
theorem c_l10Classes (a : Df) (h : okDf a = true) : DCalls Try.prog 87 [.d a.d] fun r => ∃ cl, r = intsD cl ∧ ClsL a cl := by
  refine dcalls_intro Ty.mixed Try.func87 rfl rfl rfl [1] (by kernel_rfl) (by simp) ?_
  obtain ⟨n1, n2, n3⟩ := okDf_len h
  simp [Df.d]
  refine LoopVC.at { k : Nat // k ≤ a.next.length } (fun k => [(1, .dp [.d (rowsD a.next), .d (bsD a.ends)]), (3, .sl 1 1600 0 k.1), (4, iA k.1)])
    (fun k => [(1600, .ar 1 ((cls0 a k.1).map iD))]) [1600] (fun k => a.next.length - k.1) ⟨0, by simp⟩ (by simp) (by simp [cls0]) ?_
  rintro ⟨k, hk⟩
  have hcl : (cls0 a k).length = k := by simp [cls0]; omega
  rcases Nat.lt_or_ge k a.next.length with hkn | hkn
  · have hke : k < a.ends.length := by omega
    have hsn := cls0_succ hke
    simp [hkn, hke, hcl]
    refine ⟨⟨by omega, by omega⟩, fun hb => ⟨by omega, k + 1, .mk ?_ ?_, hkn, by omega⟩, fun hb => ⟨k + 1, .mk ?_ ?_, hkn, by omega⟩⟩
    · simp; exact wrap64 (by omega) (by omega)
    · rw [hsn, hb]
      simp [hcl, List.set_append]
    · simp; exact wrap64 (by omega) (by omega)
    · rw [hsn, hb]; simp
  · have : k = a.next.length := by omega
    subst this
    have hc0 := cls0_cls h
    generalize cls0 a a.next.length = cl0 at *
    simp
    refine LoopVC.wk (Wk.frz 3 rfl (by simp [hcl])) ?_
    refine LoopVC.at { s : LvS a // s.ok } (fun s => [(1, .dp [.d (rowsD a.next), .d (bsD a.ends)]), (3, .d (intsD s.1.cl)), (5, .d (.bool s.1.chg))])
      (fun _ => []) [] (fun s => s.1.mu) ⟨⟨0, cl0, true⟩, hc0, by simp, by simp⟩ (by simp; exact List.take_of_length_le (by simp [hcl])) (by simp) ?_
    rintro ⟨⟨m, cl, chg⟩, hc1, hc2, hc3⟩
    simp only at hc1 hc2 hc3
    cases chg with
    | false =>
      obtain ⟨hc3, hst⟩ := hc3 rfl
      have hcn := hc3.len
      simp
      refine LoopVC.at { k : Nat // k ≤ a.next.length } (fun k => [(1, .dp [.d (rowsD a.next), .d (bsD a.ends)]), (3, .d (intsD cl)), (14, .sl 1 13200 0 k.1), (15, iA k.1)])
        (fun k => [(13200, .ar 1 ((cl.take k.1).map iD))]) [13200] (fun k => a.next.length - k.1) ⟨0, by simp⟩ (by simp) (by simp) ?_
      rintro ⟨k, hk⟩
      rcases Nat.lt_or_ge k a.next.length with hkn | hkn
      · have hix := first_idx hc3 hkn
        have a1 := getD_row (xs := cl) (i := k) 0 (by omega)
        have hin : cl.getD k 0 ∈ cl := List.mem_of_getElem? a1.1
        have hii := idxI_idx hin
        rw [hix] at hii
        have htk : (cl.map iD).take (k + 1) = (cl.map iD).take k ++ [iD (cl.getD k 0)] := by
          rw [← List.map_take, take_snoc (by omega), a1.2 (by omega)]; simp
        have hno : (cl.take k).length = k := by simp; omega
        generalize cl.getD k 0 = v at *
        simp [hkn, hcn, a1]
        refine .dval (c_l7Name cl v (by omega)) rfl (by simp) rfl ?_
        rw [hii]
        simp [hcn]
        refine ⟨⟨by omega, by omega, by omega⟩, k + 1, .mk ?_ ?_, hkn, by omega⟩
        · simp; exact wrap64 (by omega) (by omega)
        · simp [htk]
      · simp [Nat.not_lt.2 hkn, hcn]
        have : k = a.next.length := by omega
        subst this
        refine ⟨by omega, cl, ?_, hc3.done h hst⟩
        rw [List.take_take, Nat.min_self, List.take_of_length_le (by simp; omega)]
    | true =>
      have hcn := hc1.len
      simp
      refine LoopVC.at { g : Nat × List Int // g.1 ≤ a.next.length ∧ Nxt a m g.1 g.2 } (fun g => [(1, .dp [.d (rowsD a.next), .d (bsD a.ends)]), (3, .d (intsD cl)), (5, .d (.bool false)), (6, .sl 1 3600 0 g.1.1), (7, iA g.1.1)])
        (fun g => [(3600, .ar 1 (g.1.2.map iD))]) [3600] (fun g => a.next.length - g.1.1) ⟨(0, []), by simp, by simp, by simp⟩ (by simp) (by simp) ?_
      rintro ⟨⟨k, nx⟩, hkn, hnx⟩
      simp only at hkn hnx
      have hnl := hnx.len
      rcases Nat.lt_or_ge k a.next.length with hk' | hk'
      · simp [hk', hcn]
        refine LoopVC.at { g : Nat × Int // g.1 ≤ k ∧ Fnd a m k g.1 g.2 } (fun g => [(1, .dp [.d (rowsD a.next), .d (bsD a.ends)]), (3, .d (intsD cl)), (5, .d (.bool false)), (6, .sl 1 3600 0 k), (7, iA k), (8, iA g.1.2), (9, iA ((g.1.1 : Int) - 1))])
          (fun g => [(3600, .ar 1 (nx.map iD))]) [3600] (fun g => g.1.1) ⟨(k, k), by simp, .inl ⟨rfl, by omega⟩⟩ (by simp; exact wrap64 (by omega) (by omega)) (by simp) ?_
        rintro ⟨⟨j, o⟩, hjk, hfo⟩
        simp only at hjk hfo
        rcases Nat.eq_zero_or_pos j with hj0 | hj0
        · subst hj0
          have hfk := hfo.zero hk'
          have hnn := hnx.snoc hfk
          simp [hnl]
          refine ⟨⟨by omega, by omega⟩, k + 1, nx ++ [o], .mk ?_ ?_, ⟨hk', hnn⟩, by omega⟩
          · simp; exact wrap64 (by omega) (by omega)
          · simp
        · obtain ⟨i, rfl⟩ : ∃ i, j = i + 1 := ⟨j - 1, by omega⟩
          have hin : i < a.next.length := by omega
          have a1 := getD_row (xs := cl) (i := i) 0 (by omega)
          have a2 := getD_row (xs := cl) (i := k) 0 (by omega)
          have he0 : eqC a cl i k 0 = decide (cl.getD i 0 = cl.getD k 0) := by simp [eqC]
          have hsi : ((i + 1 : Nat) : Int) - 1 = i := by omega
          have hpi := st_nat (d := a) hin
          have hpk := st_nat (d := a) hk'
          generalize hvi : cl.getD i 0 = vi at a1 he0
          generalize hvk : cl.getD k 0 = vk at a2 he0
          simp [hsi]
          refine .one (sch [.pur 0, .pur 1, .pur 2, .pur 3, .pur 4, .pur 5, .pur 6, .pur 7, .pur 8, .pur 9]) (by kernel_rfl) ?_
          simp [hcn, hk', hin, a1, a2]
          refine LoopVC.at { c : Nat // c ≤ 3 } (fun c => [(1, .dp [.d (rowsD a.next), .d (bsD a.ends)]), (3, .d (intsD cl)), (5, .d (.bool false)), (6, .sl 1 3600 0 k), (7, iA k), (8, iA o), (9, iA i), (10, .d (.bool (eqC a cl i k c.1))), (11, iA c.1)])
            (fun c => [(3600, .ar 1 (nx.map iD))]) [3600] (fun c => 3 - c.1) ⟨0, by simp⟩ (by simp [he0]; rfl) (by simp) ?_
          rintro ⟨c, hc⟩
          rcases Nat.lt_or_ge c 3 with hc3' | hc3'
          · have hes := eqC_succ a cl i k c
            obtain ⟨r1, r2⟩ := okDf_row h hin
            obtain ⟨r3, r4⟩ := okDf_row h hk'
            have b1 := getD_row (xs := a.next) (i := i) [] hin
            have b2 := getD_row (xs := a.next) (i := k) [] hk'
            have b3 := getD_row (xs := a.next.getD i []) (i := c) 0 (by omega)
            have b4 := getD_row (xs := a.next.getD k []) (i := c) 0 (by omega)
            have hg1 : a.go i c = (a.next.getD i []).getD c 0 := rfl
            have hg2 : a.go k c = (a.next.getD k []).getD c 0 := rfl
            have hq1 := go_st h hpi (c := c) (by omega)
            have hq2 := go_st h hpk (c := c) (by omega)
            rw [← hg1] at b3
            rw [← hg2] at b4
            generalize a.next.getD i [] = ni at *
            generalize a.next.getD k [] = nk at *
            generalize a.go i c = gi at *
            generalize a.go k c = gk at *
            obtain ⟨gi', rfl⟩ : ∃ z : Nat, gi = z := ⟨gi.toNat, by have := hq1.1; omega⟩
            obtain ⟨gk', rfl⟩ : ∃ z : Nat, gk = z := ⟨gk.toNat, by have := hq2.1; omega⟩
            have hgl1 : gi' < a.next.length := by have := hq1.2; omega
            have hgl2 : gk' < a.next.length := by have := hq2.2; omega
            obtain ⟨wi, b5, b5', e5⟩ := getD_ex (xs := cl) (i := gi') (by omega)
            obtain ⟨wk, b6, b6', e6⟩ := getD_ex (xs := cl) (i := gk') (by omega)
            have hes' : eqC a cl i k (c + 1) = (eqC a cl i k c && decide (wi = wk)) := by
              rw [hes]; simp only [Int.toNat_natCast, e5, e6]
            have l3 : (c : Int) < 3 := by omega
            simp [l3]
            refine .one (sch [.pur 0, .pur 1, .pur 2, .pur 3, .pur 4, .pur 5, .pur 6, .pur 7, .pur 8, .pur 9, .pur 10, .pur 11, .pur 12, .pur 13, .pur 14, .pur 15, .pur 16, .pur 17, .pur 18, .pur 19, .pur 20, .pur 21, .pur 22, .pur 23, .pur 24, .pur 25, .eff 26 []]) (by kernel_rfl) ?_
            simp [hcn, hk', hin, b1, b2, b3, b4, b5, b5', b6, b6', r1, r3, hc3', l3, hgl1, hgl2]
            refine ⟨c + 1, .mk ?_ (by simp), hc3', by omega⟩
            rw [hes']
            simp
            exact ⟨rfl, wrap64 (by omega) (by omega)⟩
          · have : c = 3 := by omega
            subst this
            have hfin : finerB a cl i k = true ↔ SameK a (m + 1) i k := hc1.finer h hpi hpk
            rw [← eqC_done] at hfin
            obtain ⟨w, hn1, hn1', ew⟩ := getD_ex (xs := nx) (i := i) (by omega)
            have hfi := hnx.fst i (by omega)
            rw [ew] at hfi
            simp [hnl, hn1, hn1']
            refine ⟨fun he => ⟨by omega, i, w, .mk ?_ (by simp), ⟨by omega, Fnd.hit (by omega) (hfin.1 he) hfi⟩, by omega⟩, fun he => ⟨i, o, .mk ?_ (by simp), ⟨by omega, hfo.miss fun hs => ?_⟩, by omega⟩⟩
            · simp; exact wrap64 (by omega) (by omega)
            · simp; exact wrap64 (by omega) (by omega)
            · rw [hfin.2 hs] at he; cases he
      · have : k = a.next.length := by omega
        subst this
        have hlv := hnx.lev
        simp [hcn]
        refine LoopVC.at { g : NB // g.k ≤ a.next.length ∧ ChgS a cl nx g.k 0 g.b } (fun g => [(1, .dp [.d (rowsD a.next), .d (bsD a.ends)]), (3, .d (intsD cl)), (5, .d (.bool g.1.b)), (6, .sl 1 3600 0 a.next.length), (12, iA g.1.k)])
          (fun g => [(3600, .ar 1 (nx.map iD))]) [3600] (fun g => a.next.length - g.1.k) ⟨⟨0, false⟩, by simp, ChgS.zero⟩ (by simp) (by simp) ?_
        rintro ⟨⟨k, b⟩, hkn, hb⟩
        simp only at hkn hb
        rcases Nat.lt_or_ge k a.next.length with hk' | hk'
        · simp [hk', hcn]
          refine LoopVC.at { g : NB // g.k ≤ k ∧ ChgS a cl nx k g.k g.b } (fun g => [(1, .dp [.d (rowsD a.next), .d (bsD a.ends)]), (3, .d (intsD cl)), (5, .d (.bool g.1.b)), (6, .sl 1 3600 0 a.next.length), (12, iA k), (13, iA g.1.k)])
            (fun g => [(3600, .ar 1 (nx.map iD))]) [3600] (fun g => k - g.1.k) ⟨⟨0, b⟩, by simp, hb⟩ (by simp) (by simp) ?_
          rintro ⟨⟨j, b⟩, hjk, hb⟩
          simp only at hjk hb
          rcases Nat.lt_or_ge j k with hj | hj
          · obtain ⟨v1, c1, c1', e1⟩ := getD_ex (xs := cl) (i := j) (by omega)
            obtain ⟨v2, c2, c2', e2⟩ := getD_ex (xs := cl) (i := k) (by omega)
            obtain ⟨v3, c3, c3', e3⟩ := getD_ex (xs := nx) (i := j) (by omega)
            obtain ⟨v4, c4, c4', e4⟩ := getD_ex (xs := nx) (i := k) (by omega)
            have hstep := hb.step hj hk'
            unfold Agr at hstep
            rw [e1, e2, e3, e4] at hstep
            have hjn : j < a.next.length := by omega
            simp [hj]
            refine .one (sch [.pur 0, .pur 1, .pur 2, .pur 3, .pur 4, .pur 5, .pur 6, .pur 7, .pur 8, .pur 9, .pur 10, .pur 11, .pur 12, .pur 13, .pur 14, .pur 15, .pur 16, .pur 17, .pur 18, .pur 19, .pur 20, .pur 21, .eff 22 []]) (by kernel_rfl) ?_
            simp [hcn, hnl, hk', hjn, c1, c1', c2, c2', c3, c3', c4, c4']
            refine ⟨⟨j + 1, b || ((v1 == v2) != (v3 == v4))⟩, .mk ?_ (by simp), ⟨hj, ?_⟩, by simp; omega⟩
            · simp
              refine ⟨?_, wrap64 (by omega) (by omega)⟩
              cases b <;> simp
              cases (v1 == v2) <;> cases (v3 == v4) <;> rfl
            · show ChgS a cl nx k (j + 1) (b || ((v1 == v2) != (v3 == v4)))
              by_cases hag : (v1 = v2 ↔ v3 = v4)
              · have := hstep.1 hag
                have e : (v1 == v2) = (v3 == v4) := by rw [Bool.eq_iff_iff]; simpa using hag
                rw [e]; simpa using this
              · have := hstep.2 hag
                have e : ((v1 == v2) != (v3 == v4)) = true := by
                  rw [bne_iff_ne]
                  intro e; apply hag
                  rw [Bool.eq_iff_iff] at e; simpa using e
                rw [e]; simpa using this
          · have : j = k := by omega
            subst this
            simp
            refine ⟨⟨j + 1, b⟩, .mk ?_ (by simp), ⟨hk', hb.next⟩, by simp; omega⟩
            simp; exact wrap64 (by omega) (by omega)
        · have : k = a.next.length := by omega
          subst this
          simp [hcn]
          refine ⟨⟨m + 1, nx, b⟩, (Wk.frz 3 rfl (by simp [hnl])).trans (.mk ?_ (by simp)), ⟨hlv.cls, fun _ => hlv, fun hbf => ⟨hlv, (stab_of_agr hc1 hlv (hb.no hbf)).up h⟩⟩, ?_⟩
          · simp; exact List.take_of_length_le (by simp [hnl])
          · cases b with
            | false =>
              by_cases hm0 : m = 0
              · simp [LvS.mu, hm0]; omega
              · have := ((hc2 hm0).up hlv).1
                have := hlv.hi h
                have := (hc2 hm0).lo
                have := hlv.lo
                simp [LvS.mu, hm0]; omega
            | true =>
              by_cases hm0 : m = 0
              · simp [LvS.mu, hm0]; omega
              · have h1 := (hc2 hm0).up hlv
                have := hlv.hi h
                have := (hc2 hm0).lo
                have := hlv.lo
                have h2 : cl.sum ≠ nx.sum := fun e => by
                  obtain ⟨j', k', _, _, hn⟩ := hb.hi rfl
                  exact hn (agr_of_eq (h1.2 e) _ _)
                simp [LvS.mu, hm0]; omega
end Go.Fw
