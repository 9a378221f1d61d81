/- The reference's trimmed automaton. -/
import Derived.Test.YteenfgdemklhcaaMl
set_option linter.unusedSimpArgs false
set_option linter.unusedVariables false
namespace Go.Fw
open Go Go.Proofs
set_option linter.unusedSectionVars false
set_option linter.unnecessarySimpa false

def metF (n : Nat) (L : List Int) : List Bool := (List.range n).map fun (i : Nat) => decide ((i : Int) ∈ L)
theorem metF_len (n : Nat) (L : List Int) : (metF n L).length = n := by simp [metF]
theorem metF_get {n : Nat} {L : List Int} {i : Nat} (h : i < n) : (metF n L)[i]? = some (decide ((i : Int) ∈ L)) := by simp [metF, h]
theorem metF_get' {n : Nat} {L : List Int} {i : Nat} (h : i < n) (h') : (metF n L)[i]'h' = decide ((i : Int) ∈ L) := by simp [metF]
theorem metF_set {n : Nat} {L : List Int} {i : Nat} (h : i < n) : (metF n L).set i true = metF n (L ++ [(i : Int)]) := by
  refine List.ext_getElem (by simp [metF]) fun j h1 h2 => ?_
  simp only [List.getElem_set, metF, List.getElem_map, List.getElem_range, List.mem_append, List.mem_singleton]
  by_cases e : i = j
  · subst e; simp
  · simp [e, show ¬ ((j : Int) = (i : Int)) by omega]
theorem metF_zero {n : Nat} (h : 0 < n) : (List.replicate n false).set 0 true = metF n [0] := by
  have : List.replicate n false = metF n [] := by
    refine List.ext_getElem (by simp [metF]) fun j h1 h2 => ?_
    simp [metF]
  rw [this, metF_set h]; rfl

theorem met_len_le {a : Df} (h : okDf a = true) (k : Nat) : (metK a.go 0 k).length ≤ a.next.length ∧ ∀ s ∈ metK a.go 0 k, a.st s := metK_bound h (st0 h) (fun _ _ hq hc => go_st h hq hc) k
theorem meets_st {a : Df} (h : okDf a = true) {k c : Nat} {s : Int} (hs : a.st s) (hc : c ≤ 3) : (meets (metK a.go 0 k) ((suc a.go s).take c)).length ≤ a.next.length ∧ ∀ t ∈ meets (metK a.go 0 k) ((suc a.go s).take c), a.st t := by
  have hst : ∀ t ∈ meets (metK a.go 0 k) ((suc a.go s).take c), a.st t := fun t ht => by
    rcases mem_meets.1 ht with h1 | h1
    · exact (met_len_le h k).2 t h1
    · have := List.mem_of_mem_take h1
      simp [suc] at this
      rcases this with rfl | rfl | rfl <;> exact go_st h hs (by omega)
  exact ⟨nodup_bound _ _ (nodup_meets _ (metK_nodup k)) hst, hst⟩

set_option maxRecDepth 100000 in
theorem c_l7Order (a : Df) (h : okDf a = true) : DCalls Try.prog 93 [.d a.d] fun r => ∃ k, (metK a.go 0 k).length ≤ k ∧ r = intsD (metK a.go 0 k) := by
  refine dcalls_intro Ty.mixed Try.func93 rfl rfl rfl [1] (by kernel_rfl) (by simp) ?_
  obtain ⟨n1, n2, n3⟩ := okDf_len h
  simp [Df.d]
  refine ⟨by omega, by omega, ?_⟩
  have hz := metF_zero (n := a.next.length) (by omega)
  refine LoopVC.at { k : Nat // k ≤ (metK a.go 0 k).length } (fun k => [(1, .dp [.d (rowsD a.next), .d (bsD a.ends)]), (3, .sl 1 800 0 (metK a.go 0 k.1).length), (4, .sl 1 1200 0 a.next.length), (5, iA k.1)])
    (fun k => [(800, .ar 1 ((metK a.go 0 k.1).map iD)), (1200, .ar 1 ((metF a.next.length (metK a.go 0 k.1)).map bD))]) [800, 1200] (fun k => a.next.length + 1 - k.1) ⟨0, by simp⟩ (by simp [metK]) (by simp [metK, ← hz]) ?_
  rintro ⟨k, hk1⟩
  have hml := met_len_le h k
  rcases Nat.lt_or_ge k (metK a.go 0 k).length with hkl | hkl
  · obtain ⟨s, hsk⟩ : ∃ s, (metK a.go 0 k)[k]? = some s := ⟨_, List.getElem?_eq_getElem hkl⟩
    have hms : metK a.go 0 (k + 1) = meets (metK a.go 0 k) (suc a.go s) := by simp only [metK, hsk]
    have hss := hml.2 s (List.mem_of_getElem? hsk)
    simp [show (k : Int) < (metK a.go 0 k).length by omega]
    refine LoopVC.at { c : Nat // c ≤ 3 } (fun c => [(1, .dp [.d (rowsD a.next), .d (bsD a.ends)]), (3, .sl 1 800 0 (meets (metK a.go 0 k) ((suc a.go s).take c.1)).length), (4, .sl 1 1200 0 a.next.length), (5, iA k), (6, iA c.1)])
      (fun c => [(800, .ar 1 ((meets (metK a.go 0 k) ((suc a.go s).take c.1)).map iD)), (1200, .ar 1 ((metF a.next.length (meets (metK a.go 0 k) ((suc a.go s).take c.1))).map bD))]) [800, 1200] (fun c => 3 - c.1) ⟨0, by simp⟩ (by simp [meets]) (by simp [meets]) ?_
    rintro ⟨c, hc⟩
    have hpc : metK a.go 0 k <+: meets (metK a.go 0 k) ((suc a.go s).take c) := meets_prefix _ _
    have hskc : (meets (metK a.go 0 k) ((suc a.go s).take c))[k]? = some s := by
      obtain ⟨r, hr⟩ := hpc
      rw [← hr, List.getElem?_append_left hkl]; exact hsk
    obtain ⟨hkM, hskM⟩ := List.getElem?_eq_some_iff.1 hskc
    have hmb := meets_st h (k := k) hss hc
    rcases Nat.lt_or_ge c 3 with hc3 | hc3
    · have hsn : meets (metK a.go 0 k) ((suc a.go s).take (c + 1)) = meet (meets (metK a.go 0 k) ((suc a.go s).take c)) (a.go s c) := by rw [suc_take hc3, meets_snoc]
      have hgs := go_st h hss (c := (c : Int)) (by omega)
      have hmb' := meets_st h (k := k) hss (c := c + 1) (by omega)
      have hkn : s.toNat < a.next.length := by have := hss.1; have := hss.2; omega
      obtain ⟨g1, g2⟩ := okDf_row h hkn
      have a1 := getD_row (xs := a.next) (i := s.toNat) [] hkn
      have a2 := getD_row (xs := a.next.getD s.toNat []) (i := c) 0 (by omega)
      have hgo : a.go s c = (a.next.getD s.toNat []).getD c 0 := rfl
      rw [← hgo] at a2
      have hs1 := hss.1
      have hs2 := hss.2
      generalize a.go s c = t at *
      generalize a.next.getD s.toNat [] = nx at *
      obtain ⟨t', rfl⟩ : ∃ t' : Nat, t = t' := ⟨t.toNat, by have := hgs.1; omega⟩
      have ht' : t' < a.next.length := by have := hgs.2; omega
      have hfl := metF_len a.next.length (meets (metK a.go 0 k) ((suc a.go s).take c))
      have hfg := metF_get (L := meets (metK a.go 0 k) ((suc a.go s).take c)) ht'
      have hfg' := metF_get' (L := meets (metK a.go 0 k) ((suc a.go s).take c)) ht'
      have hfs := metF_set (L := meets (metK a.go 0 k) ((suc a.go s).take c)) ht'
      have l3 : (c : Int) < 3 := by omega
      generalize hM : meets (metK a.go 0 k) ((suc a.go s).take c) = M at *
      simp [l3]
      refine .one (sch [.pur 0, .pur 1, .pur 2, .pur 3, .pur 4, .pur 5, .pur 6, .pur 7, .pur 8, .pur 9, .pur 10, .pur 11]) (by kernel_rfl) ?_
      simp [hkM, hskM, hs1, hs2, a1, a2, g1, hc3, l3, hfl, hfg, hfg', ht']
      by_cases hin : (t' : Int) ∈ M
      · have hmt : meet M (t' : Int) = M := by unfold meet; rw [if_pos hin]
        rw [hmt] at hsn
        simp [hin]
        refine ⟨c + 1, .mk ?_ ?_, hc3, by omega⟩
        · simp [hsn]; exact wrap64 (by omega) (by omega)
        · simp [hsn]
      · have hmt : meet M (t' : Int) = M ++ [(t' : Int)] := by unfold meet; rw [if_neg hin]
        rw [hmt] at hsn
        simp [hin]
        refine ⟨⟨by omega, by omega⟩, c + 1, .mk ?_ ?_, hc3, by omega⟩
        · simp [hsn]; exact wrap64 (by omega) (by omega)
        · rw [hsn, ← hfs]; simp
    · have : c = 3 := by omega
      subst this
      have ht3 : (suc a.go s).take 3 = suc a.go s := by simp [suc]
      obtain ⟨hn1, hn2⟩ := metK_next hsk
      simp [ht3]
      refine ⟨k + 1, .mk ?_ ?_, ?_, by omega⟩
      · simp [hms]; exact wrap64 (by omega) (by omega)
      · simp [hms]
      · have h3 := congrArg List.length hn1
        rw [List.length_take, List.length_append, List.length_take] at h3
        simp at h3
        omega
  · simp [show ¬ (k : Int) < (metK a.go 0 k).length by omega]
    exact ⟨k, hkl, takeM _ _⟩

/-! ### The trimmed automaton -/

theorem idxI_idx {L : List Int} {t : Int} (h : t ∈ L) : idxI (fun x => decide (x = t)) L = (L.idxOf t : Int) := by
  have hi := List.idxOf_lt_length_iff.2 h
  have he : L[L.idxOf t] = t := List.getElem_idxOf hi
  refine idxI_found hi (fun j hj hji => ?_) (by simp [he])
  have := List.not_of_lt_findIdx (p := (· == t)) (xs := L) hji
  simpa using this
/-- The trimmed automaton. -/
def IsTrim (a x : Df) : Prop := ∃ k, (metK a.go 0 k).length ≤ k ∧ x = autoL a.go a.fin (metK a.go 0 k)

set_option maxRecDepth 100000 in
theorem c_DfaTrim (a : Df) (h : okDf a = true) (hf : a.fine) : DCalls Try.prog 86 [.d a.d] fun r => ∃ x : Df, r = x.d ∧ IsTrim a x := by
  refine dcalls_intro Ty.mixed Try.func86 rfl rfl rfl [1] (by kernel_rfl) (by simp) ?_
  obtain ⟨n1, n2, n3⟩ := okDf_len h
  simp [Df.d]
  refine .dval (c_sDfaValid a hf) rfl (by simp [Df.d]) rfl ?_
  simp [h]
  refine .ddat (c_l7Order a h) rfl (by simp [Df.d]) ?_
  rintro _ ⟨k0, hk0, rfl⟩
  have hmlL := met_len_le h k0
  have hwh := metK_whole hk0
  simp only [IsTrim]
  generalize hL : metK a.go 0 k0 = L at *
  simp
  refine LoopVC.wk (Wk.adoptBx 400 0 901 1 (cs := [.nl, .nl]) (by simp) rfl (by simp)) ?_
  refine LoopVC.wk (Wk.adoptBx 400 1 902 1 (cs := [.sl 1 901 0 0, .nl]) (by simp) rfl (by simp)) ?_
  refine LoopVC.at { k : Nat // k ≤ L.length } (fun k => [(1, .dp [.d (rowsD a.next), .d (bsD a.ends)]), (2, .ptr 200 0), (3, .d (intsD L)), (4, .ptr 400 0), (5, iA k.1)])
    (fun k => [(200, .bx [.nl, .nl]), (400, .bx [.sl 1 901 0 k.1, .sl 1 902 0 k.1]), (901, .ar 1 ((L.take k.1).map fun s => intsD (rowL a.go L s))), (902, .ar 1 ((L.take k.1).map fun s => bD (a.fin s)))]) [200, 400, 901, 902] (fun k => L.length - k.1) ⟨0, by simp⟩ (by simp) (by simp) ?_
  rintro ⟨k, hk1⟩
  rcases Nat.lt_or_ge k L.length with hkl | hkl
  · obtain ⟨s, hsk⟩ : ∃ s, L[k]? = some s := ⟨_, List.getElem?_eq_getElem hkl⟩
    obtain ⟨hkM, hskM⟩ := List.getElem?_eq_some_iff.1 hsk
    have hss := hmlL.2 s (List.mem_of_getElem? hsk)
    have hsuc := hwh.suc s (List.mem_of_getElem? hsk)
    have htk : ∀ f : Int → D, (L.map f).take (k + 1) = (L.map f).take k ++ [f s] := fun f => by
      rw [← List.map_take, ← List.map_take, take_snoc hkl, hskM]; simp
    simp [hkl]
    refine LoopVC.at { c : Nat // c ≤ 3 } (fun c => [(1, .dp [.d (rowsD a.next), .d (bsD a.ends)]), (2, .ptr 200 0), (3, .d (intsD L)), (4, .ptr 400 0), (5, iA k), (6, .sl 1 2100 0 c.1), (7, iA c.1)])
      (fun c => [(200, .bx [.nl, .nl]), (400, .bx [.sl 1 901 0 k, .sl 1 902 0 k]), (901, .ar 1 ((L.take k).map fun s => intsD (rowL a.go L s))), (902, .ar 1 ((L.take k).map fun s => bD (a.fin s))), (2100, .ar 1 (((rowL a.go L s).take c.1).map iD))]) [200, 400, 901, 902, 2100] (fun c => 3 - c.1) ⟨0, by simp⟩ (by simp) (by simp) ?_
    rintro ⟨c, hc⟩
    have hrl : (rowL a.go L s).length = 3 := by simp [rowL, suc]
    have hkn : s.toNat < a.next.length := by have := hss.1; have := hss.2; omega
    obtain ⟨g1, g2⟩ := okDf_row h hkn
    have hs1 := hss.1
    have hs2 := hss.2
    rcases Nat.lt_or_ge c 3 with hc3 | hc3
    · have a1 := getD_row (xs := a.next) (i := s.toNat) [] hkn
      have a2 := getD_row (xs := a.next.getD s.toNat []) (i := c) 0 (by omega)
      have hgo : a.go s c = (a.next.getD s.toNat []).getD c 0 := rfl
      have hin : a.go s c ∈ L := hsuc _ (mem_suc (by omega))
      have hix := idxI_idx hin
      have hrt : ((rowL a.go L s).map iD).take (c + 1) = ((rowL a.go L s).map iD).take c ++ [iD (L.idxOf (a.go s c))] := by
        rw [← List.map_take, ← List.map_take, take_snoc (by omega), List.map_append]
        simp [rowL, suc]
        match c, hc3 with
        | 0, _ => rfl
        | 1, _ => rfl
        | 2, _ => rfl
      rw [← hgo] at a2
      have hno : ((rowL a.go L s).take c).length = c := by simp; omega
      generalize a.go s c = t at *
      generalize a.next.getD s.toNat [] = nx at *
      have l3 : (c : Int) < 3 := by omega
      simp [l3]
      refine .one (sch [.pur 0, .pur 1, .pur 2, .pur 3, .pur 4, .pur 5, .pur 6, .pur 7, .pur 8, .pur 9, .pur 10, .pur 11, .pur 12, .eff 13 [0], .eff 14 [0], .eff 15 [], .eff 16 []]) (by kernel_rfl) ?_
      simp [hkM, hskM, hs1, hs2, a1, a2, g1, hc3, l3]
      refine .dval (c_l7Name L t (by omega)) rfl (by simp) rfl ?_
      rw [hix]
      simp [hrl]
      refine ⟨⟨by omega, by omega, by omega⟩, c + 1, .mk ?_ ?_, hc3, by omega⟩
      · simp; exact wrap64 (by omega) (by omega)
      · simp [hrt]
    · have : c = 3 := by omega
      subst this
      have b1 := fin_row h hss
      have hft : ∀ s, bD (a.fin s) = bD (a.fin s) := fun _ => rfl
      have hrt : List.take 3 ((rowL a.go L s).map iD) = (rowL a.go L s).map iD := List.take_of_length_le (by simp [hrl])
      have h1 := htk fun s => intsD (rowL a.go L s)
      have h2 := htk fun s => bD (a.fin s)
      simp [hrl]
      refine ⟨by omega, ?_⟩
      refine .one (sch [.pur 0, .pur 1, .pur 2, .pur 3, .pur 4, .pur 5, .pur 6, .pur 7, .pur 8, .pur 9, .eff 10 [0, 1], .eff 11 [], .pur 12, .eff 13 []]) (by kernel_rfl) ?_
      simp [hkM, hskM, b1, hs1]
      refine ⟨⟨by omega, by omega, by omega⟩, k + 1, .mk ?_ ?_, hkl, by omega⟩
      · simp; exact wrap64 (by omega) (by omega)
      · have h3 : List.take 3 (List.take 3 ((rowL a.go L s).map iD)) = (rowL a.go L s).map iD := by rw [hrt, hrt]
        simp [h1, h2, hrt]
  · have hkL : k = L.length := by omega
    simp [show ¬ (k : Int) < L.length by omega]
    refine ⟨by omega, autoL a.go a.fin L, ⟨?_, ?_⟩, k0, by rw [hL]; exact hk0, by rw [hL]⟩
    · rw [List.take_take, Nat.min_self, List.take_of_length_le (by simp; omega)]
      simp only [autoL, List.map_map]; rfl
    · rw [List.take_take, Nat.min_self, List.take_of_length_le (by simp; omega)]
      simp only [autoL, List.map_map]; rfl

theorem IsTrim.ok {a x : Df} (h : okDf a = true) (hx : IsTrim a x) : okDf x = true := by
  obtain ⟨k, hk, rfl⟩ := hx
  have := met_len_le h k
  have := okDf_len h
  exact autoL_ok a.fin (metK_whole hk) (by omega)
theorem IsTrim.lang {a x : Df} (hx : IsTrim a x) : Same (x.lang 0) (a.lang 0) := by
  obtain ⟨k, hk, rfl⟩ := hx
  have a0 : AtL (metK a.go 0 k) 0 0 := ⟨by omega, metK_head k⟩
  exact a0.same a.fin (metK_whole hk)
end Go.Fw
