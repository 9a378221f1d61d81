/- The program's classes of states, and its smallest automaton. -/
import Derived.Test.YteenfgdemklhcaaOn
set_option linter.unusedSimpArgs false
set_option linter.unusedVariables false
namespace Go.Fw
open Go Go.Proofs
set_option linter.unusedSectionVars false
set_option linter.unnecessarySimpa false

theorem rep_cons {n k : Nat} (h : k < n) : List.replicate (n - k) (iD 0) = iD 0 :: List.replicate (n - (k + 1)) (iD 0) := by
  rw [show n - k = n - (k + 1) + 1 by omega, List.replicate_succ]

theorem mid_get {xs : List Int} {k : Nat} (hk : xs.length = k) (v : D) (R : List D) : (xs.map iD ++ v :: R)[k]? = some v ∧ (∀ h, (xs.map iD ++ v :: R)[k]'h = v) ∧ ∀ w : D, (xs.map iD ++ v :: R).set k w = xs.map iD ++ w :: R := by
  have h1 : (xs.map iD ++ v :: R)[k]? = some v := by rw [List.getElem?_append_right (by simp; omega)]; simp [hk]
  refine ⟨h1, fun h => (List.getElem?_eq_some_iff.1 h1).2, fun w => ?_⟩
  rw [List.set_append_right _ _ (by simp; omega)]
  simp [hk]

set_option maxRecDepth 100000 in
theorem c_sameStates (a : Df) (h : okDf a = true) : DCalls Try.prog 74 [.d a.d] fun r => ∃ cl, r = intsD cl ∧ ClsL a cl := by
  refine dcalls_intro Ty.mixed Try.func74 rfl rfl rfl [1] (by kernel_rfl) (by simp) ?_
  obtain ⟨n1, n2, n3⟩ := okDf_len h
  simp [Df.d]
  refine ⟨by omega, ?_⟩
  refine LoopVC.at { g : Nat × List Int // g.1 ≤ a.next.length ∧ Fst a 0 g.1 g.2 } (fun g => [(1, dpA a), (3, .sl 1 1100 0 a.next.length), (13, iA a.next.length), (14, iA g.1.1)])
    (fun g => [(1100, .ar 1 ((g.1.2 ++ List.replicate (a.next.length - g.1.1) 0).map iD))]) [1100] (fun g => a.next.length - g.1.1) ⟨(0, []), by simp, ⟨rfl, by simp⟩⟩ (by simp) (by simp) ?_
  rintro ⟨⟨k, xs⟩, hk, hx⟩
  simp only at hk hx
  have hxl := hx.len
  rcases Nat.lt_or_ge k a.next.length with hkn | hkn
  · have hfm := fst_mark h hkn
    have hsn := hx.snoc hfm
    have hke : k < a.ends.length := by omega
    have b0 := getD_row (xs := a.ends) (i := k) false hke
    have hfk : a.fin k = a.ends.getD k false := rfl
    have hrep := rep_cons hkn
    have hix := c_IndexB a.ends (a.fin k) (by omega)
    rw [← hfk] at b0
    generalize a.fin k = fk at *
    generalize idxI (fun x => decide (x = fk)) a.ends = w at *
    simp [hkn]
    refine .one (sch [.pur 0, .pur 1, .pur 2, .pur 3, .pur 4, .pur 5, .pur 6, .pur 7, .pur 8, .eff 9 [0, 1], .pur 10, .eff 11 []]) (by kernel_rfl) ?_
    simp [hke, b0]
    refine .dval hix rfl (by simp) rfl ?_
    simp [hxl, hkn]
    refine ⟨by omega, k + 1, xs ++ [w], .mk ?_ ?_, ⟨hkn, hsn⟩, by omega⟩
    · simp; exact wrap64 (by omega) (by omega)
    · simp [hrep]
  · have : k = a.next.length := by omega
    subst this
    have hlv := hx.lev
    simp
    refine LoopVC.wk (Wk.frz 3 rfl (by simp [hxl])) ?_
    refine LoopVC.at { s : LvI a // s.ok } (fun s => [(1, dpA a), (3, .d (intsD s.1.cl)), (5, .d (.bool s.1.chg))])
      (fun _ => []) [] (fun s => s.1.mu) ⟨⟨0, xs, true⟩, hlv, by simp⟩ (by simp; exact List.take_of_length_le (by simp [hxl])) (by simp) ?_
    rintro ⟨⟨m, cl, chg⟩, hc2, hc3⟩
    simp only at hc2 hc3
    have hcn := hc2.len
    cases chg with
    | false =>
      have hst := hc3 rfl
      simp
      exact ⟨cl, rfl, hc2.done h hst⟩
    | true =>
      simp [hcn]
      refine ⟨by omega, ?_⟩
      refine LoopVC.at { g : Nat × List Int // g.1 ≤ a.next.length ∧ Fst a (m + 1) g.1 g.2 } (fun g => [(1, dpA a), (3, .d (intsD cl)), (6, .sl 1 3200 0 a.next.length), (34, iA a.next.length), (35, iA g.1.1)])
        (fun g => [(3200, .ar 1 ((g.1.2 ++ List.replicate (a.next.length - g.1.1) 0).map iD))]) [3200] (fun g => a.next.length - g.1.1) ⟨(0, []), by simp, ⟨rfl, by simp⟩⟩ (by simp) (by simp) ?_
      rintro ⟨⟨k, xs⟩, hk, hx⟩
      simp only at hk hx
      have hxl := hx.len
      rcases Nat.lt_or_ge k a.next.length with hkn | hkn
      · simp [hkn]
        have hrep := rep_cons hkn
        refine LoopVC.at { o : Nat // o ≤ k ∧ ∀ i : Nat, i < o → finerB a cl i k = false } (fun o => [(1, dpA a), (3, .d (intsD cl)), (6, .sl 1 3200 0 a.next.length), (7, iA k), (34, iA a.next.length), (35, iA k)])
          (fun o => [(3200, .ar 1 ((xs ++ [(o.1 : Int)] ++ List.replicate (a.next.length - (k + 1)) 0).map iD))]) [3200] (fun o => k - o.1) ⟨0, by simp⟩ (by simp) (by simp [hrep]) ?_
        rintro ⟨o, ho, hoi⟩
        have hon : o < a.next.length := by omega
        obtain ⟨wo, b5, b5', e5⟩ := getD_ex (xs := cl) (i := o) (by omega)
        obtain ⟨wk, b6, b6', e6⟩ := getD_ex (xs := cl) (i := k) (by omega)
        have hsr := c_sameRow a h cl hcn o k hon hkn
        have hfb : finerB a cl o k = (decide (wo = wk) && sameRowB a cl o k) := by
          unfold finerB; simp only [Int.toNat_natCast, e5, e6]
        generalize sameRowB a cl o k = sr at *
        simp
        refine .one (sch [.pur 0, .pur 1, .pur 2, .pur 3, .pur 4, .pur 5, .pur 6, .pur 7, .pur 8, .pur 9, .pur 10, .pur 11, .pur 12, .pur 13, .pur 14, .pur 15, .pur 16, .pur 17, .pur 18, .pur 19, .eff 20 [], .pur 21, .pur 22]) (by kernel_rfl) ?_
        have hmg := mid_get hxl (iD o) (List.replicate (a.next.length - (k + 1)) (iD 0))
        have hkl : k < xs.length + (a.next.length - (k + 1) + 1) := by omega
        have hwo : IntKind.i64.wrap ((o : Int) + 1) = ((o + 1 : Nat) : Int) := by rw [wrap64 (by omega) (by omega)]; omega
        simp [hkl, hkn, hon, hcn, b5, b5', b6, b6', hmg]
        refine .flat (fun _ => hsr) rfl (by simp [Df.d]) rfl (by simp) ?_
        simp [hkl, hkn, hmg, hwo]
        have hstep : finerB a cl o k = false → o + 1 ≤ k ∧ ∀ i : Nat, i < o + 1 → finerB a cl i k = false := fun hf => by
          have hself : finerB a cl k k = true := (hc2.cls.finer h (st_nat hkn) (st_nat hkn)).2 fun _ _ _ => rfl
          have hok : o ≠ k := fun e => by subst e; rw [hself] at hf; cases hf
          refine ⟨by omega, fun i hi => ?_⟩
          rcases Nat.lt_or_ge i o with h1 | h1
          · exact hoi i h1
          · have : i = o := by omega
            subst this; exact hf
        have hhit : finerB a cl o k = true → FstK a (m + 1) k o := fun hf => by
          refine ⟨st_nat hon, by omega, (hc2.cls.finer h (st_nat hon) (st_nat hkn)).1 hf, fun r hr hs => ?_⟩
          rcases Int.lt_or_le r o with h1 | h1
          · have h2 := hoi r.toNat (by have := hr.1; omega)
            rw [Int.toNat_of_nonneg hr.1] at h2
            have h3 := (hc2.cls.finer h hr (st_nat hkn)).2 hs
            rw [h2] at h3; cases h3
          · exact h1
        refine ⟨fun hno => ?_, fun h1 h2 => ?_⟩
        · have hf : finerB a cl o k = false := by
            rw [hfb]
            rcases hno with hno | hno
            · simp [hno]
            · simp [hno]
          obtain ⟨s1, s2⟩ := hstep hf
          refine ⟨o + 1, .mk (by simp) (by simp), ⟨s1, s2⟩, by omega⟩
        · have hf : finerB a cl o k = true := by rw [hfb, h1, h2]; simp
          refine ⟨k + 1, xs ++ [(o : Int)], .mk ?_ ?_, ⟨hkn, hx.snoc (hhit hf)⟩, by omega⟩
          · simp; exact wrap64 (by omega) (by omega)
          · simp
      · have : k = a.next.length := by omega
        subst this
        have hlv := hx.lev
        simp
        refine .dvalE (c_EqualI xs cl (by omega) (by omega)) rfl (by simp; exact List.take_of_length_le (by simp [hxl])) (by simp [hxl]) rfl ?_
        simp
        refine ⟨⟨m + 1, xs, !decide (xs = cl)⟩, (Wk.frz 3 rfl (by simp [hxl])).trans (.mk ?_ (by simp)), ⟨hlv, fun hbf => ?_⟩, ?_⟩
        · simp; exact List.take_of_length_le (by simp [hxl])
        · have e : xs = cl := by simpa using hbf
          subst e
          exact (stab_eq hc2 hlv).up h
        · have h1 := hc2.up hlv
          have h2 := hlv.hi h
          have h3 := hc2.lo
          have h4 := hlv.lo
          by_cases e : xs = cl
          · simp [LvI.mu, e]
          · have : cl.sum ≠ xs.sum := fun e' => e (h1.2 e').symm
            simp [LvI.mu, e]; omega

set_option maxRecDepth 100000 in
theorem c_minimize (a : Df) (h : okDf a = true) : DCalls Try.prog 32 [.d a.d] fun r => ∃ y : Df, r = y.d ∧ IsMin a y := by
  refine dcalls_intro Ty.mixed Try.func32 rfl rfl rfl [1] (by kernel_rfl) (by simp) ?_
  obtain ⟨n1, n2, n3⟩ := okDf_len h
  simp [Df.d]
  refine .ddat (c_sameStates a h) rfl (by simp [Df.d]) ?_
  rintro _ ⟨cl, rfl, hcl⟩
  have hz := hcl.zero h
  have hcn := hcl.len
  have hex := c_exploredInt 0 a.next.length (by omega) (by omega) (fun s c => cl.getD (a.go s c).toNat 0) a.fin a.st (st0 h) (fun s c hs hc => hcl.cls.st _ (go_st h hs hc))
    (cloS Try.prog 75 [] [.dp [.d (intsD cl)], dpA a]) (cloS Try.prog 76 [] [dpA a])
    (fun s c hs hc K hK => ⟨_, c_min1 h hcl hs hc, by rintro r rfl; rfl, by rintro r rfl; exact hK⟩)
    (fun s hs K hK => ⟨_, c_min2 h hs, by rintro r rfl; rfl, by rintro r rfl; exact hK⟩)
  have hfin : ∀ r, ((∃ k, (metK (fun s c => cl.getD (a.go s c).toNat 0) 0 k).length ≤ k ∧ (metK (fun s c => cl.getD (a.go s c).toNat 0) 0 k).length ≤ a.next.length ∧ r = [(autoL (fun s c => cl.getD (a.go s c).toNat 0) a.fin (metK (fun s c => cl.getD (a.go s c).toNat 0) 0 k)).d, .list ((metK (fun s c => cl.getD (a.go s c).toNat 0) 0 k).map iD), .bool true]) ∨
      (∃ k, a.next.length < (metK (fun s c => cl.getD (a.go s c).toNat 0) 0 k).length ∧ r = [(Df.mk [] []).d, .list [], .bool false])) → ∃ (y : Df) (u v : D), r = [y.d, u, v] ∧ IsMin a y := fun r hr => by
    have e : cl.getD (Int.toNat 0) 0 = 0 := hz
    rcases hr with ⟨k, e1, e2, rfl⟩ | ⟨k, e1, rfl⟩
    · have hcan := canon_of_classes h hcl.cls (nx := fun s c => cl.getD (a.go s c).toNat 0) (fun q c _ _ => rfl) (k := k) (by rw [e]; exact e1) (by rw [e]; omega) (fin := a.fin) (fun q _ => rfl)
      rw [e] at hcan
      exact ⟨_, _, _, rfl, hcan⟩
    · have := (metK_bound h (nx := fun s c => cl.getD (a.go s c).toNat 0) (st0 h) (fun q c hq hc => hcl.cls.st _ (go_st h hq hc)) k).1
      omega
  obtain ⟨v0, d1, d2, d3⟩ := getD_ex (xs := cl) (i := 0) (by omega)
  rw [hz] at d3
  subst d3
  generalize (fun (s c : Int) => cl.getD (a.go s c).toNat 0) = nx at *
  simp
  refine .pre (Wk.look 3 rfl (by simp)) ?_
  refine .one (schA [.pur 0, .pur 1, .pur 2, .pur 3, .pur 4, .pur 5, .pur 6, .pur 7] (.alt 8 [] (sch [.pur 9, .pur 10, .pur 11, .pur 12, .eff 13 [0, 1, 2, 3, 4, 5, 6, 7, 9, 10, 11, 12], .eff 14 [11, 12], .pur 15, .pur 16]) 13 [0, 1, 2, 3, 4, 5, 6, 7] (sch [.eff 8 [], .pur 9, .pur 10, .pur 11, .pur 12, .eff 14 [11, 12], .pur 15, .pur 16]))) (by kernel_rfl) ?_
  simp [hcn, d1, d2]
  refine ⟨by omega, ?_, by omega, ?_⟩
  · refine .tdat hex rfl (by simp) ?_
    intro r hr
    obtain ⟨y, u, v, rfl, hy⟩ := hfin r hr
    simp [Df.d, hcn, d1, d2]
    exact ⟨by omega, y, ⟨rfl, rfl⟩, hy⟩
  · refine .tdat hex rfl (by simp) ?_
    intro r hr
    obtain ⟨y, u, v, rfl, hy⟩ := hfin r hr
    simp [Df.d, hcn, d1, d2]
    exact ⟨y, ⟨rfl, rfl⟩, hy⟩

end Go.Fw
