/- Laws about ways and costs. -/
import Derived.Test.YtfldfcibjkhpnaaLd
import Derived.Test.YtfldfcibjkhpnaaLe
import Derived.Test.YtfldfcibjkhpnaaLf
set_option linter.unusedSimpArgs false
set_option linter.unusedVariables false
namespace Go.Fw
open Go Go.Proofs

theorem c_FnExactWayCount (n : Int) (rs : List Rd) (s : List UInt8) (h1 : rs.length ≤ 9223372036854775807) (h2 : s.length ≤ 9223372036854775807) : DCalls Try.prog 5 [.d (roadsD n rs), sA s] fun y => y = .bool true := by
  refine dcalls_intro Ty.mixed Try.func5 rfl rfl rfl [2] (by kernel_rfl) (by simp) ?_
  simp [roadsD]
  intro hs
  refine .dval (c_szRoads n rs _) rfl (by simp) rfl ?_
  rw [wrap64 (by omega) (by omega)]
  simp
  intro hz
  have h3 : rs.length ≤ 1048576 := by
    split at hz <;> omega
  refine .ddat (c_toRoads n rs h3) rfl (by simp) ?_
  rintro _ rfl
  simp
  refine .dval (c_sWayCount n rs s h1 h2) rfl (by simp) rfl ?_
  simp
  refine .ddat (c_toRoads n rs h3) rfl (by simp) ?_
  rintro _ rfl
  simp [roadsD, rsD]
  refine .dval (c_WayCount n rs s h1 h2) rfl (by simp) rfl ?_
  simp
  refine .one (sch [.pur 0, .pur 1, .eff 2 [0], .eff 3 [], .pur 4]) (by kernel_rfl) ?_
  simp
  refine .ddat (c_toRoads n rs h3) rfl (by simp) ?_
  rintro _ rfl
  simp
  refine .dval (c_eqRoads n n rs rs h1) rfl (by simp) rfl ?_
  simp

theorem c_FnExactBestCost (n : Int) (rs : List Rd) (s : List UInt8) (h1 : rs.length ≤ 9223372036854775807) (h2 : s.length ≤ 9223372036854775807) : DCalls Try.prog 8 [.d (roadsD n rs), sA s] fun y => y = .bool true := by
  refine dcalls_intro Ty.mixed Try.func8 rfl rfl rfl [2] (by kernel_rfl) (by simp) ?_
  simp [roadsD]
  intro hs
  refine .dval (c_szRoads n rs _) rfl (by simp) rfl ?_
  rw [wrap64 (by omega) (by omega)]
  simp
  intro hz
  have h3 : rs.length ≤ 1048576 := by
    split at hz <;> omega
  refine .ddat (c_toRoads n rs h3) rfl (by simp) ?_
  rintro _ rfl
  simp
  refine .dval (c_sBestCost n rs s h1 h2) rfl (by simp) rfl ?_
  simp
  refine .ddat (c_toRoads n rs h3) rfl (by simp) ?_
  rintro _ rfl
  simp [roadsD, rsD]
  refine .dval (c_BestCost n rs s h1 h2) rfl (by simp) rfl ?_
  simp
  refine .one (sch [.pur 0, .pur 1, .eff 2 [0], .eff 3 [], .pur 4]) (by kernel_rfl) ?_
  simp
  refine .ddat (c_toRoads n rs h3) rfl (by simp) ?_
  rintro _ rfl
  simp
  refine .dval (c_eqRoads n n rs rs h1) rfl (by simp) rfl ?_
  simp

/-! ### More moves -/

theorem okRoads_snoc {n : Int} {rs : List Rd} {r : Rd} (h : okRoads n rs = true) (hl : rs.length < 60) (hr : r.bad n = false) : okRoads n (rs ++ [r]) = true := by
  simp only [okRoads, Bool.and_eq_true, decide_eq_true_eq, Bool.not_eq_true'] at h ⊢
  refine ⟨⟨h.1.1, by simp; omega⟩, ?_⟩
  rw [List.any_append, h.2]; simp [hr]

theorem nextC_more {N : Nat} {rs : List Rd} {a b : List Int} {l : Int} (r : Rd) (ha : a.length = N) (hb : b.length = N) (hrs : ∀ m ∈ rs ++ [r], m.f.toNat < N ∧ m.t.toNat < N ∧ 0 ≤ m.c)
    (hab : ∀ i, i < N → (0 ≤ a.getD i 0 → 0 ≤ b.getD i 0 ∧ b.getD i 0 ≤ a.getD i 0)) :
    ∀ i, i < N → (0 ≤ (nextC N rs a l).getD i 0 → 0 ≤ (nextC N (rs ++ [r]) b l).getD i 0 ∧ (nextC N (rs ++ [r]) b l).getD i 0 ≤ (nextC N rs a l).getD i 0) := by
  have gen : ∀ (qs : List Rd) (x y : List Int), (∀ m ∈ qs, m.f.toNat < N ∧ m.t.toNat < N ∧ 0 ≤ m.c) → x.length = N → y.length = N → (∀ i, i < N → (0 ≤ x.getD i 0 → 0 ≤ y.getD i 0 ∧ y.getD i 0 ≤ x.getD i 0)) →
      ∀ i, i < N → (0 ≤ (qs.foldl (stepC a l) x).getD i 0 → 0 ≤ (qs.foldl (stepC b l) y).getD i 0 ∧ (qs.foldl (stepC b l) y).getD i 0 ≤ (qs.foldl (stepC a l) x).getD i 0) := by
    intro qs
    induction qs with
    | nil => intro x y _ _ _ h; exact h
    | cons m qs ih =>
      intro x y hq hx hy h
      simp only [List.foldl_cons]
      have hm := hq m (by simp)
      refine ih _ _ (fun q hq' => hq q (by simp [hq'])) (by rw [stepC_len]; exact hx) (by rw [stepC_len]; exact hy) ?_
      have := stepC_more (a := a) (x := x) (y := y) (l := l) (m := m) (by omega) (by rw [hx]; exact h) b (by omega) (by omega) (by omega) hm.2.2 (by rw [ha]; exact hab)
      rw [hx] at this; exact this
  intro i hi h0
  have h1 := gen rs (List.replicate N (-1)) (List.replicate N (-1)) (fun m hm => hrs m (by simp [hm])) (by simp) (by simp) (fun i hi h => ⟨h, Int.le_refl _⟩) i hi h0
  have e : nextC N (rs ++ [r]) b l = stepC b l (rs.foldl (stepC b l) (List.replicate N (-1))) r := by
    unfold nextC; rw [List.foldl_append]; rfl
  rw [e]
  have ex : (nextC N rs a l).getD i 0 = (rs.foldl (stepC a l) (List.replicate N (-1))).getD i 0 := rfl
  rw [ex] at h0 ⊢
  generalize (rs.foldl (stepC a l) (List.replicate N (-1))).getD i 0 = x at *
  generalize hy : rs.foldl (stepC b l) (List.replicate N (-1)) = y at h1
  have hyl : y.length = N := by rw [← hy, foldC_len]; simp
  have hrr := hrs r (by simp)
  have hst : stepC b l y r = if r.l = l ∧ 0 ≤ b.getD r.f.toNat 0 ∧ (y.getD r.t.toNat 0 < 0 ∨ b.getD r.f.toNat 0 + r.c < y.getD r.t.toNat 0) then y.set r.t.toNat (b.getD r.f.toNat 0 + r.c) else y := rfl
  rw [hst]
  split
  · rename_i hc
    have : (y.set r.t.toNat (b.getD r.f.toNat 0 + r.c)).getD i 0 = if r.t.toNat = i then b.getD r.f.toNat 0 + r.c else y.getD i 0 := by
      simp only [List.getD_eq_getElem?_getD, List.getElem?_set]
      by_cases hki : r.t.toNat = i
      · subst hki; simp [show r.t.toNat < y.length by omega]
      · simp [hki]
    rw [this]
    split
    · rename_i hk; rw [hk] at hc; omega
    · exact h1
  · exact h1

theorem costs_more {N : Nat} {rs : List Rd} (r : Rd) (hrs : ∀ m ∈ rs ++ [r], m.f.toNat < N ∧ m.t.toNat < N ∧ 0 ≤ m.c) (s : List UInt8) :
    ∀ i, i < N → (0 ≤ (costsC N rs s).getD i 0 → 0 ≤ (costsC N (rs ++ [r]) s).getD i 0 ∧ (costsC N (rs ++ [r]) s).getD i 0 ≤ (costsC N rs s).getD i 0) := by
  induction s using snocInd with
  | nil => intro i hi h; exact ⟨h, Int.le_refl _⟩
  | snoc s b ih =>
    unfold costsC at ih ⊢
    rw [List.foldl_append, List.foldl_append]
    simp only [List.foldl_cons, List.foldl_nil]
    exact nextC_more r (costs_len N rs s) (costs_len N (rs ++ [r]) s) hrs ih

theorem bestC_more {n : Int} {rs : List Rd} {r : Rd} {s : List UInt8} (h : okRoads n rs = true) (hl : rs.length < 60) (hr : r.bad n = false) (hb : 0 ≤ bestC n rs s) : 0 ≤ bestC n (rs ++ [r]) s ∧ bestC n (rs ++ [r]) s ≤ bestC n rs s := by
  have h2 := okRoads_snoc h hl hr
  obtain ⟨n1, n2, _, hrs⟩ := okRoads_of h2
  have hw : wordOk s = true := by
    cases hw : wordOk s with
    | true => rfl
    | false => simp [bestC, hw] at hb
  simp only [bestC, h, h2, hw, Bool.and_self, if_true] at hb ⊢
  exact costs_more r (fun m hm => by have := hrs m hm; omega) s (n.toNat - 1) (by omega) hb

set_option maxRecDepth 100000 in
theorem c_FnRoadsMore (code more : List UInt8) (h1 : code.length ≤ 9223372036854775807) (h2 : more.length ≤ 9223372036854775807) : DCalls Try.prog 9 [.d (.list (codeD code)), .d (.list (codeD more))] fun y => y = .bool true := by
  refine dcalls_intro Ty.mixed Try.func9 rfl rfl rfl [] (by kernel_rfl) (by simp) ?_
  simp [codeD_len]
  intro hc hm
  refine .tdat (c_DrawBestCost code) rfl (by simp) ?_
  rintro _ ⟨n, rs, s, rfl, hr, hs⟩
  simp [roadsD, rsD]
  refine .dval (c_BestCost n rs s (by omega) (by omega)) rfl (by simp) rfl ?_
  simp
  refine .dval (c_sBestCost n rs s (by omega) (by omega)) rfl (by simp) rfl ?_
  simp
  refine .dval (c_sRoadsValid n rs (by omega)) rfl (by simp) rfl ?_
  simp
  refine ⟨fun hno => ?_, fun hv hb h60 => ?_⟩
  · refine .dval c_alive rfl (by simp) rfl ?_
    simp
  have hbad : Rd.bad n ⟨0, (more.length : Int).tmod 3, IntKind.i64.wrap (n - 1), (more.length : Int).tmod 50⟩ = false := by
    obtain ⟨n1, n2, _, _⟩ := okRoads_of hv
    rw [Rd.bad_eq, wrap64 (by omega) (by omega), Int.tmod_eq_emod_of_nonneg (by omega), Int.tmod_eq_emod_of_nonneg (by omega)]
    simp [inR]; omega
  have hmore := bestC_more (r := ⟨0, (more.length : Int).tmod 3, IntKind.i64.wrap (n - 1), (more.length : Int).tmod 50⟩) hv (by omega) hbad hb
  refine .cutAt Unit (fun _ => [(7, iA (bestC n rs s)), (9, iA (bestC n (rs ++ [Rd.mk 0 ((more.length : Int).tmod 3) (IntKind.i64.wrap (n - 1)) ((more.length : Int).tmod 50)]) s))]) (fun _ => []) [] (schA [.pur 0, .pur 1, .pur 3, .pur 4, .pur 6, .pur 10] (.alt 2 [0, 1, 3, 4, 6, 10] (schA [] (.alt 5 [0, 1, 6, 10] (sch [.eff 7 [0, 1, 3, 4, 10], .eff 8 [0, 1, 10], .pur 9, .eff 11 [], .pur 12]) 7 [0, 1, 3, 4, 10] (sch [.eff 5 [0, 1, 6, 10], .eff 8 [0, 1, 10], .pur 9, .eff 11 [], .pur 12]))) 7 [0, 1, 3, 4, 10] (sch [.eff 2 [0, 1, 3, 4, 6, 10], .eff 5 [0, 1, 6, 10], .eff 8 [0, 1, 10], .pur 9, .eff 11 [], .pur 12]))) (by kernel_rfl) ?_ ?_
  · have ht : ∀ r : Rd, [AV.d (D.agg [iD n, D.list (((rs.map Rd.d ++ [r.d]).drop 0).take (rs.length + 1))]), sA s] = [AV.d (roadsD n (rs ++ [r])), sA s] := fun r => by
      rw [List.drop_zero, List.take_of_length_le (by simp)]; simp [roadsD, rsD]
    simp [codeD_len, rsD, Rd.d]
    repeat' apply And.intro
    all_goals first
      | omega
      | (refine .dvalE (c_BestCost n (rs ++ [Rd.mk 0 ((more.length : Int).tmod 3) (IntKind.i64.wrap (n - 1)) ((more.length : Int).tmod 50)]) s (by simp; omega) (by omega)) rfl (ht (Rd.mk 0 ((more.length : Int).tmod 3) (IntKind.i64.wrap (n - 1)) ((more.length : Int).tmod 50))) (by simp) rfl ?_
         simp)
  intro _
  simp
  exact hmore
end Go.Fw
