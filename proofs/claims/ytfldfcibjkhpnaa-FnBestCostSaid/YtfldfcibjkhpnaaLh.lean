/- FnWayCount: ways are counted. -/
import Derived.Test.YtfldfcibjkhpnaaLg
set_option linter.unusedSimpArgs false
set_option linter.unusedVariables false
namespace Go.Fw
open Go Go.Proofs

theorem setD (y : List Int) {k : Nat} (v : Int) (hk : k < y.length) (i : Nat) : (y.set k v).getD i 0 = if k = i then v else y.getD i 0 := by
  simp only [List.getD_eq_getElem?_getD, List.getElem?_set]
  by_cases hki : k = i
  · subst hki; simp [hk]
  · simp [hki]

/-- One list is nowhere greater. -/
def LeD (x y : List Int) : Prop := x.length = y.length ∧ ∀ i, x.getD i 0 ≤ y.getD i 0
theorem stepW_le {a b x y : List Int} {l : Int} {m : Rd} (hab : LeD a b) (hxy : LeD x y) (ht : m.t.toNat < x.length) : LeD (stepW a l x m) (stepW b l y m) := by
  have h1 := hab.2 m.f.toNat
  have h2 := hxy.2 m.t.toNat
  refine ⟨by rw [stepW_len, stepW_len]; exact hxy.1, fun i => ?_⟩
  unfold stepW
  split
  · rw [setD x _ ht, setD y _ (by rw [← hxy.1]; exact ht)]
    split
    · omega
    · exact hxy.2 i
  · exact hxy.2 i
theorem foldW_le {a b : List Int} {l : Int} (hab : LeD a b) : ∀ (rs : List Rd) {x y : List Int}, (∀ m ∈ rs, m.t.toNat < x.length) → LeD x y → LeD (rs.foldl (stepW a l) x) (rs.foldl (stepW b l) y)
  | [], x, y, _, h => h
  | m :: r, x, y, hr, h => by
    simp only [List.foldl_cons]
    exact foldW_le hab r (fun q hq => by rw [stepW_len]; exact hr q (by simp [hq])) (stepW_le hab h (hr m (by simp)))
theorem nonneg_getD {xs : List Int} {B : Int} (h : Bd xs 0 B) (i : Nat) : 0 ≤ xs.getD i 0 := by
  rw [List.getD_eq_getElem?_getD]
  cases hi : xs[i]? with
  | none => simp
  | some v => exact (h v (List.mem_of_getElem? hi)).1
/-- A move more is no way less. -/
theorem counts_more {N : Nat} {rs : List Rd} (r : Rd) (hN : 1 ≤ N) (hrs : ∀ m ∈ rs ++ [r], m.f.toNat < N ∧ m.t.toNat < N) (hl : (rs ++ [r]).length ≤ 60) (s : List UInt8) : LeD (countsW N rs s) (countsW N (rs ++ [r]) s) := by
  induction s using snocInd with
  | nil => exact ⟨rfl, fun _ => Int.le_refl _⟩
  | snoc s b ih =>
    have hb := counts_bd (n := N) (rs := rs ++ [r]) hN hrs hl s
    have e1 : countsW N rs (s ++ [b]) = nextW N rs (countsW N rs s) (ltr b) := by unfold countsW; rw [List.foldl_append]; rfl
    have e2 : countsW N (rs ++ [r]) (s ++ [b]) = stepW (countsW N (rs ++ [r]) s) (ltr b) (rs.foldl (stepW (countsW N (rs ++ [r]) s) (ltr b)) (List.replicate N 0)) r := by
      unfold countsW; rw [List.foldl_append]
      show nextW N (rs ++ [r]) _ _ = _
      unfold nextW; rw [List.foldl_append]; rfl
    have h1 := foldW_le (l := ltr b) ih rs (x := List.replicate N 0) (y := List.replicate N 0) (fun m hm => by simpa using (hrs m (by simp [hm])).2) ⟨rfl, fun _ => Int.le_refl _⟩
    rw [e1, e2]
    refine ⟨by rw [stepW_len]; exact h1.1, fun i => Int.le_trans (h1.2 i) ?_⟩
    generalize rs.foldl (stepW (countsW N (rs ++ [r]) s) (ltr b)) (List.replicate N 0) = y at h1
    have hyl : y.length = N := by rw [← h1.1, foldW_len]; simp
    have hst : stepW (countsW N (rs ++ [r]) s) (ltr b) y r = if r.l = ltr b then y.set r.t.toNat (y.getD r.t.toNat 0 + (countsW N (rs ++ [r]) s).getD r.f.toNat 0) else y := rfl
    rw [hst]
    have h0 := nonneg_getD hb r.f.toNat
    split
    · rw [setD y _ (by rw [hyl]; exact (hrs r (by simp)).2)]
      split
      · rename_i hk; rw [hk]; omega
      · exact Int.le_refl _
    · exact Int.le_refl _

/-- How many moves have the letter. -/
def many (rs : List Rd) (l : Int) : Int := rs.foldl (fun k m => if m.l = l then k + 1 else k) 0
def prodW (rs : List Rd) (s : List UInt8) : Int := s.foldl (fun p b => p * many rs (ltr b)) 1
theorem counts_one {rs : List Rd} (hrs : ∀ m ∈ rs, m.f.toNat = 0 ∧ m.t.toNat = 0) (s : List UInt8) : countsW 1 rs s = [prodW rs s] := by
  induction s using snocInd with
  | nil => rfl
  | snoc s b ih =>
    have e1 : countsW 1 rs (s ++ [b]) = nextW 1 rs (countsW 1 rs s) (ltr b) := by unfold countsW; rw [List.foldl_append]; rfl
    have e2 : prodW rs (s ++ [b]) = prodW rs s * many rs (ltr b) := by unfold prodW; rw [List.foldl_append]; rfl
    rw [e1, ih, e2]
    generalize prodW rs s = p
    have gen : ∀ (qs : List Rd) (k : Int), (∀ m ∈ qs, m.f.toNat = 0 ∧ m.t.toNat = 0) → qs.foldl (stepW [p] (ltr b)) [p * k] = [p * qs.foldl (fun k m => if m.l = ltr b then k + 1 else k) k] := by
      intro qs
      induction qs with
      | nil => intro k _; rfl
      | cons m qs ih =>
        intro k hq
        have hm := hq m (by simp)
        simp only [List.foldl_cons]
        have : stepW [p] (ltr b) [p * k] m = [p * (if m.l = ltr b then k + 1 else k)] := by
          unfold stepW
          rw [hm.1, hm.2]
          split
          · simp [Int.mul_add]
          · rfl
        rw [this]
        exact ih _ fun q hq' => hq q (by simp [hq'])
    have := gen rs 0 hrs
    rw [Int.mul_zero] at this
    exact this
theorem many_bd (rs : List Rd) (l : Int) : 0 ≤ many rs l ∧ many rs l ≤ rs.length := by
  have gen : ∀ (qs : List Rd) (k : Int), k ≤ qs.foldl (fun k m => if m.l = l then k + 1 else k) k ∧ qs.foldl (fun k m => if m.l = l then k + 1 else k) k ≤ k + qs.length := by
    intro qs
    induction qs with
    | nil => intro k; simp
    | cons m qs ih =>
      intro k
      simp only [List.foldl_cons, List.length_cons]
      have h1 := ih (if m.l = l then k + 1 else k)
      by_cases hm : m.l = l
      · simp only [hm, if_true] at h1 ⊢; omega
      · simp only [hm, if_false] at h1 ⊢; omega
  have := gen rs 0
  unfold many; omega
theorem prodW_bd {rs : List Rd} (h : rs.length ≤ 60) (s : List UInt8) : 0 ≤ prodW rs s ∧ prodW rs s ≤ 60 ^ s.length := by
  induction s using snocInd with
  | nil => exact ⟨by simp [prodW], by simp [prodW]⟩
  | snoc s b ih =>
    have e2 : prodW rs (s ++ [b]) = prodW rs s * many rs (ltr b) := by unfold prodW; rw [List.foldl_append]; rfl
    have hm := many_bd rs (ltr b)
    rw [e2, List.length_append, List.length_singleton, Int.pow_succ]
    exact ⟨Int.mul_nonneg ih.1 hm.1, Int.le_trans (Int.mul_le_mul_of_nonneg_left hm.2 ih.1) (Int.le_trans (Int.mul_le_mul_of_nonneg_right ih.2 (by omega)) (Int.mul_le_mul_of_nonneg_left (by omega) (Int.le_of_lt (Int.pow_pos (by decide)))))⟩
theorem prodW_snoc (rs : List Rd) {s : List UInt8} {i : Nat} (h : i < s.length) : prodW rs (s.take (i + 1)) = prodW rs (s.take i) * many rs (ltr s[i]) := by
  unfold prodW; rw [foldl_take _ _ h]
theorem many_snoc (rs : List Rd) (l : Int) {j : Nat} (h : j < rs.length) : many (rs.take (j + 1)) l = if rs[j].l = l then many (rs.take j) l + 1 else many (rs.take j) l := by
  unfold many; rw [foldl_take _ _ h]

theorem okRoads_again {n : Int} {rs : List Rd} (h : okRoads n rs = true) (hl : rs.length < 60) {r : Rd} (hr : r ∈ rs) : okRoads n (rs ++ [r]) = true := by
  refine okRoads_snoc h hl ?_
  simp only [okRoads, Bool.and_eq_true, Bool.not_eq_true'] at h
  have := h.2
  rw [List.any_eq_false] at this
  simpa using this r hr
theorem wayC_nn {n : Int} {rs : List Rd} {s : List UInt8} (h : okRoads n rs = true) (hw : wordOk s = true) : 0 ≤ wayC n rs s := by
  obtain ⟨n1, n2, h60, hrs⟩ := okRoads_of h
  simp only [wayC, h, hw, Bool.and_self, if_true]
  exact nonneg_getD (counts_bd (n := n.toNat) (rs := rs) (by omega) (fun m hm => by have := hrs m hm; omega) h60 s) _
theorem wayC_ok {n : Int} {rs : List Rd} {s : List UInt8} (h : ¬ wayC n rs s < 0) : okRoads n rs = true ∧ wordOk s = true := by
  unfold wayC at h
  split at h
  · rename_i hh; simpa using hh
  · omega
theorem wayC_more {n : Int} {rs : List Rd} {s : List UInt8} (h : ¬ wayC n rs s < 0) (hl : rs.length < 60) {r : Rd} (hr : r ∈ rs) : wayC n rs s ≤ wayC n (rs ++ [r]) s := by
  obtain ⟨h1, hw⟩ := wayC_ok h
  have h2 := okRoads_again h1 hl hr
  obtain ⟨n1, n2, h60, hrs⟩ := okRoads_of h2
  simp only [wayC, h1, h2, hw, Bool.and_self, if_true]
  exact (counts_more r (by omega) (fun m hm => by have := hrs m hm; omega) h60 s).2 _

set_option maxRecDepth 100000 in
theorem c_FnWayCount (code : List UInt8) (h1 : code.length ≤ 9223372036854775807) : DCalls Try.prog 6 [.d (.list (codeD code))] fun y => y = .bool true := by
  refine dcalls_intro Ty.mixed Try.func6 rfl rfl rfl [] (by kernel_rfl) (by simp) ?_
  simp [codeD_len]
  intro hc
  refine .tdat (c_DrawWayCount code) rfl (by simp) ?_
  rintro _ ⟨n, rs, s, rfl, hr, hs⟩
  simp [roadsD, rsD]
  refine .dval (c_WayCount n rs s (by omega) (by omega)) rfl (by simp) rfl ?_
  simp
  refine .dval (c_sWayCount n rs s (by omega) (by omega)) rfl (by simp) rfl ?_
  simp
  refine ⟨fun hneg => ?_, fun hpos => ?_⟩
  · have hm1 : wayC n rs s = -1 := by
      unfold wayC at hneg ⊢
      split at hneg
      · rename_i hh
        have hh2 : okRoads n rs = true ∧ wordOk s = true := by simpa using hh
        have := wayC_nn hh2.1 hh2.2
        unfold wayC at this
        rw [if_pos hh] at this; omega
      · rename_i hh; rw [if_neg hh]
    simp [hm1]
    refine .flat (fun _ => c_alive) rfl (by simp) rfl (by simp) ?_
    simp
  obtain ⟨hv, hw⟩ := wayC_ok (n := n) (rs := rs) (s := s) (by omega)
  obtain ⟨hn1, hn2, hr60, hrs⟩ := okRoads_of hv
  have hs8 : (s.length : Int) ≤ 8 := letters_len hw
  refine ⟨fun hn => ?_, fun hn => ?_⟩
  · subst hn
    refine LoopVC.at { i : Nat // i ≤ s.length } (fun i => [(3, .ptr 300 0), (4, sA s), (5, iA (wayC 1 rs s)), (6, iA (prodW rs (s.take i.1))), (7, iA i.1)]) (fun _ => [(300, .bx [iA 1, .d (rsD rs)])]) [300] (fun i => s.length - i.1) ⟨0, by simp⟩ (by simp [prodW]) (by simp [rsD]) ?_
    rintro ⟨i, hi⟩
    rcases Nat.lt_or_ge i s.length with h | h
    · simp [h]
      refine LoopVC.at { j : Nat // j ≤ rs.length } (fun j => [(3, .ptr 300 0), (4, sA s), (5, iA (wayC 1 rs s)), (6, iA (prodW rs (s.take i))), (7, iA i), (8, iA (many (rs.take j.1) (ltr s[i]))), (9, iA j.1)]) (fun _ => [(300, .bx [iA 1, .d (rsD rs)])]) [300] (fun j => rs.length - j.1) ⟨0, by simp⟩ (by simp [many]) (by simp) ?_
      rintro ⟨j, hj⟩
      have hmb := many_bd (rs.take j) (ltr s[i])
      have htl : (rs.take j).length ≤ 60 := by simp; omega
      rcases Nat.lt_or_ge j rs.length with hj' | hj'
      · have hms := many_snoc rs (ltr s[i]) hj'
        simp [hj', rsD]
        refine .one (sch [.pur 0, .pur 1, .pur 2, .pur 3, .pur 4, .pur 5, .pur 6, .pur 7, .pur 8, .pur 9, .pur 10, .pur 11]) (by kernel_rfl) ?_
        simp [hj', h, rsD, Rd.d, sub_ltr]
        refine ⟨fun he => ?_, fun he => ?_⟩
        · refine ⟨j + 1, .mk (by simp [hms, he, rsD]; exact ⟨wrap64 (by omega) (by omega), wrap64 (by omega) (by omega)⟩) (by simp [rsD]), hj', by omega⟩
        · refine ⟨j + 1, .mk (by simp [hms, he, rsD]; exact wrap64 (by omega) (by omega)) (by simp [rsD]), hj', by omega⟩
      · have hj2 : rs.take j = rs := List.take_of_length_le (by omega)
        have hpb := prodW_bd (rs := rs) (by omega) (s.take (i + 1))
        have hp8 := pow60_le (n := (s.take (i + 1)).length) (by simp; omega)
        rw [prodW_snoc rs h] at hpb
        simp [Nat.not_lt.2 hj', rsD, hj2]
        refine ⟨i + 1, .mk (by simp [rsD]; exact ⟨by rw [prodW_snoc rs h]; exact wrap64 (by omega) (by omega), wrap64 (by omega) (by omega)⟩) (by simp [rsD]), h, by omega⟩
    · have hi' : i = s.length := by omega
      subst hi'
      have hone := counts_one (rs := rs) (fun m hm => by have := hrs m hm; omega) s
      simp [wayC, hv, hw, hone]
  · intro h0 h60
    obtain ⟨r0, rt, rfl⟩ : ∃ r0 rt, rs = r0 :: rt := by
      cases rs with
      | nil => simp at h0
      | cons a b => exact ⟨a, b, rfl⟩
    have hmore := wayC_more (n := n) (rs := r0 :: rt) (s := s) (by omega) (by simp at hr60 h60 ⊢; omega) (r := r0) (by simp)
    have ht : [AV.d (D.agg [iD n, D.list (((r0.d :: (rt.map Rd.d ++ [r0.d])).drop 0).take (rt.length + 1 + 1))]), sA s] = [AV.d (roadsD n (r0 :: rt ++ [r0])), sA s] := by
      rw [List.drop_zero, List.take_of_length_le (by simp)]; simp [roadsD, rsD]
    refine .one (schA [.pur 0, .pur 1, .pur 3, .pur 4, .pur 6, .pur 7, .pur 8, .pur 9, .pur 13, .pur 15] (.alt 2 [0, 1, 3, 4, 6, 7, 8, 9, 13, 15] (schA [] (.alt 5 [0, 1, 6, 7, 8, 9, 13, 15] (sch [.eff 10 [0, 1, 3, 4, 13, 15], .eff 11 [0, 1, 13, 15], .pur 12, .eff 14 [15], .pur 16, .pur 17]) 10 [0, 1, 3, 4, 13, 15] (sch [.eff 5 [0, 1, 6, 7, 8, 9, 13, 15], .eff 11 [0, 1, 13, 15], .pur 12, .eff 14 [15], .pur 16, .pur 17]))) 10 [0, 1, 3, 4, 13, 15] (sch [.eff 2 [0, 1, 3, 4, 6, 7, 8, 9, 13, 15], .eff 5 [0, 1, 6, 7, 8, 9, 13, 15], .eff 11 [0, 1, 13, 15], .pur 12, .eff 14 [15], .pur 16, .pur 17]))) (by kernel_rfl) ?_
    simp [rsD, Rd.d]
    simp at hr60 h60
    repeat' apply And.intro
    all_goals first
      | omega
      | (refine .dvalE (c_WayCount n (r0 :: rt ++ [r0]) s (by simp; omega) (by omega)) rfl ht (by simp) rfl ?_
         simp
         simpa using hmore)
end Go.Fw
