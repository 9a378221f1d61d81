/- The law about useful states. -/
import Derived.Test.YtjnnalkjabenaaaQc
import Derived.Test.YtjnnalkjabenaaaOp
set_option linter.unusedSimpArgs false
set_option linter.unusedVariables false
namespace Go.Fw
open Go Go.Proofs
set_option linter.unusedSectionVars false
set_option linter.unnecessarySimpa false

/-- The flags of the states that are met and useful. -/
structure UsR (a : Df) (B : List Bool) : Prop where
  len : B.length = a.next.length
  is : ∀ q : Nat, q < a.next.length → (B.getD q false = true ↔ (∃ w, w.all isL = true ∧ a.run 0 w = q) ∧ usef a q)
theorem flags_ext {B C : List Bool} (hl : B.length = C.length) (h : ∀ q, q < B.length → (B.getD q false = true ↔ C.getD q false = true)) : B = C := by
  refine List.ext_getElem hl fun i h1 h2 => ?_
  have := h i h1
  rw [List.getD_eq_getElem?_getD, List.getElem?_eq_getElem h1, List.getD_eq_getElem?_getD, List.getElem?_eq_getElem h2] at this
  exact Bool.eq_iff_iff.2 this
theorem UsR.uniq {a : Df} {B C : List Bool} (hB : UsR a B) (hC : UsR a C) : B = C :=
  flags_ext (by rw [hB.len, hC.len]) fun q hq => by rw [hB.is q (by rw [← hB.len]; exact hq), hC.is q (by rw [← hB.len]; exact hq)]

/-- What is met is what letters lead to. -/
theorem met_run {a : Df} (h : okDf a = true) {k : Nat} (hk : (metK a.go 0 k).length ≤ k) (q : Int) : q ∈ metK a.go 0 k ↔ ∃ w, w.all isL = true ∧ a.run 0 w = q := by
  have hW := metK_whole hk
  constructor
  · refine metK_ind (p := fun q => ∃ w, w.all isL = true ∧ a.run 0 w = q) ⟨[], rfl, rfl⟩ (fun s ⟨w, h1, h2⟩ => ?_) k q
    have hs : ∀ c : Nat, c < 3 → ∃ w, w.all isL = true ∧ a.run 0 w = a.go s c := fun c hc => by
      obtain ⟨l1, l2⟩ := lt3_ok hc
      refine ⟨w ++ [lt3 c], by simp [h1, l1], ?_⟩
      rw [run_app, h2]
      show a.go s (ltr (lt3 c)) = _
      rw [l2]
    exact ⟨hs 0 (by omega), hs 1 (by omega), hs 2 (by omega)⟩
  · rintro ⟨w, h1, rfl⟩
    have key : ∀ (w : List UInt8) (s : Int), w.all isL = true → s ∈ metK a.go 0 k → a.run s w ∈ metK a.go 0 k := fun w => by
      induction w with
      | nil => exact fun s _ hs => hs
      | cons b w ih =>
        intro s hw hs
        simp only [List.all_cons, Bool.and_eq_true] at hw
        have hb := ltr_of hw.1
        exact ih _ hw.2 (hW.suc s hs _ (mem_suc (by omega)))
    exact key w 0 h1 (List.mem_of_getElem? hW.head)

def UsD (a : Df) (y : D) : Prop := ∃ B : List Bool, y = bsD B ∧ ((okDf a = true ∧ UsR a B) ∨ (okDf a = false ∧ B = []))
structure MK where
  B : List Bool
  k : Nat

set_option maxHeartbeats 800000 in
set_option maxRecDepth 100000 in
theorem c_sUsefulStates (a : Df) (hf : a.fine) : DCalls Try.prog 44 [.d a.d] (UsD a) := by
  refine dcalls_intro Ty.mixed Try.func44 rfl rfl rfl [1] (by kernel_rfl) (by simp) ?_
  simp [Df.d]
  refine .dval (c_sDfaValid a hf) rfl (by simp [Df.d]) rfl ?_
  simp
  refine ⟨fun hno => ⟨[], rfl, .inr ⟨hno, rfl⟩⟩, fun h => ?_⟩
  obtain ⟨n1, n2, n3⟩ := okDf_len h
  refine .freshS 1100 (s_l14Useful a h) (by omega) (by simp) rfl (by simp [Df.d]) ?_
  rintro _ _ ⟨rfl, U, rfl, hU, hC⟩
  have hUl := hU.len
  simp
  refine .ddat (c_l7Order a h) rfl (by simp [Df.d]) ?_
  rintro _ ⟨k0, hk0, rfl⟩
  have hml := met_len_le h k0
  have hmr := met_run h hk0
  generalize metK a.go 0 k0 = L at *
  simp
  refine LoopVC.at { g : MK // g.B.length = a.next.length ∧ g.k ≤ a.next.length ∧ ∀ q : Nat, q < a.next.length → (g.B.getD q false = true ↔ U.getD q false = true ∧ (q < g.k → (q : Int) ∈ L)) } (fun g => [(3, .sl 1 1100 0 a.next.length), (4, .d (intsD L)), (5, iA g.1.k)]) (fun g => [(1100, .ar 1 (g.1.B.map bD))]) [1100] (fun g => a.next.length - g.1.k) ⟨⟨U, 0⟩, hUl, Nat.zero_le _, fun q _ => ⟨fun h => ⟨h, fun h0 => absurd h0 (Nat.not_lt_zero q)⟩, fun h => h.1⟩⟩ (by simp [hUl]) (by simp) ?_
  rintro ⟨⟨B, k⟩, hBl, hk, hB⟩
  simp only at hBl hk hB
  rcases Nat.lt_or_ge k a.next.length with hkn | hkn
  · obtain ⟨v, b1, b2, b3, b4⟩ := flag_at hBl hkn
    have hany := idxI_any (fun x => decide (x = (k : Int))) L
    have hmem : L.any (fun x => decide (x = (k : Int))) = true ↔ (k : Int) ∈ L := by simp
    simp [hkn, b1, b2, b4]
    refine .flat (fun _ => c_l7Name L (k : Int) (by omega)) rfl (by simp) rfl (by simp) ?_
    rw [← hany] at hmem
    generalize idxI (fun x => decide (x = (k : Int))) L = z at *
    simp [hkn, b4]
    refine ⟨⟨B.set k (v && decide (0 ≤ z)), k + 1⟩, .mk (by simp; exact wrap64 (by omega) (by omega)) (by simp [List.map_set, bD]), ⟨by simp [hBl], hkn, fun q hq => ?_⟩, by simp only; omega⟩
    simp only
    have h1 := hB q hq
    by_cases e : k = q
    · subst e
      rw [b3] at h1
      rw [List.getElem?_set_self (by omega)]
      simp at h1 hmem ⊢
      rw [h1, hmem]
    · rw [List.getElem?_set_ne e]
      rw [List.getD_eq_getElem?_getD, List.getD_eq_getElem?_getD] at h1
      rw [h1]
      have : q < k + 1 ↔ q < k := by omega
      rw [this]
  · have : k = a.next.length := by omega
    subst this
    simp
    refine ⟨by omega, B, ?_, .inl ⟨h, hBl, fun q hq => ?_⟩⟩
    · rw [List.take_of_length_le (by rw [List.length_map]; omega)]
    · rw [hB q hq, useful_iff h hU hC hq, ← hmr]
      exact ⟨fun ⟨h1, h2⟩ => ⟨h2 hq, h1⟩, fun ⟨h1, h2⟩ => ⟨h2, fun _ => h1⟩⟩

theorem c_us1 {a : Df} (h : okDf a = true) {s c : Int} (hs : a.st s) (hc : 0 ≤ c ∧ c < 3) : DCalls Try.prog 78 [iA s, iA c, dpA a] fun y => y = iD (a.go s c) := by
  refine dcalls_intro Ty.mixed Try.func78 rfl rfl rfl [] (by kernel_rfl) (by simp) ?_
  have hk : s.toNat < a.next.length := by have := hs.1; have := hs.2; omega
  obtain ⟨g1, g2⟩ := okDf_row h hk
  have a1 := getD_row (xs := a.next) (i := s.toNat) [] hk
  have a2 := getD_row (xs := a.next.getD s.toNat []) (i := c.toNat) 0 (by omega)
  have hgo : a.go s c = (a.next.getD s.toNat []).getD c.toNat 0 := rfl
  rw [← hgo] at a2
  have s1 := hs.1
  have s2 := hs.2
  generalize a.go s c = t at *
  generalize a.next.getD s.toNat [] = nx at *
  have l2 : c.toNat < 3 := by omega
  simp [s1, s2, a1, a2, g1, hc, l2]
theorem c_us2 {a : Df} (h : okDf a = true) {s : Int} (hs : a.st s) : DCalls Try.prog 79 [iA s, dpA a] fun y => y = .bool (a.fin s) := by
  refine dcalls_intro Ty.mixed Try.func79 rfl rfl rfl [] (by kernel_rfl) (by simp) ?_
  have b1 := fin_row h hs
  have s1 := hs.1
  simp [b1, s1]

set_option maxHeartbeats 800000 in
set_option maxRecDepth 100000 in
theorem c_UsefulStates (a : Df) (hf : a.fine) : DCalls Try.prog 42 [.d a.d] (UsD a) := by
  refine dcalls_intro Ty.mixed Try.func42 rfl rfl rfl [1] (by kernel_rfl) (by simp) ?_
  simp [Df.d]
  refine .dval (c_DfaValid a hf) rfl (by simp [Df.d]) rfl ?_
  simp
  refine ⟨fun hno => ⟨[], rfl, .inr ⟨hno, rfl⟩⟩, fun h => ?_⟩
  obtain ⟨n1, n2, n3⟩ := okDf_len h
  have hex := c_exploredInt 0 a.next.length (by omega) (by omega) a.go a.fin a.st (st0 h) (fun s c hs hc => go_st h hs hc)
    (cloS Try.prog 78 [] [dpA a]) (cloS Try.prog 79 [] [dpA a])
    (fun s c hs hc K hK => ⟨_, c_us1 h hs hc, by rintro r rfl; rfl, by rintro r rfl; exact hK⟩)
    (fun s hs K hK => ⟨_, c_us2 h hs, by rintro r rfl; rfl, by rintro r rfl; exact hK⟩)
  refine .tdat hex rfl (by simp) ?_
  rintro _ (⟨k0, e1, e2, rfl⟩ | ⟨k0, e1, rfl⟩)
  · have hml := met_len_le h k0
    have hmr := met_run h e1
    generalize metK a.go 0 k0 = L at *
    simp [Df.d]
    refine .ddat (c_leading a h) rfl (by simp [Df.d]) ?_
    rintro _ ⟨U, rfl, hU, hC⟩
    have hUl := hU.len
    simp
    refine ⟨⟨by omega, by omega⟩, ?_⟩
    have hinit : ∀ q : Nat, q < a.next.length → ((List.replicate a.next.length false).getD q false = true ↔ (∃ j, j < 0 ∧ L[j]? = some (q : Int)) ∧ U.getD q false = true) := fun q hq => by
      constructor
      · intro hx
        rw [List.getD_eq_getElem?_getD, List.getElem?_replicate, if_pos hq] at hx
        cases hx
      · rintro ⟨⟨j, hj, _⟩, _⟩
        omega
    refine LoopVC.at { g : MK // g.B.length = a.next.length ∧ g.k ≤ L.length ∧ ∀ q : Nat, q < a.next.length → (g.B.getD q false = true ↔ (∃ j, j < g.k ∧ L[j]? = some (q : Int)) ∧ U.getD q false = true) } (fun g => [(6, .d (bsD U)), (7, .sl 1 2800 0 a.next.length), (29, .d (intsD L)), (30, iA L.length), (31, iA g.1.k)]) (fun g => [(2800, .ar 1 (g.1.B.map bD))]) [2800] (fun g => L.length - g.1.k) ⟨⟨List.replicate a.next.length false, 0⟩, by simp, Nat.zero_le _, hinit⟩ (by simp) (by simp [bD]) ?_
    rintro ⟨⟨X, i⟩, hXl, hi, hX⟩
    simp only at hXl hi hX
    rcases Nat.lt_or_ge i L.length with hiL | hiL
    · obtain ⟨s, hs⟩ : ∃ s, L[i]? = some s := ⟨_, List.getElem?_eq_getElem hiL⟩
      have hss := hml.2 s (List.mem_of_getElem? hs)
      obtain ⟨s, rfl⟩ : ∃ z : Nat, s = z := ⟨s.toNat, by have := hss.1; omega⟩
      have hsn : s < a.next.length := by have := hss.2; omega
      have hsg : ∀ h, L[i]'h = (s : Int) := fun h => (List.getElem?_eq_some_iff.1 hs).2
      obtain ⟨u, b1, b2, b3, b4⟩ := flag_at hUl hsn
      simp [hiL, hs, hsg, hsn, b1, b2, b4]
      refine ⟨by omega, ⟨X.set s u, i + 1⟩, .mk (by simp; exact wrap64 (by omega) (by omega)) (by simp [List.map_set]), ⟨by simp [hXl], hiL, fun q hq => ?_⟩, by simp only; omega⟩
      simp only
      have h1 := hX q hq
      by_cases e : s = q
      · subst e
        rw [List.getElem?_set_self (by omega), b1]
        simp only [Option.getD_some]
        exact ⟨fun hu => ⟨⟨i, by omega, hs⟩, hu⟩, fun hh => hh.2⟩
      · rw [List.getElem?_set_ne e]
        rw [List.getD_eq_getElem?_getD, List.getD_eq_getElem?_getD] at h1
        rw [h1]
        constructor
        · rintro ⟨⟨j, hj, hj2⟩, hu⟩
          exact ⟨⟨j, by omega, hj2⟩, hu⟩
        · rintro ⟨⟨j, hj, hj2⟩, hu⟩
          refine ⟨⟨j, ?_, hj2⟩, hu⟩
          rcases Nat.lt_or_ge j i with h2 | h2
          · exact h2
          · have : j = i := by omega
            subst this
            rw [hs] at hj2
            have := Option.some.inj hj2
            omega
    · have : i = L.length := by omega
      subst this
      simp
      refine ⟨by omega, X, by rw [List.take_of_length_le (by rw [List.length_map]; omega)], .inl ⟨h, hXl, fun q hq => ?_⟩⟩
      rw [hX q hq, useful_iff h hU hC hq, ← hmr]
      constructor
      · rintro ⟨⟨j, _, hj⟩, h2⟩
        exact ⟨List.mem_of_getElem? hj, h2⟩
      · rintro ⟨h1, h2⟩
        obtain ⟨j, hj⟩ := List.mem_iff_getElem?.1 h1
        exact ⟨⟨j, (List.getElem?_eq_some_iff.1 hj).1, hj⟩, h2⟩
  · have := (met_len_le h k0).1; omega

theorem c_sameFlags (A : List Bool) (hl : A.length ≤ 9223372036854775806) : DCalls Try.prog 43 [.d (bsD A), .d (bsD A)] fun y => y = .bool true := by
  refine dcalls_intro Ty.mixed Try.func43 rfl rfl rfl [] (by kernel_rfl) (by simp) ?_
  simp
  refine LoopVC.at { i : Nat // i ≤ A.length } (fun i => [(0, .d (bsD A)), (1, .d (bsD A)), (5, iA i.1)]) (fun _ => []) [] (fun i => A.length - i.1) ⟨0, by simp⟩ (by simp) (by simp) ?_
  rintro ⟨i, hi⟩
  rcases Nat.lt_or_ge i A.length with h | h
  · obtain ⟨v, b1, b2, b3, b4⟩ := flag_at (B := A) rfl h
    simp [h]
    refine .one (sch [.pur 0, .pur 1, .pur 2, .pur 3, .pur 4, .pur 5, .pur 6, .pur 7, .pur 8]) (by kernel_rfl) ?_
    simp [h, b1, b2]
    exact ⟨i + 1, .mk (by simp; exact wrap64 (by omega) (by omega)) (by simp), h, by omega⟩
  · simp [Nat.not_lt.2 h]

set_option maxRecDepth 100000 in
theorem c_DrawUsefulStates (code : List UInt8) : DCalls Try.prog 41 [.d (.list (codeD code))] fun y => ∃ a : Df, y = a.d ∧ a.tiny := by
  refine dcalls_intro Ty.mixed Try.func41 rfl rfl rfl [] (by kernel_rfl) (by simp) ?_
  simp
  refine .fresh 700 (c_l20Open code) (by omega) (by simp) rfl (by simp) ?_
  rintro _ ⟨code', rfl, hc⟩
  simp [rdB]
  refine .lend (b := rdB (codeD code') 0) (d_l20Dfa code' (by omega) 0 12 (by omega) (by omega) (by omega)) (by simp [rdB]) (by simp) rfl (by simp) ?_
  rintro _ _ ⟨q, rfl, h1, h2, a, rfl, ha⟩
  simp [rdB, Df.d]
  exact ⟨a, ⟨rfl, rfl⟩, ha⟩

set_option maxRecDepth 100000 in
theorem c_DrawWordRank (code : List UInt8) : DCalls Try.prog 45 [.d (.list (codeD code))] fun y => ∃ s, y = sD s ∧ s.length ≤ 9 := by
  refine dcalls_intro Ty.mixed Try.func45 rfl rfl rfl [] (by kernel_rfl) (by simp) ?_
  simp
  refine .fresh 700 (c_l20Open code) (by omega) (by simp) rfl (by simp) ?_
  rintro _ ⟨code', rfl, hc⟩
  simp [rdB]
  refine .lend (b := rdB (codeD code') 0) (d_l20Word code' (by omega) 0 9 (by omega) (by omega) (by omega)) (by simp [rdB]) (by simp) rfl (by simp) ?_
  rintro _ _ ⟨q, rfl, h1, h2, s, rfl, hs⟩
  simp [rdB]
  exact hs
end Go.Fw
