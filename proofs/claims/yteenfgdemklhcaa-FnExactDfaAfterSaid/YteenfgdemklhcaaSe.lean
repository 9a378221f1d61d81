/- What may follow a word: the smallest automaton that begins elsewhere, on both sides. -/
import Derived.Test.YteenfgdemklhcaaOr
import Derived.Test.YteenfgdemklhcaaRc
set_option linter.unusedSimpArgs false
set_option linter.unusedVariables false
namespace Go.Fw
open Go Go.Proofs
set_option linter.unusedSectionVars false
set_option linter.unnecessarySimpa false

theorem c_from1 {a : Df} (h : okDf a = true) {s c : Int} (hs : a.st s) (hc : 0 ≤ c ∧ c < 3) : DCalls Try.prog 71 [iA s, iA c, dpA a] fun y => y = iD (a.go s c) := by
  refine dcalls_intro Ty.mixed Try.func71 rfl rfl rfl [] (by kernel_rfl) (by simp) ?_
  have hk : s.toNat < a.next.length := by have := hs.1; have := hs.2; omega
  obtain ⟨g1, g2⟩ := okDf_row h hk
  have a1 := getD_row (xs := a.next) (i := s.toNat) [] hk
  have a2 := getD_row (xs := a.next.getD s.toNat []) (i := c.toNat) 0 (by omega)
  have hgo : a.go s c = (a.next.getD s.toNat []).getD c.toNat 0 := rfl
  rw [← hgo] at a2
  have s1 := hs.1
  have s2 := hs.2
  generalize a.go s c = t at *
  generalize a.next.getD s.toNat [] = nx at *
  have l2 : c.toNat < 3 := by omega
  simp [s1, s2, a1, a2, g1, hc, l2]
theorem c_from2 {a : Df} (h : okDf a = true) {s : Int} (hs : a.st s) : DCalls Try.prog 72 [iA s, dpA a] fun y => y = .bool (a.fin s) := by
  refine dcalls_intro Ty.mixed Try.func72 rfl rfl rfl [] (by kernel_rfl) (by simp) ?_
  have b1 := fin_row h hs
  have s1 := hs.1
  simp [b1, s1]
/-- Begins with another state. -/
def FromIs (a : Df) (q : Int) (x : Df) : Prop := okDf x = true ∧ Same (x.lang 0) (a.lang q)
theorem c_from (a : Df) (q : Int) (h : okDf a = true) (hq : a.st q) : DCalls Try.prog 30 [.d a.d, iA q] fun r => ∃ x : Df, r = x.d ∧ FromIs a q x := by
  refine dcalls_intro Ty.mixed Try.func30 rfl rfl rfl [2] (by kernel_rfl) (by simp) ?_
  obtain ⟨n1, n2, n3⟩ := okDf_len h
  have hex := c_exploredInt q a.next.length (by omega) (by omega) a.go a.fin a.st hq (fun s c hs hc => go_st h hs hc)
    (cloS Try.prog 71 [] [dpA a]) (cloS Try.prog 72 [] [dpA a])
    (fun s c hs hc K hK => ⟨_, c_from1 h hs hc, by rintro r rfl; rfl, by rintro r rfl; exact hK⟩)
    (fun s hs K hK => ⟨_, c_from2 h hs, by rintro r rfl; rfl, by rintro r rfl; exact hK⟩)
  have hbd : ∀ k, (metK a.go q k).length ≤ a.next.length := fun k => (metK_bound h (nx := a.go) hq (fun _ _ hq hc => go_st h hq hc) k).1
  simp [Df.d]
  refine .tdat hex rfl (by simp) ?_
  rintro _ (⟨k, e1, e2, rfl⟩ | ⟨k, e1, rfl⟩)
  · have hw := metK_whole e1
    simp [Df.d]
    exact ⟨_, ⟨rfl, rfl⟩, autoL_ok a.fin hw (by omega), AtL.same a.fin hw ⟨by omega, hw.head⟩⟩
  · have := hbd k; omega

/-- What follows a word. -/
def AfterIs (a : Df) (s : List UInt8) (x : Df) : Prop :=
  (okDf a = true ∧ wordOk s = true ∧ Canon x ∧ Same (x.lang 0) (a.lang (a.run 0 s))) ∨ (¬ (okDf a = true ∧ wordOk s = true) ∧ x = ⟨[], []⟩)
theorem AfterIs.uniq {a x y : Df} {s : List UInt8} (h : AfterIs a s x) (h' : AfterIs a s y) : x = y := by
  rcases h with ⟨h1, h2, h3, h4⟩ | ⟨h1, rfl⟩ <;> rcases h' with ⟨g1, g2, g3, g4⟩ | ⟨g1, rfl⟩
  · exact h3.uniq g3 (h4.trans g4.symm)
  · exact absurd ⟨h1, h2⟩ g1
  · exact absurd ⟨g1, g2⟩ h1
  · rfl
theorem AfterIs.fine {a x : Df} {s : List UInt8} (h : AfterIs a s x) : x.fine := by
  rcases h with ⟨_, _, h3, _⟩ | ⟨_, rfl⟩
  · exact fine_of_okDf h3.ok
  · exact ⟨by simp, by simp, by simp⟩
theorem AfterIs.slim {a x : Df} {s : List UInt8} (h : AfterIs a s x) : x.slim := by
  rcases h with ⟨_, _, h3, _⟩ | ⟨_, rfl⟩
  · exact slim_of h3.ok
  · exact slim_nil
theorem AfterIs.ok {a x : Df} {s : List UInt8} (h : AfterIs a s x) (h1 : okDf a = true) (h2 : wordOk s = true) : Canon x ∧ Same (x.lang 0) (a.lang (a.run 0 s)) := by
  rcases h with ⟨_, _, h⟩ | ⟨h, _⟩
  · exact h
  · exact absurd ⟨h1, h2⟩ h

set_option maxRecDepth 100000 in
theorem c_DfaAfter (a : Df) (s : List UInt8) (hf : a.fine) (hsl : s.length ≤ 9223372036854775807) : DCalls Try.prog 9 [.d a.d, sA s] fun r => ∃ x : Df, r = x.d ∧ AfterIs a s x := by
  refine dcalls_intro Ty.mixed Try.func9 rfl rfl rfl [2] (by kernel_rfl) (by simp) ?_
  simp [Df.d]
  refine .dval (c_DfaValid a hf) rfl (by simp [Df.d]) rfl ?_
  simp
  refine .flat (fun _ => c_WordValid s hsl) rfl (by simp) rfl (by simp) ?_
  simp
  refine ⟨fun hno => ⟨⟨[], []⟩, ⟨rfl, rfl⟩, .inr ⟨fun ⟨h1, h2⟩ => by rw [h1, h2] at hno; simp at hno, rfl⟩⟩, fun h1 h2 => ?_⟩
  have hw := letters_all h2
  have hl8 := letters_len h2
  have hst := run_st h1 (st0 h1) hw
  refine .one (sch [.pur 0, .pur 1, .pur 2, .eff 3 [0], .eff 4 [], .eff 5 [], .eff 6 []]) (by kernel_rfl) ?_
  simp
  refine .dval (c_dfRun a 0 s h1 (st0 h1) hw (by omega)) rfl (by simp [Df.d]) rfl ?_
  simp
  refine .ddat (c_from a (a.run 0 s) h1 hst) rfl (by simp [Df.d]) ?_
  rintro _ ⟨A, rfl, hA1, hA2⟩
  simp [Df.d]
  refine .ddat (c_minimize A hA1) rfl (by simp [Df.d]) ?_
  rintro _ ⟨x, rfl, hx⟩
  simp [Df.d]
  exact ⟨x, ⟨rfl, rfl⟩, .inl ⟨h1, h2, hx.1, hx.2.trans hA2⟩⟩

/-! ### The reference exchanges two states -/

def swp (k n : Int) : Int := if k = 0 then n else if k = n then 0 else k
theorem swp_swp (k n : Int) : swp (swp k n) n = k := by
  unfold swp
  by_cases h0 : k = 0
  · subst h0
    by_cases hn : n = 0
    · simp [hn]
    · simp [hn]
  · rw [if_neg h0]
    by_cases hn : k = n
    · subst hn; simp
    · simp [hn, h0]
theorem swp_st {a : Df} {k n : Int} (h0 : a.st 0) (hk : a.st k) (hn : a.st n) : a.st (swp k n) := by
  unfold swp; split
  · exact hn
  · split
    · exact h0
    · exact hk
theorem swp_zero (n : Int) : swp 0 n = n := by simp [swp]
def swRow (a : Df) (n k : Int) : List Int := [swp (a.go (swp k n) 0) n, swp (a.go (swp k n) 1) n, swp (a.go (swp k n) 2) n]
def swDf (a : Df) (n : Int) : Df := ⟨(List.range a.next.length).map fun (k : Nat) => swRow a n k, (List.range a.next.length).map fun (k : Nat) => a.fin (swp k n)⟩
theorem swDf_go {a : Df} (n : Int) {q c : Int} (hq : a.st q) (hc : 0 ≤ c ∧ c < 3) : (swDf a n).go q c = swp (a.go (swp q n) c) n := by
  obtain ⟨k, rfl⟩ : ∃ k : Nat, q = k := ⟨q.toNat, by have := hq.1; omega⟩
  have hk : k < a.next.length := by have := hq.2; omega
  have e : (swDf a n).next.getD k [] = swRow a n k := by simp [swDf, List.getD_eq_getElem?_getD, hk]
  simp only [Df.go, Int.toNat_natCast, e]
  rcases letter3 hc with rfl | rfl | rfl <;> rfl
theorem swDf_fin {a : Df} (n : Int) {q : Int} (hq : a.st q) : (swDf a n).fin q = a.fin (swp q n) := by
  obtain ⟨k, rfl⟩ : ∃ k : Nat, q = k := ⟨q.toNat, by have := hq.1; omega⟩
  have hk : k < a.next.length := by have := hq.2; omega
  simp [Df.fin, swDf, List.getD_eq_getElem?_getD, hk]
theorem swDf_lang {a : Df} (h : okDf a = true) {n : Int} (hn : a.st n) : ∀ (w : List Int) {q : Int}, a.st q → l3 w → (swDf a n).lang q w = a.lang (swp q n) w
  | [], q, hq, _ => swDf_fin n hq
  | c :: w, q, hq, hw => by
    rw [l3_cons] at hw
    have hg := go_st h (swp_st (st0 h) hq hn) hw.1
    show (swDf a n).lang ((swDf a n).go q c) w = a.lang (a.go (swp q n) c) w
    rw [swDf_go n hq hw.1, swDf_lang h hn w (swp_st (st0 h) hg hn) hw.2, swp_swp]
theorem swDf_ok {a : Df} (h : okDf a = true) {n : Int} (hn : a.st n) : okDf (swDf a n) = true := by
  obtain ⟨n1, n2, n3⟩ := okDf_len h
  simp only [okDf, Bool.and_eq_true, List.all_eq_true, decide_eq_true_eq]
  refine ⟨⟨fun r hr => ?_, by simp [swDf, inR]; omega⟩, by simp [swDf]⟩
  simp only [swDf, List.mem_map, List.mem_range] at hr
  obtain ⟨k, hk, rfl⟩ := hr
  simp only [dRow, Bool.and_eq_true, List.all_eq_true, decide_eq_true_eq]
  refine ⟨rfl, fun t ht => ?_⟩
  have hs := swp_st (st0 h) (st_nat hk) hn
  have key : ∀ c, 0 ≤ c ∧ c < 3 → inR (swp (a.go (swp k n) c) n) 0 (((swDf a n).next.length : Int) - 1) = true := fun c hc => by
    have := swp_st (st0 h) (go_st h hs hc) hn
    have t1 := this.1
    have t2 := this.2
    simp [swDf, inR]; omega
  simp only [swRow, List.mem_cons, List.not_mem_nil, or_false] at ht
  rcases ht with rfl | rfl | rfl
  · exact key 0 (by omega)
  · exact key 1 (by omega)
  · exact key 2 (by omega)

theorem c_l14Swap (k n : Int) : DCalls Try.prog 64 [iA k, iA n] fun y => y = iD (swp k n) := by
  refine dcalls_intro Ty.mixed Try.func64 rfl rfl rfl [] (by kernel_rfl) (by simp) ?_
  simp
  unfold swp
  refine ⟨fun h => by rw [if_pos h], fun h => ⟨fun h2 => by rw [if_neg h, if_pos h2], fun h2 => by rw [if_neg h, if_neg h2]⟩⟩

set_option maxHeartbeats 800000 in
set_option maxRecDepth 100000 in
theorem c_l14From (a : Df) (n : Int) (h : okDf a = true) (hn : a.st n) : DCalls Try.prog 25 [.d a.d, iA n] fun r => ∃ y : Df, r = y.d ∧ IsMin (swDf a n) y := by
  refine dcalls_intro Ty.mixed Try.func25 rfl rfl rfl [2] (by kernel_rfl) (by simp) ?_
  obtain ⟨n1, n2, n3⟩ := okDf_len h
  simp [Df.d]
  refine LoopVC.wk (Wk.adoptBx 500 0 901 1 (cs := [.nl, .nl]) (by simp) rfl (by simp)) ?_
  refine LoopVC.wk (Wk.adoptBx 500 1 902 1 (cs := [.sl 1 901 0 0, .nl]) (by simp) rfl (by simp)) ?_
  refine LoopVC.at { k : Nat // k ≤ a.next.length } (fun k => [(1, iA n), (2, dpA a), (4, .ptr 400 0), (5, .ptr 500 0), (6, iA k.1)])
    (fun k => [(400, .bx [.nl, .nl]), (500, .bx [.sl 1 901 0 k.1, .sl 1 902 0 k.1]), (901, .ar 1 (((List.range a.next.length).map fun (s : Nat) => intsD (swRow a n s)).take k.1)), (902, .ar 1 (((List.range a.next.length).map fun (s : Nat) => bD (a.fin (swp s n))).take k.1))]) [400, 500, 901, 902] (fun k => a.next.length - k.1) ⟨0, by omega⟩ (by simp) (by simp) ?_
  rintro ⟨k, hk⟩
  rcases Nat.lt_or_ge k a.next.length with hkl | hkl
  · simp [hkl]
    have hks := st_nat hkl
    have hss := swp_st (st0 h) hks hn
    have hs1 := hss.1
    have hs2 := hss.2
    have hsk : swp (k : Int) n = swp (k : Int) n := rfl
    have htk : ∀ f : Nat → D, ((List.range a.next.length).map f).take (k + 1) = ((List.range a.next.length).map f).take k ++ [f k] := fun f => by
      rw [← List.map_take, ← List.map_take, take_snoc (by simpa using hkl)]; simp
    have hkn : (swp (k : Int) n).toNat < a.next.length := by omega
    obtain ⟨g1, g2⟩ := okDf_row h hkn
    have hrl : (swRow a n k).length = 3 := rfl
    refine LoopVC.at { c : Nat // c ≤ 3 } (fun c => [(1, iA n), (2, dpA a), (4, .ptr 400 0), (5, .ptr 500 0), (6, iA k), (7, .sl 1 1700 0 c.1), (8, iA c.1)])
      (fun c => [(400, .bx [.nl, .nl]), (500, .bx [.sl 1 901 0 k, .sl 1 902 0 k]), (901, .ar 1 (((List.range a.next.length).map fun (s : Nat) => intsD (swRow a n s)).take k)), (902, .ar 1 (((List.range a.next.length).map fun (s : Nat) => bD (a.fin (swp s n))).take k)), (1700, .ar 1 (((swRow a n k).map iD).take c.1))]) [400, 500, 901, 902, 1700] (fun c => 3 - c.1) ⟨0, by omega⟩ (by simp) (by simp) ?_
    rintro ⟨c, hc⟩
    rcases Nat.lt_or_ge c 3 with hc3 | hc3
    · have a1 := getD_row (xs := a.next) (i := (swp (k : Int) n).toNat) [] hkn
      have a2 := getD_row (xs := a.next.getD (swp (k : Int) n).toNat []) (i := c) 0 (by omega)
      have hgo : a.go (swp k n) c = (a.next.getD (swp (k : Int) n).toNat []).getD c 0 := by simp [Df.go]
      have hrt : ((swRow a n k).map iD).take (c + 1) = ((swRow a n k).map iD).take c ++ [iD (swp (a.go (swp k n) c) n)] := by
        match c, hc3 with
        | 0, _ => rfl
        | 1, _ => rfl
        | 2, _ => rfl
      rw [← hgo] at a2
      generalize a.go (swp k n) c = t at *
      generalize a.next.getD (swp (k : Int) n).toNat [] = nx at *
      have l3 : (c : Int) < 3 := by omega
      simp [l3]
      refine .one (sch [.pur 0, .pur 1, .pur 2, .pur 3, .pur 4, .pur 8, .pur 11, .eff 5 [0, 1, 2, 8, 11], .pur 6, .pur 7, .pur 9, .pur 10, .eff 12 [0], .eff 13 [0], .eff 14 [], .eff 15 []]) (by kernel_rfl) ?_
      simp
      refine .dval (c_l14Swap k n) rfl (by simp) rfl ?_
      simp [hs1, hs2, a1, a2, g1, hc3, l3]
      refine .dval (c_l14Swap t n) rfl (by simp) rfl ?_
      simp [hrl]
      refine ⟨by omega, c + 1, .mk ?_ ?_, by omega, by omega⟩
      · simp; exact wrap64 (by omega) (by omega)
      · simp [hrt]
    · have : c = 3 := by omega
      subst this
      have b1 := fin_row h hss
      have h1 := htk fun s => intsD (swRow a n s)
      have h2 := htk fun s => bD (a.fin (swp s n))
      have hrt : List.take 3 ((swRow a n k).map iD) = (swRow a n k).map iD := List.take_of_length_le (by simp [hrl])
      simp [hrl]
      refine ⟨by omega, ?_⟩
      refine .one (sch [.pur 0, .pur 1, .pur 2, .pur 3, .pur 4, .pur 5, .eff 6 [0, 1, 2, 3], .pur 7, .pur 8, .eff 9 [0, 1], .eff 10 [], .pur 11, .eff 12 []]) (by kernel_rfl) ?_
      simp
      refine .dval (c_l14Swap k n) rfl (by simp) rfl ?_
      simp [b1, hs1]
      refine ⟨⟨by omega, by omega, by omega⟩, k + 1, .mk ?_ ?_, by omega, by omega⟩
      · simp; exact wrap64 (by omega) (by omega)
      · simp [h1, h2, hrt]
  · have : k = a.next.length := by omega
    subst this
    have hok := swDf_ok h hn
    simp
    refine .ddropE (c_l10Small (swDf a n) hok) rfl (by simp [Df.d, swDf]; constructor <;> (rw [List.take_take, Nat.min_self, List.take_of_length_le (by simp)]; rfl)) (by simp) ?_
    rintro _ ⟨x, rfl, hx⟩
    simp [Df.d]
    exact ⟨x, ⟨rfl, rfl⟩, hx⟩
theorem c_sDfaAfter (a : Df) (s : List UInt8) (hf : a.fine) (hsl : s.length ≤ 9223372036854775807) : DCalls Try.prog 7 [.d a.d, sA s] fun r => ∃ x : Df, r = x.d ∧ AfterIs a s x := by
  refine dcalls_intro Ty.mixed Try.func7 rfl rfl rfl [2] (by kernel_rfl) (by simp) ?_
  simp [Df.d]
  refine .dval (c_sDfaRun a 0 s hf hsl) rfl (by simp [Df.d]) rfl ?_
  simp
  rcases runDf_cases a 0 s with ⟨h1, h2, h3, e, h4⟩ | ⟨e, hno⟩
  · rw [e]
    have k1 := h4.1
    refine ⟨fun hneg => by omega, fun _ => ?_⟩
    refine .ddat (c_l14From a (a.run 0 s) h1 h4) rfl (by simp [Df.d]) ?_
    rintro _ ⟨x, rfl, hx⟩
    simp [Df.d]
    refine ⟨x, ⟨rfl, rfl⟩, .inl ⟨h1, h2, hx.1, hx.2.trans fun w hw => ?_⟩⟩
    rw [swDf_lang h1 h4 w (st0 h1) hw, swp_zero]
  · rw [e]
    simp
    exact ⟨⟨[], []⟩, ⟨rfl, rfl⟩, .inr ⟨fun h => hno ⟨h.1, h.2, st0 h.1⟩, rfl⟩⟩
end Go.Fw
