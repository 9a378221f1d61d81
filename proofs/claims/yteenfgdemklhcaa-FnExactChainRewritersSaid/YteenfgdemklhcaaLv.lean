/- Automata: validity, where words lead. -/
import Derived.Test.YteenfgdemklhcaaLj
set_option linter.unusedSimpArgs false
set_option linter.unusedVariables false
namespace Go.Fw
open Go Go.Proofs

theorem takeM {α β : Type} (f : α → β) (xs : List α) : (xs.map f).take xs.length = xs.map f := List.take_of_length_le (by simp)

structure Df where
  next : List (List Int)
  ends : List Bool
deriving DecidableEq
abbrev bD (b : Bool) : D := .bool b
abbrev bsD (xs : List Bool) : D := .list (xs.map bD)
abbrev rowsD (xs : List (List Int)) : D := .list (xs.map intsD)
def Df.d (a : Df) : D := .agg [rowsD a.next, bsD a.ends]

/-- Is a row as it has to be, where states are numbered up to 'w'? -/
def dRow (w : Int) (r : List Int) : Bool := decide (r.length = 3) && r.all fun t => inR t 0 w
def okDf (a : Df) : Bool := a.next.all (dRow ((a.next.length : Int) - 1)) && inR a.next.length 1 40 && decide (a.ends.length = a.next.length)

/-- The state behind a letter's number; behind letters. -/
def Df.go (a : Df) (q c : Int) : Int := (a.next.getD q.toNat []).getD c.toNat 0
def Df.run (a : Df) (q : Int) (s : List UInt8) : Int := s.foldl (fun q b => a.go q (ltr b)) q
def Df.fin (a : Df) (q : Int) : Bool := a.ends.getD q.toNat false
def Df.acc (a : Df) (s : List UInt8) : Bool := a.fin (a.run 0 s)
/-- Is it a state's number? -/
def Df.st (a : Df) (q : Int) : Prop := 0 ≤ q ∧ q < a.next.length

theorem okDf_len {a : Df} (h : okDf a = true) : 1 ≤ a.next.length ∧ a.next.length ≤ 40 ∧ a.ends.length = a.next.length := by
  simp only [okDf, Bool.and_eq_true, decide_eq_true_eq, inR] at h
  omega
theorem okDf_row {a : Df} (h : okDf a = true) {k : Nat} (hk : k < a.next.length) : (a.next.getD k []).length = 3 ∧ ∀ t ∈ a.next.getD k [], a.st t := by
  simp only [okDf, Bool.and_eq_true, List.all_eq_true] at h
  have e1 := getD_row (xs := a.next) (i := k) [] hk
  have := h.1.1 _ (List.mem_of_getElem? e1.1)
  simp only [dRow, Bool.and_eq_true, decide_eq_true_eq, List.all_eq_true] at this
  refine ⟨this.1, fun t ht => ?_⟩
  have h2 := this.2 t ht
  simp [inR] at h2
  exact ⟨h2.1, by omega⟩
theorem go_st {a : Df} (h : okDf a = true) {q c : Int} (hq : a.st q) (hc : 0 ≤ c ∧ c < 3) : a.st (a.go q c) := by
  obtain ⟨h1, h2⟩ := okDf_row h (k := q.toNat) (by have := hq; unfold Df.st at this; omega)
  have e := getD_row (xs := a.next.getD q.toNat []) (i := c.toNat) 0 (by omega)
  exact h2 _ (List.mem_of_getElem? e.1)
theorem run_snoc (a : Df) (q : Int) {s : List UInt8} {i : Nat} (h : i < s.length) : a.run q (s.take (i + 1)) = a.go (a.run q (s.take i)) (ltr s[i]) := by
  unfold Df.run; rw [foldl_take2 _ _ h]
theorem run_app (a : Df) (q : Int) (s t : List UInt8) : a.run q (s ++ t) = a.run (a.run q s) t := by
  unfold Df.run; rw [List.foldl_append]
theorem run_st {a : Df} (h : okDf a = true) : ∀ {s : List UInt8} {q : Int}, a.st q → s.all isL = true → a.st (a.run q s)
  | [], q, hq, _ => hq
  | b :: s, q, hq, hs => by
    simp only [List.all_cons, Bool.and_eq_true] at hs
    have hb := ltr_of hs.1
    exact run_st h (s := s) (go_st h hq (by omega)) hs.2
theorem st0 {a : Df} (h : okDf a = true) : a.st 0 := by have := okDf_len h; exact ⟨by omega, by omega⟩

/-! ### Validity -/

theorem c_DfV1 (t n : Int) : DCalls Try.prog 67 [iA t, .dp [iA n]] fun y => y = .bool (!inR t 0 (IntKind.i64.wrap (n - 1))) := by
  refine dcalls_intro Ty.mixed Try.func67 rfl rfl rfl [] (by kernel_rfl) (by simp) ?_
  simp
  refine .dval (c_within _ _ _) rfl (by simp) rfl ?_
  simp

theorem ibeq (a b : Nat) : ((a : Int) == (b : Int)) = decide (a = b) := by rw [Bool.eq_iff_iff]; simp; omega
theorem letters_all {s : List UInt8} {m : Int} (h : lettersOk s m = true) : s.all isL = true := by
  simp only [lettersOk, Bool.and_eq_true] at h; exact h.1
theorem okDf_bad {a : Df} {i : Nat} (h : i < a.next.length) (hr : dRow ((a.next.length : Int) - 1) (a.next.getD i []) = false) : okDf a = false := by
  have : a.next.all (dRow ((a.next.length : Int) - 1)) = false := by
    rw [List.all_eq_false]
    exact ⟨_, List.mem_of_getElem? (getD_row (xs := a.next) (i := i) [] h).1, by rw [hr]; decide⟩
  simp [okDf, this]

/-- Lengths that Go can have. -/
structure Df.fine (a : Df) : Prop where
  len : a.next.length ≤ 9223372036854775807
  row : ∀ x ∈ a.next, x.length ≤ 9223372036854775807
  elen : a.ends.length ≤ 9223372036854775807

set_option maxRecDepth 100000 in
theorem c_DfaValid (a : Df) (h : a.fine) : DCalls Try.prog 28 [.d a.d] fun y => y = .bool (okDf a) := by
  refine dcalls_intro Ty.mixed Try.func28 rfl rfl rfl [1] (by kernel_rfl) (by simp) ?_
  have hl := h.len
  have hw : IntKind.i64.wrap ((a.next.length : Int) - 1) = (a.next.length : Int) - 1 := wrap64 (by omega) (by omega)
  simp [Df.d]
  refine LoopVC.at { i : Nat // i ≤ a.next.length ∧ ∀ k, k < a.next.length → k < i → dRow ((a.next.length : Int) - 1) (a.next.getD k []) = true } (fun i => [(1, .dp [.d (rowsD a.next), .d (bsD a.ends)]), (3, .ptr 300 0), (10, .d (rowsD a.next)), (11, iA a.next.length), (12, iA i.1)]) (fun _ => [(300, .bx [iA a.next.length])]) [300] (fun i => a.next.length - i.1) ⟨0, by simp⟩ (by simp) (by simp) ?_
  rintro ⟨i, hi, hp⟩
  rcases Nat.lt_or_ge i a.next.length with h' | h'
  · have a1 := getD_row (xs := a.next) (i := i) [] h'
    have hx := h.row _ (List.mem_of_getElem? a1.1)
    have hbad := okDf_bad h'
    have hnext : dRow ((a.next.length : Int) - 1) (a.next.getD i []) = true → ∀ k, k < a.next.length → k < i + 1 → dRow ((a.next.length : Int) - 1) (a.next.getD k []) = true := fun hr k hk hki => by
      rcases Nat.lt_or_ge k i with h2 | h2
      · exact hp k hk h2
      · have : k = i := by omega
        subst this; exact hr
    generalize a.next.getD i [] = nx at *
    simp [h', a1]
    refine .flat (fun _ => c_hasInts nx _ (fun t => !inR t 0 ((a.next.length : Int) - 1)) ?_ hx) rfl (by simp) rfl (by simp) ?_
    · intro x _ K hK
      rw [← hw] at hK
      exact ⟨_, c_DfV1 x _, by rintro r rfl; rfl, by rintro r rfl; exact hK⟩
    simp
    refine ⟨fun hb => hbad ?_, fun g1 g2 => ⟨i + 1, .mk (by simp; exact wrap64 (by omega) (by omega)) (by simp), ⟨h', hnext ?_⟩, by omega⟩⟩
    · rcases hb with hb | ⟨x, hx, hb⟩
      · simp [dRow, show ¬ nx.length = 3 by omega]
      · have : nx.all (fun t => inR t 0 ((a.next.length : Int) - 1)) = false := by
          rw [List.all_eq_false]; exact ⟨x, hx, by simp [hb]⟩
        simp [dRow, this]
    · simp only [dRow, Bool.and_eq_true, decide_eq_true_eq, List.all_eq_true]
      exact ⟨by omega, g2⟩
  · have : i = a.next.length := by omega
    subst this
    have hall : a.next.all (dRow ((a.next.length : Int) - 1)) = true := by
      rw [List.all_eq_true]
      intro x hx
      obtain ⟨j, hj, rfl⟩ := List.mem_iff_getElem.1 hx
      rw [(getD_row (xs := a.next) (i := j) [] hj).2 hj]
      exact hp j hj hj
    simp
    refine .dval (c_within _ _ _) rfl (by simp) rfl ?_
    simp [okDf, hall, ibeq]

/-- The state of a row's letter is none. -/
theorem dRow_bad {w : Int} {r : List Int} {j : Nat} (hj : j < r.length) (h : inR r[j] 0 w = false) : dRow w r = false := by
  have : r.all (fun t => inR t 0 w) = false := all_false hj h
  simp [dRow, this]

set_option maxRecDepth 100000 in
theorem c_sDfaValid (a : Df) (h : a.fine) : DCalls Try.prog 56 [.d a.d] fun y => y = .bool (okDf a) := by
  refine dcalls_intro Ty.mixed Try.func56 rfl rfl rfl [1] (by kernel_rfl) (by simp) ?_
  have hl := h.len
  have hw : IntKind.i64.wrap ((a.next.length : Int) - 1) = (a.next.length : Int) - 1 := wrap64 (by omega) (by omega)
  simp [Df.d]
  refine LoopVC.at { i : Nat // i ≤ a.next.length ∧ ∀ k, k < a.next.length → k < i → dRow ((a.next.length : Int) - 1) (a.next.getD k []) = true } (fun i => [(1, .dp [.d (rowsD a.next), .d (bsD a.ends)]), (3, iA i.1)]) (fun _ => []) [] (fun i => a.next.length - i.1) ⟨0, by simp⟩ (by simp) (by simp) ?_
  rintro ⟨i, hi, hp⟩
  rcases Nat.lt_or_ge i a.next.length with h' | h'
  · have a1 := getD_row (xs := a.next) (i := i) [] h'
    have hx := h.row _ (List.mem_of_getElem? a1.1)
    have hbad := okDf_bad h'
    have hnext : dRow ((a.next.length : Int) - 1) (a.next.getD i []) = true → ∀ k, k < a.next.length → k < i + 1 → dRow ((a.next.length : Int) - 1) (a.next.getD k []) = true := fun hr k hk hki => by
      rcases Nat.lt_or_ge k i with h2 | h2
      · exact hp k hk h2
      · have : k = i := by omega
        subst this; exact hr
    generalize a.next.getD i [] = nx at *
    simp [h', a1]
    refine ⟨fun hb => hbad (by simp [dRow, show ¬ nx.length = 3 by omega]), fun h3 => ?_⟩
    have h3' : nx.length = 3 := by omega
    refine LoopVC.at { c : Nat // c ≤ 3 ∧ ∀ j (hj : j < nx.length), j < c → inR nx[j] 0 ((a.next.length : Int) - 1) = true } (fun c => [(1, .dp [.d (rowsD a.next), .d (bsD a.ends)]), (3, iA i), (4, iA c.1)]) (fun _ => []) [] (fun c => 3 - c.1) ⟨0, by simp⟩ (by simp) (by simp) ?_
    rintro ⟨c, hc, hq⟩
    rcases Nat.lt_or_ge c 3 with hc' | hc'
    · have hcn : c < nx.length := by omega
      have hrb := dRow_bad (w := (a.next.length : Int) - 1) hcn
      simp [show (c : Int) < 3 by omega]
      refine .one (sch [.pur 0, .pur 1, .pur 2, .pur 3, .pur 4, .pur 5, .pur 6, .pur 7, .pur 8, .pur 9, .pur 10, .pur 11, .eff 12 [], .pur 13]) (by kernel_rfl) ?_
      simp [h', a1, hcn, hw]
      refine .dval (c_l1In _ _ _) rfl (by simp) rfl ?_
      simp [h', a1, hcn, hw]
      exact ⟨fun hb => hbad (hrb hb), fun hb => ⟨c + 1, .mk (by simp; exact wrap64 (by omega) (by omega)) (by simp), ⟨hc', upto_succ hq hcn hb⟩, by omega⟩⟩
    · have : c = 3 := by omega
      subst this
      simp
      refine ⟨i + 1, .mk (by simp; exact wrap64 (by omega) (by omega)) (by simp), ⟨h', hnext ?_⟩, by omega⟩
      simp only [dRow, Bool.and_eq_true, decide_eq_true_eq]
      exact ⟨h3', all_true (Nat.le_of_eq h3') hq⟩
  · have : i = a.next.length := by omega
    subst this
    have hall : a.next.all (dRow ((a.next.length : Int) - 1)) = true := by
      rw [List.all_eq_true]
      intro x hx
      obtain ⟨j, hj, rfl⟩ := List.mem_iff_getElem.1 hx
      rw [(getD_row (xs := a.next) (i := j) [] hj).2 hj]
      exact hp j hj hj
    simp
    refine .dval (c_l1In _ _ _) rfl (by simp) rfl ?_
    simp [okDf, hall, ibeq]

/-! ### Where words lead -/

set_option maxRecDepth 100000 in
theorem c_dfRun (a : Df) (f : Int) (s : List UInt8) (h : okDf a = true) (hf : a.st f) (hs : s.all isL = true) (hl : s.length ≤ 1000) : DCalls Try.prog 31 [.d a.d, iA f, sA s] fun y => y = iD (a.run f s) := by
  refine dcalls_intro Ty.mixed Try.func31 rfl rfl rfl [3] (by kernel_rfl) (by simp) ?_
  simp [Df.d]
  refine LoopVC.at { i : Nat // i ≤ s.length } (fun i => [(1, iA (a.run f (s.take i.1))), (2, sA s), (3, .dp [.d (rowsD a.next), .d (bsD a.ends)]), (9, iA s.length), (10, iA i.1)]) (fun _ => []) [] (fun i => s.length - i.1) ⟨0, by simp⟩ (by simp [Df.run]) (by simp) ?_
  rintro ⟨i, hi⟩
  have hok := run_st h hf (take_all hs i)
  rcases Nat.lt_or_ge i s.length with h' | h'
  · have hsn := run_snoc a f h'
    have hb : isL s[i] = true := by rw [List.all_eq_true] at hs; exact hs _ (List.getElem_mem h')
    have hlt := ltr_of hb
    generalize a.run f (s.take i) = q at hok hsn
    have hk : q.toNat < a.next.length := by have := hok.1; have := hok.2; omega
    obtain ⟨g1, g2⟩ := okDf_row h hk
    have a1 := getD_row (xs := a.next) (i := q.toNat) [] hk
    have a2 := getD_row (xs := a.next.getD q.toNat []) (i := (ltr s[i]).toNat) 0 (by omega)
    unfold Df.go at hsn
    have hq := hok.1
    have hq2 := hok.2
    generalize a.next.getD q.toNat [] = nx at *
    generalize nx.getD (ltr s[i]).toNat 0 = nv at *
    have l2 : (ltr s[i]).toNat < 3 := by omega
    have l3 : ltr s[i] < 3 := by omega
    simp [h']
    refine .one (sch [.pur 0, .pur 1, .pur 2, .pur 3, .pur 4, .pur 5, .pur 6, .eff 7 [0, 1, 2, 3, 4], .pur 8, .pur 9, .eff 10 []]) (by kernel_rfl) ?_
    simp [hq, hq2, a1]
    refine .dval (c_letter s i h') rfl (by simp) rfl ?_
    simp [hq, hq2, a1, hlt.2, l3, g1, a2, l2]
    exact ⟨i + 1, .mk (by simp [hsn]; exact wrap64 (by omega) (by omega)) (by simp), h', by omega⟩
  · have : i = s.length := by omega
    subst this
    simp

set_option maxRecDepth 100000 in
theorem c_l7Run (a : Df) (f : Int) (s : List UInt8) (h : okDf a = true) (hf : a.st f) (hs : s.all isL = true) (hl : s.length ≤ 1000) : DCalls Try.prog 57 [.d a.d, iA f, sA s] fun y => y = iD (a.run f s) := by
  refine dcalls_intro Ty.mixed Try.func57 rfl rfl rfl [3] (by kernel_rfl) (by simp) ?_
  simp [Df.d]
  refine LoopVC.at { i : Nat // i ≤ s.length } (fun i => [(1, iA (a.run f (s.take i.1))), (2, sA s), (3, .dp [.d (rowsD a.next), .d (bsD a.ends)]), (7, iA i.1)]) (fun _ => []) [] (fun i => s.length - i.1) ⟨0, by simp⟩ (by simp [Df.run]) (by simp) ?_
  rintro ⟨i, hi⟩
  have hok := run_st h hf (take_all hs i)
  rcases Nat.lt_or_ge i s.length with h' | h'
  · have hsn := run_snoc a f h'
    have hb : isL s[i] = true := by rw [List.all_eq_true] at hs; exact hs _ (List.getElem_mem h')
    have hlt := ltr_of hb
    generalize a.run f (s.take i) = q at hok hsn
    have hk : q.toNat < a.next.length := by have := hok.1; have := hok.2; omega
    obtain ⟨g1, g2⟩ := okDf_row h hk
    have a1 := getD_row (xs := a.next) (i := q.toNat) [] hk
    have a2 := getD_row (xs := a.next.getD q.toNat []) (i := (ltr s[i]).toNat) 0 (by omega)
    unfold Df.go at hsn
    have hq := hok.1
    have hq2 := hok.2
    generalize a.next.getD q.toNat [] = nx at *
    generalize nx.getD (ltr s[i]).toNat 0 = nv at *
    have l2 : (ltr s[i]).toNat < 3 := by omega
    have l3 : ltr s[i] < 3 := by omega
    have hsub : IntKind.i64.wrap (IntKind.u8.wrap ((s[i].toNat : Int) - 97)) = ltr s[i] := wrap_ltr _
    simp [h']
    refine .one (sch [.pur 0, .pur 1, .pur 2, .pur 3, .pur 4, .pur 5, .pur 6, .pur 7, .pur 8, .pur 9, .pur 10, .pur 11, .eff 12 []]) (by kernel_rfl) ?_
    simp [h', hsub, hq, hq2, a1, hlt.2, l3, g1, a2, l2]
    exact ⟨i + 1, .mk (by simp [hsn]; exact wrap64 (by omega) (by omega)) (by simp), h', by omega⟩
  · have : i = s.length := by omega
    subst this
    simp

def inSt (a : Df) (q : Int) : Bool := inR q 0 ((a.next.length : Int) - 1)
def runDf (a : Df) (q : Int) (s : List UInt8) : Int := if okDf a && wordOk s && inSt a q then a.run q s else -1
theorem inSt_st {a : Df} {q : Int} : inSt a q = true ↔ a.st q := by simp [inSt, inR, Df.st]; omega

theorem c_sDfaRun (a : Df) (f : Int) (s : List UInt8) (h : a.fine) (hsl : s.length ≤ 9223372036854775807) : DCalls Try.prog 24 [.d a.d, iA f, sA s] fun y => y = iD (runDf a f s) := by
  refine dcalls_intro Ty.mixed Try.func24 rfl rfl rfl [3] (by kernel_rfl) (by simp) ?_
  have hl := h.len
  have hw : IntKind.i64.wrap ((a.next.length : Int) - 1) = (a.next.length : Int) - 1 := wrap64 (by omega) (by omega)
  simp [Df.d]
  refine .dval (c_sDfaValid a h) rfl (by simp [Df.d]) rfl ?_
  simp
  refine .flat (fun _ => c_sWordValid s hsl) rfl (by simp) rfl (by simp) ?_
  simp
  refine .flat (fun _ => c_l1In _ _ _) rfl (by simp) rfl (by simp) ?_
  simp [hw]
  refine ⟨fun hno => ?_, fun h1 h2 h3 => ?_⟩
  · rcases hno with (hno | hno) | hno
    · simp [runDf, hno]
    · simp [runDf, hno]
    · simp [runDf, inSt, hno]
  · have hwl := letters_len h2
    refine .dval (c_l7Run a f s h1 (inSt_st.1 h3) (letters_all h2) (by omega)) rfl (by simp [Df.d]) rfl ?_
    simp [runDf, h1, h2, inSt, h3]

theorem fin_row {a : Df} (h : okDf a = true) {q : Int} (hq : a.st q) : q.toNat < a.ends.length ∧ 0 ≤ q ∧ q < a.ends.length ∧ a.ends[q.toNat]? = some (a.fin q) ∧ ∀ h, a.ends[q.toNat]'h = a.fin q := by
  have h1 := okDf_len h
  have h2 := hq.1
  have h3 := hq.2
  have hk : q.toNat < a.ends.length := by omega
  exact ⟨hk, h2, by omega, getD_row false hk⟩

def accDf (a : Df) (s : List UInt8) : Bool := okDf a && wordOk s && a.acc s
theorem runDf_word {a : Df} {s : List UInt8} (h1 : okDf a = true) (h2 : wordOk s = true) : runDf a 0 s = a.run 0 s ∧ a.st (a.run 0 s) := by
  have h3 := st0 h1
  exact ⟨by simp [runDf, h1, h2, inSt_st.2 h3], run_st h1 h3 (letters_all h2)⟩
theorem runDf_neg {a : Df} {s : List UInt8} {q : Int} (h : ¬ (okDf a = true ∧ wordOk s = true)) : runDf a q s = -1 := by
  unfold runDf; rw [if_neg]; simp only [Bool.and_eq_true]; exact fun h' => h h'.1
end Go.Fw
