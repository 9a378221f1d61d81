/- The program's smallest automaton. -/
import Derived.Test.YteenfgdemklhcaaOf
set_option linter.unusedSimpArgs false
set_option linter.unusedVariables false
namespace Go.Fw
open Go Go.Proofs
set_option linter.unusedSectionVars false
set_option linter.unnecessarySimpa false

abbrev dpA (a : Df) : AV := .dp [.d (rowsD a.next), .d (bsD a.ends)]
theorem c_min1 {a : Df} (h : okDf a = true) {cl : List Int} (hcl : ClsL a cl) {s c : Int} (hs : a.st s) (hc : 0 ≤ c ∧ c < 3) : DCalls Try.prog 75 [iA s, iA c, .dp [.d (intsD cl)], dpA a] fun y => y = iD (cl.getD (a.go s c).toNat 0) := by
  refine dcalls_intro Ty.mixed Try.func75 rfl rfl rfl [] (by kernel_rfl) (by simp) ?_
  have hk : s.toNat < a.next.length := by have := hs.1; have := hs.2; omega
  obtain ⟨g1, g2⟩ := okDf_row h hk
  have a1 := getD_row (xs := a.next) (i := s.toNat) [] hk
  have a2 := getD_row (xs := a.next.getD s.toNat []) (i := c.toNat) 0 (by omega)
  have hgo : a.go s c = (a.next.getD s.toNat []).getD c.toNat 0 := rfl
  have hgs := go_st h hs hc
  rw [← hgo] at a2
  have s1 := hs.1
  have s2 := hs.2
  have hcn := hcl.len
  generalize a.go s c = t at *
  generalize a.next.getD s.toNat [] = nx at *
  obtain ⟨t', rfl⟩ : ∃ z : Nat, t = z := ⟨t.toNat, by have := hgs.1; omega⟩
  have ht' : t' < a.next.length := by have := hgs.2; omega
  obtain ⟨v, b1, b1', eb⟩ := getD_ex (xs := cl) (i := t') (by omega)
  have l2 : c.toNat < 3 := by omega
  simp only [Int.toNat_natCast, eb]
  simp
  refine .one (sch [.pur 0, .pur 1, .pur 2, .pur 3, .pur 4, .pur 5, .pur 6, .pur 7, .pur 8, .pur 9, .pur 10, .pur 11]) (by kernel_rfl) ?_
  simp [s1, s2, a1, a2, g1, hc, l2, hcn, ht', b1, b1']
theorem c_min2 {a : Df} (h : okDf a = true) {s : Int} (hs : a.st s) : DCalls Try.prog 76 [iA s, dpA a] fun y => y = .bool (a.fin s) := by
  refine dcalls_intro Ty.mixed Try.func76 rfl rfl rfl [] (by kernel_rfl) (by simp) ?_
  have b1 := fin_row h hs
  have s1 := hs.1
  simp [b1, s1]

/-! ### Classes -/

theorem c_IndexB (xs : List Bool) (b : Bool) (hl : xs.length ≤ 1000) : DCalls Try.prog 89 [.d (bsD xs), .d (bD b)] fun y => y = iD (idxI (fun x => decide (x = b)) xs) := by
  refine dcalls_intro Ty.mixed Try.func89 rfl rfl rfl [] (by kernel_rfl) (by simp) ?_
  simp
  refine LoopVC.at { i : Nat // i ≤ xs.length ∧ ∀ j (h : j < xs.length), j < i → decide (xs[j] = b) = false } (fun i => [(0, .d (bsD xs)), (1, .d (bD b)), (7, iA xs.length), (8, iA i.1)]) (fun _ => []) [] (fun i => xs.length - i.1) ⟨0, by simp⟩ (by simp) (by simp) ?_
  rintro ⟨i, hi, hp⟩
  rcases Nat.lt_or_ge i xs.length with h | h
  · simp [h]
    exact ⟨fun he => (idxI_found h hp (by simp [he])).symm, fun he => ⟨i + 1, .mk (by simp; exact wrap64 (by omega) (by omega)) (by simp), ⟨h, by simpa using upto_succ hp h (by simpa using Ne.symm he)⟩, by omega⟩⟩
  · simp [Nat.not_lt.2 h]
    exact (idxI_none h hp).symm

theorem c_EqualI (xs ys : List Int) (h1 : xs.length ≤ 1000) (h2 : ys.length ≤ 1000) : DCalls Try.prog 91 [.d (intsD xs), .d (intsD ys)] fun y => y = .bool (decide (xs = ys)) := by
  refine dcalls_intro Ty.mixed Try.func91 rfl rfl rfl [] (by kernel_rfl) (by simp) ?_
  simp
  refine ⟨fun hne e => hne (by rw [e]), fun hlen => ?_⟩
  refine LoopVC.at { i : Nat // i ≤ xs.length ∧ ∀ j (h : j < xs.length), j < i → ∃ h' : j < ys.length, xs[j] = ys[j] } (fun i => [(0, .d (intsD xs)), (1, .d (intsD ys)), (12, iA xs.length), (13, iA i.1)]) (fun _ => []) [] (fun i => xs.length - i.1) ⟨0, by simp⟩ (by simp) (by simp) ?_
  rintro ⟨i, hi, hp⟩
  rcases Nat.lt_or_ge i xs.length with h | h
  · have h' : i < ys.length := by omega
    simp [h]
    refine .one (sch [.pur 0, .pur 1, .pur 2, .pur 3, .pur 4, .pur 5, .pur 6, .pur 7, .pur 8]) (by kernel_rfl) ?_
    simp [h, h']
    refine ⟨fun hne e => hne (by subst e; rfl), fun he => ⟨i + 1, .mk (by simp; exact wrap64 (by omega) (by omega)) (by simp), ⟨h, upto_succ hp h ⟨h', he⟩⟩, by omega⟩⟩
  · simp [Nat.not_lt.2 h]
    refine List.ext_getElem (by omega) fun j hj hj' => ?_
    obtain ⟨_, he⟩ := hp j hj (by omega)
    exact he

theorem sameRow_iff {a : Df} {cl : List Int} {q r : Int} : sameRowB a cl q r = true ↔ ∀ c : Nat, c < 3 → cl.getD (a.go q c).toNat 0 = cl.getD (a.go r c).toNat 0 := by
  simp only [sameRowB, List.all_cons, List.all_nil, Bool.and_true, Bool.and_eq_true, decide_eq_true_eq]
  constructor
  · rintro ⟨h0, h1, h2⟩ c hc
    match c, hc with
    | 0, _ => exact h0
    | 1, _ => exact h1
    | 2, _ => exact h2
  · intro h; exact ⟨h 0 (by omega), h 1 (by omega), h 2 (by omega)⟩

set_option maxRecDepth 100000 in
theorem c_sameRow (a : Df) (h : okDf a = true) (cl : List Int) (hcn : cl.length = a.next.length) (q r : Nat) (hq : q < a.next.length) (hr : r < a.next.length) : DCalls Try.prog 90 [.d a.d, .d (intsD cl), iA q, iA r] fun y => y = .bool (sameRowB a cl q r) := by
  refine dcalls_intro Ty.mixed Try.func90 rfl rfl rfl [4] (by kernel_rfl) (by simp) ?_
  simp [Df.d]
  refine LoopVC.at { c : Nat // c ≤ 3 ∧ ∀ c' : Nat, c' < c → cl.getD (a.go q c').toNat 0 = cl.getD (a.go r c').toNat 0 } (fun c => [(1, .d (intsD cl)), (2, iA q), (3, iA r), (4, dpA a), (10, iA c.1)]) (fun _ => []) [] (fun c => 3 - c.1) ⟨0, by simp⟩ (by simp) (by simp) ?_
  rintro ⟨c, hc, hp⟩
  rcases Nat.lt_or_ge c 3 with hc3 | hc3
  · obtain ⟨r1, r2⟩ := okDf_row h hq
    obtain ⟨r3, r4⟩ := okDf_row h hr
    have b1 := getD_row (xs := a.next) (i := q) [] hq
    have b2 := getD_row (xs := a.next) (i := r) [] hr
    have b3 := getD_row (xs := a.next.getD q []) (i := c) 0 (by omega)
    have b4 := getD_row (xs := a.next.getD r []) (i := c) 0 (by omega)
    have hg1 : a.go q c = (a.next.getD q []).getD c 0 := rfl
    have hg2 : a.go r c = (a.next.getD r []).getD c 0 := rfl
    have hq1 := go_st h (st_nat hq) (c := c) (by omega)
    have hq2 := go_st h (st_nat hr) (c := c) (by omega)
    rw [← hg1] at b3
    rw [← hg2] at b4
    have hno : cl.getD (a.go q c).toNat 0 ≠ cl.getD (a.go r c).toNat 0 → sameRowB a cl q r = false := fun hne => by
      rw [← Bool.not_eq_true, sameRow_iff]
      exact fun hall => hne (hall c hc3)
    have hyes : cl.getD (a.go q c).toNat 0 = cl.getD (a.go r c).toNat 0 → ∀ c' : Nat, c' < c + 1 → cl.getD (a.go q c').toNat 0 = cl.getD (a.go r c').toNat 0 := fun he c' hc' => by
      rcases Nat.lt_or_ge c' c with h1 | h1
      · exact hp c' h1
      · have : c' = c := by omega
        subst this; exact he
    have hlt1 := hq1.1
    have hlt2 := hq2.1
    have hlt3 : (a.go q c).toNat < cl.length := by have := hq1.2; omega
    have hlt4 : (a.go r c).toNat < cl.length := by have := hq2.2; omega
    have hlt5 := hq1.2
    have hlt6 := hq2.2
    obtain ⟨wi, b5, b5', e5⟩ := getD_ex (xs := cl) hlt3
    obtain ⟨wk, b6, b6', e6⟩ := getD_ex (xs := cl) hlt4
    rw [e5, e6] at hno hyes
    generalize a.next.getD q [] = ni at *
    generalize a.next.getD r [] = nk at *
    have l3 : (c : Int) < 3 := by omega
    simp [l3]
    refine .one (sch [.pur 0, .pur 1, .pur 2, .pur 3, .pur 4, .pur 5, .pur 6, .pur 7, .pur 8, .pur 9, .pur 10, .pur 11, .pur 12, .pur 13, .pur 14, .pur 15, .pur 16, .pur 17, .pur 18, .pur 19, .pur 20, .pur 21, .pur 22]) (by kernel_rfl) ?_
    simp [hq, hr, b1, b2, b3, b4, b5, b5', b6, b6', r1, r3, hc3, l3, hcn, hlt1, hlt2, hlt5, hlt6]
    refine ⟨fun hne => hno hne, fun he => ⟨c + 1, .mk ?_ (by simp), ⟨hc3, hyes he⟩, by omega⟩⟩
    simp; exact wrap64 (by omega) (by omega)
  · have : c = 3 := by omega
    subst this
    simp
    exact sameRow_iff.2 hp

/-- First ones so far. -/
structure Fst (a : Df) (m k : Nat) (nx : List Int) : Prop where
  len : nx.length = k
  fst : ∀ i : Nat, i < k → FstK a m i (nx.getD i 0)
theorem Fst.snoc {a : Df} {m k : Nat} {nx : List Int} (h : Fst a m k nx) {o : Int} (ho : FstK a m k o) : Fst a m (k + 1) (nx ++ [o]) := by
  refine ⟨by simp [h.len], fun i hi => ?_⟩
  have hl := h.len
  rcases Nat.lt_or_ge i k with h1 | h1
  · have := h.fst i h1
    rw [List.getD_eq_getElem?_getD, List.getElem?_append_left (by omega), ← List.getD_eq_getElem?_getD]; exact this
  · have : i = k := by omega
    subst this
    rw [List.getD_eq_getElem?_getD, List.getElem?_append_right (by omega)]
    simpa [hl] using ho
theorem Fst.lev {a : Df} {m : Nat} {nx : List Int} (h : Fst a m a.next.length nx) : Lev a m nx := by
  refine ⟨h.len, fun q hq => ?_⟩
  have := h.fst q.toNat (by have := hq.1; have := hq.2; omega)
  rw [Int.toNat_of_nonneg hq.1] at this
  exact this
/-- The first state with the same mark. -/
theorem fst_mark {a : Df} (h : okDf a = true) {k : Nat} (hk : k < a.next.length) : FstK a 0 k (idxI (fun x => decide (x = a.fin k)) a.ends) := by
  obtain ⟨n1, n2, n3⟩ := okDf_len h
  have hke : k < a.ends.length := by omega
  have e0 : ∀ (i : Nat) (hi : i < a.ends.length), a.fin (i : Int) = a.ends[i] := fun i hi => ((getD_row (xs := a.ends) (i := i) false hi).2 hi).symm
  have hin : a.fin k ∈ a.ends := by rw [e0 k hke]; exact List.getElem_mem hke
  have hI := List.idxOf_lt_length_iff.2 hin
  have he : a.ends[a.ends.idxOf (a.fin k)] = a.fin k := List.getElem_idxOf hI
  have hmin : ∀ j (hj : j < a.ends.length), j < a.ends.idxOf (a.fin k) → a.ends[j] ≠ a.fin k := fun j hj hji => by
    have := List.not_of_lt_findIdx (p := (· == a.fin k)) (xs := a.ends) hji
    simpa using this
  have hid : idxI (fun x => decide (x = a.fin k)) a.ends = (a.ends.idxOf (a.fin k) : Int) := idxI_found hI (fun j hj hji => by simpa using hmin j hj hji) (by simp [he])
  rw [hid]
  generalize a.ends.idxOf (a.fin k) = I at *
  refine ⟨st_nat (by omega), ?_, ?_, fun r hr hs => ?_⟩
  · rcases Nat.lt_or_ge k I with h1 | h1
    · exact absurd (e0 k hke).symm (hmin k hke h1)
    · omega
  · rw [sameK_zero, e0 I hI, he]
  · have hr1 := hr.1
    have hr2 := hr.2
    rcases Int.lt_or_le r I with h1 | h1
    · have hrl : r.toNat < a.ends.length := by omega
      have := hmin r.toNat hrl (by omega)
      rw [sameK_zero] at hs
      have e1 := e0 r.toNat hrl
      rw [Int.toNat_of_nonneg hr1] at e1
      rw [← e1] at this
      exact absurd hs this
    · exact h1
structure LvI (a : Df) where
  m : Nat
  cl : List Int
  chg : Bool
structure LvI.ok {a : Df} (s : LvI a) : Prop where
  lev : Lev a s.m s.cl
  done : s.chg = false → Stab a s.m
def LvI.mu {a : Df} (s : LvI a) : Nat := (1600 - s.cl.sum.toNat) * 2 + if s.chg then 1 else 0
end Go.Fw
