/- Which states have the same language: step by step, in plain Lean. The smallest automaton. -/
import Derived.Test.YteenfgdemklhcaaOc
set_option linter.unusedSimpArgs false
set_option linter.unusedVariables false
namespace Go.Fw
open Go Go.Proofs
set_option linter.unusedSectionVars false
set_option linter.unnecessarySimpa false

/-- Of every state the first one that words so short don't tell apart from it. -/
structure Lev (d : Df) (m : Nat) (cl : List Int) : Prop where
  len : cl.length = d.next.length
  fst : ∀ q, d.st q → FstK d m q (cl.getD q.toNat 0)
theorem Lev.cls {d : Df} {m : Nat} {cl : List Int} (h : Lev d m cl) : ClsK d m cl := clsK_of_first h.len h.fst
theorem st_nat {d : Df} {i : Nat} (h : i < d.next.length) : d.st (i : Int) := ⟨by omega, by omega⟩
theorem Lev.at_ {d : Df} {m : Nat} {cl : List Int} (h : Lev d m cl) {i : Nat} (hi : i < d.next.length) : FstK d m i (cl.getD i 0) := by
  have := h.fst i (st_nat hi); simpa using this

theorem sum_le : ∀ (xs ys : List Int), xs.length = ys.length → (∀ i, i < xs.length → xs.getD i 0 ≤ ys.getD i 0) → xs.sum ≤ ys.sum ∧ (xs.sum = ys.sum → xs = ys)
  | [], [], _, _ => by simp
  | [], _ :: _, h, _ => by simp at h
  | _ :: _, [], h, _ => by simp at h
  | x :: xs, y :: ys, h, hp => by
    have h0 := hp 0 (by simp)
    have ih := sum_le xs ys (by simpa using h) fun i hi => by have := hp (i + 1) (by simp; omega); simpa using this
    simp at h0
    simp only [List.sum_cons]
    refine ⟨by omega, fun e => ?_⟩
    have h1 : x = y := by omega
    rw [h1, ih.2 (by omega)]
theorem sum_hi (b : Int) : ∀ (xs : List Int), (∀ i, i < xs.length → xs.getD i 0 ≤ b) → xs.sum ≤ b * xs.length
  | [], _ => by simp
  | x :: xs, h => by
    have h0 := h 0 (by simp)
    have ih := sum_hi b xs fun i hi => by have := h (i + 1) (by simp; omega); simpa using this
    simp at h0
    simp only [List.sum_cons, List.length_cons]
    push_cast
    rw [Int.mul_add]; omega
theorem Lev.up {d : Df} {m : Nat} {cl nx : List Int} (h : Lev d m cl) (h' : Lev d (m + 1) nx) : cl.sum ≤ nx.sum ∧ (cl.sum = nx.sum → cl = nx) :=
  sum_le cl nx (h.len.trans h'.len.symm) fun i hi => (h.at_ (by rw [← h.len]; exact hi)).mono (h'.at_ (by rw [← h.len]; exact hi))
theorem Lev.hi {d : Df} (hd : okDf d = true) {m : Nat} {cl : List Int} (h : Lev d m cl) : cl.sum ≤ 1600 := by
  obtain ⟨n1, n2, _⟩ := okDf_len hd
  have := sum_hi 40 cl fun i hi => by
    have h1 := (h.at_ (i := i) (by rw [← h.len]; exact hi)).st.2
    omega
  rw [h.len] at this
  omega
theorem Lev.lo {d : Df} {m : Nat} {cl : List Int} (h : Lev d m cl) : 0 ≤ cl.sum := by
  have := (sum_le (List.replicate cl.length 0) cl (by simp) fun i hi => by
    simp at hi
    have h1 := (h.at_ (i := i) (by rw [← h.len]; exact hi)).st.1
    simp [hi] at h1 ⊢; exact h1).1
  simpa using this
/-- Nothing is told apart any more. -/
def Stab (d : Df) (m : Nat) : Prop := ∀ q r, d.st q → d.st r → SameK d m q r → SameK d (m + 1) q r
theorem Stab.up {d : Df} (hd : okDf d = true) {m : Nat} (h : Stab d m) : Stab d (m + 1) := fun q r hq hr hs => by
  rw [sameK_succ]
  refine ⟨hs, fun c hc => ?_⟩
  exact h _ _ (go_st hd hq hc) (go_st hd hr hc) ((sameK_succ.1 hs).2 c hc)
theorem stab_eq {d : Df} {m : Nat} {cl : List Int} (h : Lev d m cl) (h' : Lev d (m + 1) cl) : Stab d m := fun q r hq hr hs => by
  rw [← h'.cls.iff q r hq hr, h.cls.iff q r hq hr]; exact hs

/-- A list of states: of every state the first one with the same language. -/
structure ClsL (d : Df) (cl : List Int) : Prop where
  len : cl.length = d.next.length
  cls : Classes d fun q => cl.getD q.toNat 0
  le : ∀ q, d.st q → cl.getD q.toNat 0 ≤ q
theorem Lev.done {d : Df} (hd : okDf d = true) {m : Nat} {cl : List Int} (h : Lev d m cl) (hs : Stab d m) : ClsL d cl :=
  ⟨h.len, classes_of_stable hd h.fst hs, fun q hq => (h.fst q hq).le⟩
theorem ClsL.zero {d : Df} (hd : okDf d = true) {cl : List Int} (h : ClsL d cl) : cl.getD 0 0 = 0 := by
  have h0 := st0 hd
  have h1 := h.le 0 h0
  have h2 := (h.cls.st 0 h0).1
  simp at h1 h2 ⊢
  omega

/-! ### The next list, from behind -/

def eqC (d : Df) (cl : List Int) (j k : Int) (c : Nat) : Bool := decide (cl.getD j.toNat 0 = cl.getD k.toNat 0) && (List.range c).all fun (c : Nat) => decide (cl.getD (d.go j c).toNat 0 = cl.getD (d.go k c).toNat 0)
theorem eqC_succ (d : Df) (cl : List Int) (j k : Int) (c : Nat) : eqC d cl j k (c + 1) = (eqC d cl j k c && decide (cl.getD (d.go j c).toNat 0 = cl.getD (d.go k c).toNat 0)) := by
  unfold eqC; rw [List.range_succ, List.all_append, Bool.and_assoc]; simp
theorem eqC_done (d : Df) (cl : List Int) (j k : Int) : eqC d cl j k 3 = finerB d cl j k := rfl

/-- What is known of the state that is looked for, when those from 'j' on have been looked at. -/
def Fnd (d : Df) (m : Nat) (k : Nat) (j : Nat) (o : Int) : Prop := (o = k ∧ ∀ i : Nat, j ≤ i → i < k → ¬ SameK d (m + 1) i k) ∨ FstK d (m + 1) k o
theorem Fnd.zero {d : Df} {m k : Nat} {o : Int} (hk : k < d.next.length) (h : Fnd d m k 0 o) : FstK d (m + 1) k o := by
  rcases h with ⟨rfl, h⟩ | h
  · refine ⟨st_nat hk, Int.le_refl _, fun _ _ _ => rfl, fun r hr hs => ?_⟩
    rcases Int.lt_or_le r k with h1 | h1
    · have := h r.toNat (by omega) (by have := hr.1; omega)
      rw [Int.toNat_of_nonneg hr.1] at this
      exact absurd hs this
    · exact h1
  · exact h
theorem Fnd.hit {d : Df} {m k j : Nat} {p : Int} (hj : j < k) (hs : SameK d (m + 1) j k) (hp : FstK d (m + 1) j p) : Fnd d m k j p :=
  .inr ⟨hp.st, by have := hp.le; omega, hp.same.trans hs, fun r hr hrk => hp.first r hr (hrk.trans hs.symm)⟩
theorem Fnd.miss {d : Df} {m k j : Nat} {o : Int} (h : Fnd d m k (j + 1) o) (hs : ¬ SameK d (m + 1) j k) : Fnd d m k j o := by
  rcases h with ⟨rfl, h⟩ | h
  · refine .inl ⟨rfl, fun i hi hik => ?_⟩
    rcases Nat.lt_or_ge j i with h1 | h1
    · exact h i h1 hik
    · have : i = j := by omega
      subst this; exact hs
  · exact .inr h

/-- Do the lists agree about two states? -/
def Agr (cl nx : List Int) (j k : Nat) : Prop := (cl.getD j 0 = cl.getD k 0 ↔ nx.getD j 0 = nx.getD k 0)
theorem stab_of_agr {d : Df} {m : Nat} {cl nx : List Int} (h : ClsK d m cl) (h' : Lev d (m + 1) nx) (ha : ∀ j k, j < k → k < d.next.length → Agr cl nx j k) : Stab d m := fun q r hq hr hs => by
  have h1 := h.iff q r hq hr
  have h2 := h'.cls.iff q r hq hr
  have q1 := hq.1
  have r1 := hr.1
  have q2 := hq.2
  have r2 := hr.2
  rw [← h2]
  rcases Nat.lt_trichotomy q.toNat r.toNat with h3 | h3 | h3
  · exact (ha _ _ h3 (by omega)).1 (h1.2 hs)
  · rw [h3]
  · exact ((ha _ _ h3 (by omega)).1 (h1.2 hs).symm).symm
theorem agr_of_eq {cl nx : List Int} (e : cl = nx) (j k : Nat) : Agr cl nx j k := by subst e; exact Iff.rfl

/-! ### The smallest automaton -/

def IsMin (a m : Df) : Prop := Canon m ∧ Same (m.lang 0) (a.lang 0)
theorem IsMin.uniq {a b m n : Df} (h : IsMin a m) (h' : IsMin b n) (hs : Same (a.lang 0) (b.lang 0)) : m = n := h.1.uniq h'.1 ((h.2.trans hs).trans h'.2.symm)
open Classical in
noncomputable def minDf (a : Df) : Df := if h : ∃ m, IsMin a m then h.choose else ⟨[], []⟩
theorem IsMin.eq {a m : Df} (h : IsMin a m) : m = minDf a := by
  have he : ∃ m, IsMin a m := ⟨m, h⟩
  have : minDf a = he.choose := by unfold minDf; rw [dif_pos he]
  rw [this]
  exact h.uniq he.choose_spec (Same.refl _)

/-- The automaton of the classes. -/
def clsDf (x : Df) (cl : List Int) : Df := ⟨x.next.map fun r => r.map fun t => cl.getD t.toNat 0, x.ends⟩
theorem clsDf_go {x : Df} (hx : okDf x = true) {cl : List Int} {q c : Int} (hq : x.st q) (hc : 0 ≤ c ∧ c < 3) : (clsDf x cl).go q c = cl.getD (x.go q c).toNat 0 := by
  have hk : q.toNat < x.next.length := by have := hq.1; have := hq.2; omega
  obtain ⟨g1, g2⟩ := okDf_row hx hk
  have a1 := (getD_row (xs := x.next) (i := q.toNat) [] hk).2 hk
  have hc' : c.toNat < (x.next.getD q.toNat []).length := by omega
  have a2 := (getD_row (xs := x.next.getD q.toNat []) (i := c.toNat) 0 hc').2 hc'
  simp only [Df.go, clsDf, List.getD_eq_getElem?_getD, List.getElem?_map, List.getElem?_eq_getElem hk, Option.map_some, Option.getD_some]
  have hc2 : c.toNat < x.next[q.toNat].length := by rw [a1]; omega
  rw [List.getElem?_eq_getElem hc2]
  rfl
theorem clsDf_ok {x : Df} (hx : okDf x = true) {cl : List Int} (h : ClsL x cl) : okDf (clsDf x cl) = true := by
  have hl := okDf_len hx
  simp only [okDf, Bool.and_eq_true, List.all_eq_true, decide_eq_true_eq]
  refine ⟨⟨fun r hr => ?_, ?_⟩, by simp [clsDf, hl.2.2]⟩
  · simp only [clsDf, List.mem_map] at hr
    obtain ⟨s, hs, rfl⟩ := hr
    obtain ⟨i, hi, rfl⟩ := List.mem_iff_getElem.1 hs
    obtain ⟨g1, g2⟩ := okDf_row hx hi
    rw [(getD_row (xs := x.next) (i := i) [] hi).2 hi]
    simp only [dRow, Bool.and_eq_true, decide_eq_true_eq, List.all_eq_true]
    refine ⟨by simpa using g1, fun t ht => ?_⟩
    simp only [List.mem_map] at ht
    obtain ⟨u, hu, rfl⟩ := ht
    have := h.cls.st u (g2 u hu)
    have h1 := this.1
    have h2 := this.2
    simp [inR, clsDf] at *
    omega
  · simp [clsDf, inR]; omega
theorem min_of_trims {a x cl y} (ha : okDf a = true) (hx : IsTrim a x) (hcl : ClsL x cl) (hy : IsTrim (clsDf x cl) y) : IsMin a y := by
  have hxo := hx.ok ha
  have hco := clsDf_ok hxo hcl
  obtain ⟨k, hk, rfl⟩ := hy
  have hb := met_len_le hco k
  have hl := okDf_len hco
  have hz := hcl.zero hxo
  have e : cl.getD (Int.toNat 0) 0 = 0 := hz
  have hcan := canon_of_classes hxo hcl.cls (nx := (clsDf x cl).go) (fun q c hq hc => clsDf_go hxo hq hc) (k := k) (by rw [e]; exact hk) (by rw [e]; omega) (fin := (clsDf x cl).fin) (fun q _ => rfl)
  rw [e] at hcan
  exact ⟨hcan.1, hcan.2.trans hx.lang⟩
end Go.Fw
