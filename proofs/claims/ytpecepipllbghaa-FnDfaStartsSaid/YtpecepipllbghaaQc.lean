/- Useful states: from which a word leads to an end. -/
import Derived.Test.YtpecepipllbghaaQb
set_option linter.unusedSimpArgs false
set_option linter.unusedVariables false
namespace Go.Fw
open Go Go.Proofs
set_option linter.unusedSectionVars false
set_option linter.unnecessarySimpa false

def usef (a : Df) (q : Int) : Prop := ∃ w, w.all isL = true ∧ a.fin (a.run q w) = true
theorem usef_step {a : Df} {q : Int} {c : Nat} (hc : c < 3) (h : usef a (a.go q c)) : usef a q := by
  obtain ⟨w, h1, h2⟩ := h
  obtain ⟨l1, l2⟩ := lt3_ok hc
  refine ⟨lt3 c :: w, by simp [h1, l1], ?_⟩
  show a.fin (a.run (a.go q (ltr (lt3 c))) w) = true
  rw [l2]; exact h2

/-- Flags that are right, perhaps not all of them. -/
structure UfS (a : Df) (B : List Bool) : Prop where
  len : B.length = a.next.length
  sound : ∀ q : Nat, q < a.next.length → B.getD q false = true → usef a q
  ends : ∀ q : Nat, q < a.next.length → a.fin q = true → B.getD q false = true
def ClosedU (a : Df) (B : List Bool) : Prop := ∀ q : Nat, q < a.next.length → ∀ c : Nat, c < 3 → B.getD (a.go q c).toNat false = true → B.getD q false = true

theorem UfS.init {a : Df} (h : okDf a = true) : UfS a a.ends :=
  ⟨(okDf_len h).2.2, fun q _ hB => ⟨[], rfl, hB⟩, fun q _ hf => hf⟩
theorem UfS.set {a : Df} {B : List Bool} (h : UfS a B) {q : Nat} (hq : q < a.next.length) (hu : usef a q) : UfS a (B.set q true) := by
  refine ⟨by simp [h.len], fun z hz hB => ?_, fun z hz hf => ?_⟩
  · by_cases e : q = z
    · subst e; exact hu
    · rw [List.getD_eq_getElem?_getD, List.getElem?_set_ne e, ← List.getD_eq_getElem?_getD] at hB
      exact h.sound z hz hB
  · by_cases e : q = z
    · subst e
      rw [List.getD_eq_getElem?_getD, List.getElem?_set_self (by rw [h.len]; exact hq)]; rfl
    · rw [List.getD_eq_getElem?_getD, List.getElem?_set_ne e, ← List.getD_eq_getElem?_getD]
      exact h.ends z hz hf
theorem useful_all {a : Df} (h : okDf a = true) {B : List Bool} (hB : UfS a B) (hc : ClosedU a B) : ∀ (w : List UInt8) (q : Nat), q < a.next.length → w.all isL = true → a.fin (a.run q w) = true → B.getD q false = true
  | [], q, hq, _, hf => hB.ends q hq hf
  | b :: w, q, hq, hw, hf => by
    simp only [List.all_cons, Bool.and_eq_true] at hw
    have hb := ltr_of hw.1
    have hg := go_st h (q := (q : Int)) (c := ltr b) ⟨by omega, by omega⟩ (by omega)
    obtain ⟨c, hcl⟩ : ∃ c : Nat, ltr b = c := ⟨(ltr b).toNat, by omega⟩
    have hf : a.fin (a.run (a.go q (ltr b)) w) = true := hf
    rw [hcl] at hg hf
    obtain ⟨t, ht⟩ : ∃ t : Nat, a.go q c = t := ⟨(a.go q c).toNat, by have := hg.1; omega⟩
    rw [ht] at hg hf
    refine hc q hq c (by omega) ?_
    rw [ht, Int.toNat_natCast]
    exact useful_all h hB hc w t (by have := hg.2; omega) hw.2 hf
theorem useful_iff {a : Df} (h : okDf a = true) {B : List Bool} (hB : UfS a B) (hc : ClosedU a B) {q : Nat} (hq : q < a.next.length) : B.getD q false = true ↔ usef a q :=
  ⟨hB.sound q hq, fun ⟨w, h1, h2⟩ => useful_all h hB hc w q hq h1 h2⟩

def cnt (B : List Bool) : Nat := B.count true
theorem cnt_le (B : List Bool) : cnt B ≤ B.length := List.count_le_length
theorem cnt_set : ∀ {B : List Bool} {q : Nat}, q < B.length → B.getD q false = false → cnt (B.set q true) = cnt B + 1
  | [], q, h, _ => by simp at h
  | b :: B, 0, _, h => by
    have : b = false := by simpa using h
    subst this; simp [cnt]
  | b :: B, q + 1, h, hv => by
    have := cnt_set (B := B) (q := q) (by simpa using h) (by simpa using hv)
    unfold cnt at this ⊢
    rw [List.set_cons_succ, List.count_cons, List.count_cons, this]; omega
theorem cnt_all {B : List Bool} (h : B.length ≤ cnt B) {q : Nat} (hq : q < B.length) : B.getD q false = true := by
  have h1 : B.count true = B.length := by have := cnt_le B; unfold cnt at *; omega
  have := List.count_eq_length.1 h1 B[q] (List.getElem_mem hq)
  rw [List.getD_eq_getElem?_getD, List.getElem?_eq_getElem hq]
  simp [← this]

structure UK where
  B : List Bool
  ch : Bool
  k : Nat

/-- What a row of the table holds at a place. -/
theorem flag_at {B : List Bool} {q n : Nat} (h : B.length = n) (hq : q < n) : ∃ v, B[q]? = some v ∧ (∀ h, B[q]'h = v) ∧ B.getD q false = v ∧ q < B.length :=
  ⟨B[q]'(by omega), List.getElem?_eq_getElem _, fun _ => rfl, by rw [List.getD_eq_getElem?_getD, List.getElem?_eq_getElem (by omega)]; rfl, by omega⟩

def usM (n : Nat) (g : UK) : Nat := 2 * (n - cnt g.B) + (if g.ch then 1 else 0)

set_option maxHeartbeats 800000 in
set_option maxRecDepth 100000 in
theorem s_l14Useful (a : Df) (h : okDf a = true) : SCalls Try.prog 75 [.d a.d] fun sz xs => sz = 1 ∧ ∃ B : List Bool, xs = B.map bD ∧ UfS a B ∧ ClosedU a B := by
  refine scalls_intro Ty.mixed Try.func75 rfl rfl rfl [1] (by kernel_rfl) (by simp) ?_
  obtain ⟨n1, n2, n3⟩ := okDf_len h
  simp [Df.d]
  refine ⟨⟨?_, ⟨by omega, by omega⟩⟩, ?_⟩
  · rintro y (⟨_, rfl⟩ | ⟨_, rfl⟩) <;> simp [bD]
  refine LoopVC.at { g : UK // UfS a g.B ∧ (g.ch = false → ClosedU a g.B) } (fun g => [(1, dpA a), (3, .sl 1 700 0 a.next.length), (4, .d (.bool g.1.ch))]) (fun g => [(700, .ar 1 (g.1.B.map bD))]) [700] (fun g => usM a.next.length g.1) ⟨⟨a.ends, true, 0⟩, UfS.init h, by simp⟩ (by simp [n3]) (by simp) ?_
  rintro ⟨⟨B0, ch0, k0⟩, hU0, hC0⟩
  simp only at hU0 hC0
  cases ch0 with
  | false =>
    have hl := hU0.len
    simp
    exact ⟨by omega, B0, rfl, hU0, hC0 rfl⟩
  | true =>
    simp
    refine LoopVC.at { g : UK // UfS a g.B ∧ cnt B0 ≤ cnt g.B ∧ (g.ch = true → cnt B0 < cnt g.B) ∧ (g.ch = false → ∀ q : Nat, q < g.k → ∀ c : Nat, c < 3 → g.B.getD (a.go q c).toNat false = true → g.B.getD q false = true) ∧ g.k ≤ a.next.length }
      (fun g => [(1, dpA a), (3, .sl 1 700 0 a.next.length), (4, .d (.bool g.1.ch)), (5, iA g.1.k)]) (fun g => [(700, .ar 1 (g.1.B.map bD))]) [700] (fun g => a.next.length - g.1.k) ⟨⟨B0, false, 0⟩, hU0, Nat.le_refl _, by simp, fun _ q hq => absurd hq (Nat.not_lt_zero q), by simp⟩ (by simp) (by simp) ?_
    rintro ⟨⟨B, ch, k⟩, hU, hc1, hc2, hc3, hk⟩
    simp only at hU hc1 hc2 hc3 hk
    have hlen := hU.len
    rcases Nat.lt_or_ge k a.next.length with hkn | hkn
    · simp [hkn]
      refine LoopVC.at { g : UK // UfS a g.B ∧ cnt B0 ≤ cnt g.B ∧ (g.ch = true → cnt B0 < cnt g.B) ∧ (g.ch = false → (∀ q : Nat, q < k → ∀ c : Nat, c < 3 → g.B.getD (a.go q c).toNat false = true → g.B.getD q false = true) ∧ ∀ c : Nat, c < g.k → g.B.getD (a.go k c).toNat false = true → g.B.getD k false = true) ∧ g.k ≤ 3 }
        (fun g => [(1, dpA a), (3, .sl 1 700 0 a.next.length), (4, .d (.bool g.1.ch)), (5, iA k), (6, iA g.1.k)]) (fun g => [(700, .ar 1 (g.1.B.map bD))]) [700] (fun g => 3 - g.1.k) ⟨⟨B, ch, 0⟩, hU, hc1, hc2, fun hch => ⟨hc3 hch, fun c hc => absurd hc (Nat.not_lt_zero c)⟩, by simp⟩ (by simp) (by simp) ?_
      rintro ⟨⟨B, ch, c⟩, hU, hc1, hc2, hc3, hc⟩
      simp only at hU hc1 hc2 hc3 hc
      obtain ⟨v, b1, b2, b3, b4⟩ := flag_at hU.len hkn
      have hlen := hU.len
      rcases Nat.lt_or_ge c 3 with hc3' | hc3'
      · cases v with
        | true =>
          simp [hc3', b1, b2, b4, hkn, show (c : Int) < 3 by omega]
          refine ⟨⟨B, ch, k + 1⟩, .mk (by simp; exact wrap64 (by omega) (by omega)) (by simp), ⟨hU, hc1, hc2, fun hch q hq d hd hb => ?_, hkn⟩, by simp only; omega⟩
          rcases Nat.lt_or_ge q k with hqk | hqk
          · exact (hc3 hch).1 q hqk d hd (by rw [List.getD_eq_getElem?_getD]; exact hb)
          · have : q = k := by have hq : q < k + 1 := hq; omega
            subst this
            rw [b1]; rfl
        | false =>
          have hks : a.st (k : Int) := ⟨by omega, by omega⟩
          obtain ⟨r1, r2⟩ := okDf_row h hkn
          have a1 := getD_row (xs := a.next) (i := k) [] hkn
          have hgo : a.go k c = (a.next.getD k []).getD c 0 := by simp [Df.go]
          have hgs := go_st h hks (c := (c : Int)) (by omega)
          obtain ⟨t, ht⟩ : ∃ t : Nat, a.go k c = t := ⟨(a.go k c).toNat, by have := hgs.1; omega⟩
          rw [ht] at hgs hgo
          have htn : t < a.next.length := by have := hgs.2; omega
          generalize a.next.getD k [] = nx at *
          have a2 := getD_row (xs := nx) (i := c) 0 (by omega)
          rw [← hgo] at a2
          obtain ⟨u, d1, d2, d3, d4⟩ := flag_at hU.len htn
          simp [hc3', b1, b2, b4, hkn, a1, a2, r1, htn, d1, d2, d4, show (c : Int) < 3 by omega]
          refine ⟨fun hu => ?_, fun hu => ?_⟩
          · have hcs := cnt_set b4 b3
            refine ⟨⟨B.set k true, true, c + 1⟩, .mk (by simp; exact wrap64 (by omega) (by omega)) (by simp [List.map_set, bD]), ⟨hU.set hkn (usef_step hc3' (by rw [ht]; exact hU.sound t htn (by rw [d3]; exact hu))), by show cnt B0 ≤ cnt (B.set k true); omega, fun _ => by show cnt B0 < cnt (B.set k true); omega, (fun h => by cases h), hc3'⟩, by simp only; omega⟩
          · refine ⟨⟨B, ch, c + 1⟩, .mk (by simp; exact wrap64 (by omega) (by omega)) (by simp), ⟨hU, hc1, hc2, fun hch => ⟨fun q hq d hd hb => (hc3 hch).1 q hq d hd (by rw [List.getD_eq_getElem?_getD]; exact hb), fun d hd hb => ?_⟩, hc3'⟩, by simp only; omega⟩
            rcases Nat.lt_or_ge d c with hdc | hdc
            · rw [← List.getD_eq_getElem?_getD]; exact (hc3 hch).2 d hdc (by rw [List.getD_eq_getElem?_getD]; exact hb)
            · have : d = c := by have hd : d < c + 1 := hd; omega
              subst this
              rw [ht, Int.toNat_natCast, d1, hu] at hb
              cases hb
      · simp [b1, b2, b4, hkn, show ¬ (c : Int) < 3 by omega]
        refine ⟨⟨B, ch, k + 1⟩, .mk (by simp; exact wrap64 (by omega) (by omega)) (by simp), ⟨hU, hc1, hc2, fun hch q hq d hd hb => ?_, hkn⟩, by simp only; omega⟩
        rw [← List.getD_eq_getElem?_getD]
        rcases Nat.lt_or_ge q k with hqk | hqk
        · exact (hc3 hch).1 q hqk d hd (by rw [List.getD_eq_getElem?_getD]; exact hb)
        · have : q = k := by have hq : q < k + 1 := hq; omega
          subst this
          exact (hc3 hch).2 d (by omega) (by rw [List.getD_eq_getElem?_getD]; exact hb)
    · simp [Nat.not_lt.2 hkn]
      have hcl := cnt_le B
      refine ⟨⟨B, ch, 0⟩, .mk (by simp) (by simp), ⟨hU, fun hch q hq c hc hb => hc3 hch q (by omega) c hc hb⟩, ?_⟩
      unfold usM
      cases ch with
      | true => have := hc2 rfl; simp; omega
      | false => simp; omega

def EdgesU (a : Df) (B : List Bool) (k c : Nat) : Prop := ∀ q d : Nat, (q < k ∧ d < 3 ∨ q = k ∧ d < c) → B.getD (a.go q d).toNat false = true → B.getD q false = true
structure RI (a : Df) (B0 B : List Bool) (k c : Nat) : Prop where
  us : UfS a B
  cl : ClosedU a B0 → B = B0
  or : B = B0 ∧ EdgesU a B k c ∨ cnt B0 < cnt B
theorem set_same {B : List Bool} {q : Nat} {v : Bool} (h : B[q]? = some v) : B.set q v = B := by
  obtain ⟨h1, rfl⟩ := List.getElem?_eq_some_iff.1 h
  exact List.set_getElem_self h1
theorem RI.keep {a : Df} {B0 B : List Bool} {k c : Nat} (h : RI a B0 B k c) (he : B.getD (a.go k c).toNat false = true → B.getD k false = true) : RI a B0 B k (c + 1) := by
  refine ⟨h.us, h.cl, ?_⟩
  rcases h.or with ⟨h1, h2⟩ | h1
  · refine .inl ⟨h1, fun q d hqd hb => ?_⟩
    by_cases hn : q < k ∧ d < 3 ∨ q = k ∧ d < c
    · exact h2 q d hn hb
    · have e1 : q = k := by omega
      have e2 : d = c := by omega
      subst e1; subst e2
      exact he hb
  · exact .inr h1
theorem RI.setT {a : Df} {B0 B : List Bool} {k c : Nat} (h : RI a B0 B k c) (hk : k < a.next.length) (hc : c < 3) {t : Nat} (ht : a.go k c = t) (htn : t < a.next.length) (hv : B.getD k false = false) (hu : B.getD t false = true) : RI a B0 (B.set k true) k (c + 1) := by
  have hcs := cnt_set (B := B) (q := k) (by rw [h.us.len]; exact hk) hv
  refine ⟨h.us.set hk (usef_step hc (by rw [ht]; exact h.us.sound t htn hu)), fun hcl => ?_, .inr ?_⟩
  · have e := h.cl hcl
    have := hcl k hk c hc (by rw [ht, Int.toNat_natCast, ← e]; exact hu)
    rw [← e, hv] at this; cases this
  · rcases h.or with ⟨h1, _⟩ | h1
    · rw [h1] at hcs ⊢; omega
    · omega
theorem RI.next {a : Df} {B0 B : List Bool} {k : Nat} (h : RI a B0 B k 3) : RI a B0 B (k + 1) 0 := by
  refine ⟨h.us, h.cl, ?_⟩
  rcases h.or with ⟨h1, h2⟩ | h1
  · exact .inl ⟨h1, fun q d hqd hb => h2 q d (by omega) hb⟩
  · exact .inr h1
theorem RI.round {a : Df} {B0 B : List Bool} {r : Nat} (h : RI a B0 B a.next.length 0) (h0 : ClosedU a B0 ∨ r ≤ cnt B0) : ClosedU a B ∨ r + 1 ≤ cnt B := by
  rcases h0 with h0 | h0
  · rw [h.cl h0]; exact .inl h0
  · rcases h.or with ⟨h1, h2⟩ | h1
    · exact .inl fun q hq c hc hb => h2 q c (.inl ⟨hq, hc⟩) hb
    · exact .inr (by omega)
theorem closed_full {a : Df} {B : List Bool} (h : UfS a B) (hc : ClosedU a B ∨ a.next.length ≤ cnt B) : ClosedU a B := by
  rcases hc with hc | hc
  · exact hc
  · exact fun q hq _ _ _ => cnt_all (by rw [h.len]; exact hc) (by rw [h.len]; exact hq)

structure BK where
  B : List Bool
  k : Nat
set_option maxHeartbeats 800000 in
set_option maxRecDepth 100000 in
theorem c_leading (a : Df) (h : okDf a = true) : DCalls Try.prog 70 [.d a.d] fun r => ∃ B : List Bool, r = bsD B ∧ UfS a B ∧ ClosedU a B := by
  refine dcalls_intro Ty.mixed Try.func70 rfl rfl rfl [1] (by kernel_rfl) (by simp) ?_
  obtain ⟨n1, n2, n3⟩ := okDf_len h
  simp [Df.d]
  refine ⟨⟨?_, ⟨by omega, by omega⟩⟩, ?_⟩
  · rintro y (⟨_, rfl⟩ | ⟨_, rfl⟩) <;> simp [bD]
  refine LoopVC.at { g : BK // UfS a g.B ∧ (ClosedU a g.B ∨ g.k ≤ cnt g.B) ∧ g.k ≤ a.next.length } (fun g => [(1, dpA a), (3, .sl 1 800 0 a.next.length), (14, iA a.next.length), (15, iA g.1.k)]) (fun g => [(800, .ar 1 (g.1.B.map bD))]) [800] (fun g => a.next.length - g.1.k) ⟨⟨a.ends, 0⟩, UfS.init h, .inr (Nat.zero_le _), Nat.zero_le _⟩ (by simp [n3]) (by simp) ?_
  rintro ⟨⟨B0, r⟩, hU0, hC0, hr⟩
  simp only at hU0 hC0 hr
  rcases Nat.lt_or_ge r a.next.length with hrn | hrn
  · simp [hrn]
    refine LoopVC.at { g : BK // RI a B0 g.B g.k 0 ∧ g.k ≤ a.next.length } (fun g => [(1, dpA a), (3, .sl 1 800 0 a.next.length), (14, iA a.next.length), (15, iA r), (18, .d (rowsD a.next)), (19, iA a.next.length), (20, iA g.1.k)]) (fun g => [(800, .ar 1 (g.1.B.map bD))]) [800] (fun g => a.next.length - g.1.k) ⟨⟨B0, 0⟩, ⟨hU0, fun _ => rfl, .inl ⟨rfl, fun q d hqd => absurd hqd (by show ¬ (q < 0 ∧ d < 3 ∨ q = 0 ∧ d < 0); omega)⟩⟩, Nat.zero_le _⟩ (by simp) (by simp) ?_
    rintro ⟨⟨B, k⟩, hR, hk⟩
    simp only at hR hk
    rcases Nat.lt_or_ge k a.next.length with hkn | hkn
    · obtain ⟨r1, r2⟩ := okDf_row h hkn
      have a1 := getD_row (xs := a.next) (i := k) [] hkn
      have hgo : ∀ c : Nat, a.go k c = (a.next.getD k []).getD c 0 := fun c => by simp [Df.go]
      generalize a.next.getD k [] = nx at *
      simp [hkn, a1, r1]
      refine LoopVC.at { g : BK // RI a B0 g.B k g.k ∧ g.k ≤ 3 } (fun g => [(1, dpA a), (3, .sl 1 800 0 a.next.length), (4, iA k), (14, iA a.next.length), (15, iA r), (18, .d (rowsD a.next)), (19, iA a.next.length), (20, iA k), (25, .d (intsD nx)), (26, iA 3), (27, iA g.1.k)]) (fun g => [(800, .ar 1 (g.1.B.map bD))]) [800] (fun g => 3 - g.1.k) ⟨⟨B, 0⟩, hR, by simp⟩ (by simp [r1]) (by simp) ?_
      rintro ⟨⟨B, c⟩, hR, hc⟩
      simp only at hR hc
      rcases Nat.lt_or_ge c 3 with hc3 | hc3
      · have hks : a.st (k : Int) := ⟨by omega, by omega⟩
        have hgs := go_st h hks (c := (c : Int)) (by omega)
        have hgo := hgo c
        obtain ⟨t, ht⟩ : ∃ t : Nat, a.go k c = t := ⟨(a.go k c).toNat, by have := hgs.1; omega⟩
        rw [ht] at hgs hgo
        have htn : t < a.next.length := by have := hgs.2; omega
        have a2 := getD_row (xs := nx) (i := c) 0 (by omega)
        rw [← hgo] at a2
        obtain ⟨v, b1, b2, b3, b4⟩ := flag_at hR.us.len hkn
        obtain ⟨u, d1, d2, d3, d4⟩ := flag_at hR.us.len htn
        have hB : RI a B0 (B.set k (v || u)) k (c + 1) := by
          cases v with
          | true =>
            rw [Bool.true_or, set_same b1]
            exact hR.keep fun _ => b3
          | false =>
            cases u with
            | true => exact hR.setT hkn hc3 ht htn b3 d3
            | false =>
              rw [Bool.or_false, set_same b1]
              exact hR.keep fun hb => by rw [ht, Int.toNat_natCast, d3] at hb; cases hb
        simp [hc3, b1, b2, b4, hkn, a2, r1, htn, d1, d2, d4, show (c : Int) < 3 by omega]
        exact ⟨⟨B.set k (v || u), c + 1⟩, .mk (by simp; exact wrap64 (by omega) (by omega)) (by simp [List.map_set, bD]), ⟨hB, hc3⟩, by simp only; omega⟩
      · have : c = 3 := by omega
        subst this
        simp
        refine ⟨⟨B, k + 1⟩, .mk (by simp; exact wrap64 (by omega) (by omega)) (by simp), ⟨hR.next, hkn⟩, by simp only; omega⟩
    · have : k = a.next.length := by omega
      subst this
      simp
      refine ⟨⟨B, r + 1⟩, .mk (by simp; exact wrap64 (by omega) (by omega)) (by simp), ⟨hR.us, hR.round hC0, hrn⟩, by simp only; omega⟩
  · have : r = a.next.length := by omega
    subst this
    have hl := hU0.len
    simp
    exact ⟨by omega, B0, List.take_of_length_le (by rw [List.length_map]; omega), hU0, closed_full hU0 hC0⟩
end Go.Fw
