/- States that are met one behind the other; the smallest automaton of a language: there is only one. -/
import Derived.Test.YteenfgdemklhcaaLv
set_option linter.unusedSimpArgs false
set_option linter.unusedVariables false
namespace Go.Fw
open Go Go.Proofs
set_option linter.unusedSectionVars false
set_option linter.unnecessarySimpa false
/-- A state is met: it is put behind the others, if it is new. -/
def meet {S : Type} [DecidableEq S] (L : List S) (s : S) : List S := if s ∈ L then L else L ++ [s]
def meets {S : Type} [DecidableEq S] (L ss : List S) : List S := ss.foldl meet L
/-- Where the letters lead. -/
def suc {S : Type} (nx : S → Int → S) (s : S) : List S := [nx s 0, nx s 1, nx s 2]
/-- The states that are met when so many have been looked at. -/
def metK {S : Type} [DecidableEq S] (nx : S → Int → S) (s0 : S) : Nat → List S
  | 0 => [s0]
  | k + 1 => match (metK nx s0 k)[k]? with
    | some s => meets (metK nx s0 k) (suc nx s)
    | none => metK nx s0 k

section
variable {S T : Type} [DecidableEq S] [DecidableEq T] {nx : S → Int → S} {s0 : S}

theorem meet_prefix (L : List S) (s : S) : L <+: meet L s := by
  unfold meet; split
  · exact List.prefix_refl _
  · exact List.prefix_append _ _
theorem meets_prefix (ss : List S) : ∀ L : List S, L <+: meets L ss := by
  induction ss with
  | nil => intro L; exact List.prefix_refl _
  | cons s ss ih => intro L; exact (meet_prefix L s).trans (ih (meet L s))
theorem mem_meet {L : List S} {s x : S} : x ∈ meet L s ↔ x ∈ L ∨ x = s := by
  unfold meet; split
  · rename_i h
    constructor
    · exact .inl
    · rintro (h' | rfl)
      · exact h'
      · exact h
  · simp
theorem mem_meets {ss : List S} {x : S} : ∀ {L : List S}, x ∈ meets L ss ↔ x ∈ L ∨ x ∈ ss := by
  induction ss with
  | nil => intro L; simp [meets]
  | cons s ss ih =>
    intro L
    have : meets L (s :: ss) = meets (meet L s) ss := rfl
    rw [this, ih, mem_meet, List.mem_cons, or_assoc]
theorem nodup_meet {L : List S} {s : S} (h : L.Nodup) : (meet L s).Nodup := by
  unfold meet; split
  · exact h
  · rename_i hs
    rw [List.nodup_append]
    refine ⟨h, by simp, fun a ha b hb => ?_⟩
    simp at hb; subst hb
    rintro rfl; exact hs ha
theorem nodup_meets (ss : List S) : ∀ {L : List S}, L.Nodup → (meets L ss).Nodup := by
  induction ss with
  | nil => intro L h; exact h
  | cons s ss ih => intro L h; exact ih (nodup_meet h)
theorem metK_succ_prefix (k : Nat) : metK nx s0 k <+: metK nx s0 (k + 1) := by
  simp only [metK]; split
  · exact meets_prefix _ _
  · exact List.prefix_refl _
theorem metK_prefix {k k' : Nat} (h : k ≤ k') : metK nx s0 k <+: metK nx s0 k' := by
  induction h with
  | refl => exact List.prefix_refl _
  | step _ ih => exact ih.trans (metK_succ_prefix _)
theorem metK_nodup (k : Nat) : (metK nx s0 k).Nodup := by
  induction k with
  | zero => simp [metK]
  | succ k ih =>
    simp only [metK]; split
    · exact nodup_meets _ ih
    · exact ih
theorem metK_stable {k : Nat} (h : (metK nx s0 k).length ≤ k) : ∀ {k' : Nat}, k ≤ k' → metK nx s0 k' = metK nx s0 k := by
  intro k' hk
  induction hk with
  | refl => rfl
  | @step m hm ih =>
    simp only [metK]
    rw [ih, List.getElem?_eq_none (by have : k ≤ m := hm; omega)]
theorem metK_head (k : Nat) : (metK nx s0 k)[0]? = some s0 := by
  have h := metK_prefix (nx := nx) (s0 := s0) (Nat.zero_le k)
  obtain ⟨t, ht⟩ := h
  rw [← ht]; rfl
theorem metK_pos (k : Nat) : 0 < (metK nx s0 k).length := by
  have := metK_head (nx := nx) (s0 := s0) k
  rw [List.getElem?_eq_some_iff] at this
  exact this.1
/-- All states that are met are reached by letters. -/
theorem metK_ind {p : S → Prop} (h0 : p s0) (hs : ∀ s, p s → p (nx s 0) ∧ p (nx s 1) ∧ p (nx s 2)) (k : Nat) : ∀ s ∈ metK nx s0 k, p s := by
  induction k with
  | zero => intro s h; simp [metK] at h; subst h; exact h0
  | succ k ih =>
    intro s h
    simp only [metK] at h
    split at h
    · rename_i u hu
      rcases mem_meets.1 h with h | h
      · exact ih s h
      · have := hs u (ih u (List.mem_of_getElem? hu))
        simp [suc] at h
        rcases h with rfl | rfl | rfl
        · exact this.1
        · exact this.2.1
        · exact this.2.2
    · exact ih s h
/-- Looked at: the letters lead to states that are met. -/
theorem metK_suc {k i : Nat} {s : S} (hi : i < k) (hs : (metK nx s0 k)[i]? = some s) : ∀ t ∈ suc nx s, t ∈ metK nx s0 k := by
  intro t ht
  have hp := metK_prefix (nx := nx) (s0 := s0) (k := i) (k' := k) (by omega)
  have hp2 := metK_prefix (nx := nx) (s0 := s0) (k := i + 1) (k' := k) (by omega)
  refine hp2.subset ?_
  -- the i-th one was there when it was looked at, or nothing is met any more
  rcases Nat.lt_or_ge i (metK nx s0 i).length with h | h
  · have : (metK nx s0 i)[i]? = some s := by
      obtain ⟨r, hr⟩ := hp
      rw [← hr, List.getElem?_append_left h] at hs
      exact hs
    simp only [metK, this]
    exact mem_meets.2 (.inr ht)
  · have := metK_stable h (k' := k) (by omega)
    rw [this, List.getElem?_eq_none h] at hs
    cases hs

/-! ### Two systems side by side -/

def Rel2 (R : S → T → Prop) (L : List S) (M : List T) : Prop := L.length = M.length ∧ ∀ (i : Nat) s t, L[i]? = some s → M[i]? = some t → R s t
theorem Rel2.mem {R : S → T → Prop} (hu : ∀ s t s' t', R s t → R s' t' → (s = s' ↔ t = t')) {L : List S} {M : List T} (h : Rel2 R L M) {s : S} {t : T} (hst : R s t) : s ∈ L ↔ t ∈ M := by
  constructor
  · intro hm
    obtain ⟨i, hi, rfl⟩ := List.mem_iff_getElem.1 hm
    have hi' : i < M.length := by have := h.1; omega
    have := h.2 i _ _ (List.getElem?_eq_getElem hi) (List.getElem?_eq_getElem hi')
    rw [← (hu _ _ _ _ this hst).1 rfl]
    exact List.getElem_mem _
  · intro hm
    obtain ⟨i, hi, rfl⟩ := List.mem_iff_getElem.1 hm
    have hi' : i < L.length := by have := h.1; omega
    have := h.2 i _ _ (List.getElem?_eq_getElem hi') (List.getElem?_eq_getElem hi)
    rw [← (hu _ _ _ _ this hst).2 rfl]
    exact List.getElem_mem _
theorem Rel2.snoc {R : S → T → Prop} {L : List S} {M : List T} (h : Rel2 R L M) {s : S} {t : T} (hst : R s t) : Rel2 R (L ++ [s]) (M ++ [t]) := by
  refine ⟨by simp [h.1], fun i u v hu hv => ?_⟩
  rcases Nat.lt_or_ge i L.length with hi | hi
  · rw [List.getElem?_append_left hi] at hu
    rw [List.getElem?_append_left (by have := h.1; omega)] at hv
    exact h.2 i u v hu hv
  · rw [List.getElem?_append_right hi] at hu
    rw [List.getElem?_append_right (by have := h.1; omega)] at hv
    have e := h.1
    rcases Nat.eq_zero_or_pos (i - L.length) with h0 | h0
    · rw [h0] at hu
      rw [show i - M.length = 0 by omega] at hv
      simp at hu hv; subst hu; subst hv; exact hst
    · rw [List.getElem?_eq_none (by simp; omega)] at hu; cases hu
theorem Rel2.meet {R : S → T → Prop} (hu : ∀ s t s' t', R s t → R s' t' → (s = s' ↔ t = t')) {L : List S} {M : List T} (h : Rel2 R L M) {s : S} {t : T} (hst : R s t) : Rel2 R (meet L s) (meet M t) := by
  unfold Fw.meet
  have := h.mem hu hst
  by_cases hm : s ∈ L
  · rw [if_pos hm, if_pos (this.1 hm)]; exact h
  · rw [if_neg hm, if_neg fun h' => hm (this.2 h')]; exact h.snoc hst
theorem metK_rel {nx' : T → Int → T} {t0 : T} {R : S → T → Prop} (hu : ∀ s t s' t', R s t → R s' t' → (s = s' ↔ t = t')) (h0 : R s0 t0)
    (hs : ∀ s t, R s t → R (nx s 0) (nx' t 0) ∧ R (nx s 1) (nx' t 1) ∧ R (nx s 2) (nx' t 2)) (k : Nat) : Rel2 R (metK nx s0 k) (metK nx' t0 k) := by
  induction k with
  | zero =>
    refine ⟨rfl, fun i s t h1 h2 => ?_⟩
    cases i with
    | zero => simp [metK] at h1 h2; subst h1; subst h2; exact h0
    | succ i => simp [metK] at h1
  | succ k ih =>
    simp only [metK]
    rcases Nat.lt_or_ge k (metK nx s0 k).length with h | h
    · have h' : k < (metK nx' t0 k).length := by have := ih.1; omega
      rw [List.getElem?_eq_getElem h, List.getElem?_eq_getElem h']
      have hr := ih.2 k _ _ (List.getElem?_eq_getElem h) (List.getElem?_eq_getElem h')
      obtain ⟨r0, r1, r2⟩ := hs _ _ hr
      exact ((ih.meet hu r0).meet hu r1).meet hu r2
    · rw [List.getElem?_eq_none h, List.getElem?_eq_none (by have := ih.1; omega)]
      exact ih
theorem Rel2.idx {R : S → T → Prop} (hu : ∀ s t s' t', R s t → R s' t' → (s = s' ↔ t = t')) : ∀ {L : List S} {M : List T}, Rel2 R L M → ∀ {s : S} {t : T}, R s t → L.idxOf s = M.idxOf t
  | [], [], _, _, _, _ => rfl
  | [], _ :: _, h, _, _, _ => by have := h.1; simp at this
  | _ :: _, [], h, _, _, _ => by have := h.1; simp at this
  | x :: L, y :: M, h, s, t, hst => by
    have h1 : R x y := h.2 0 x y rfl rfl
    have h2 : Rel2 R L M := ⟨by have := h.1; simpa using this, fun i u v hu hv => h.2 (i + 1) u v (by simpa using hu) (by simpa using hv)⟩
    have ih := Rel2.idx hu h2 hst
    have := hu _ _ _ _ h1 hst
    rw [List.idxOf_cons, List.idxOf_cons, ih]
    by_cases e : x = s
    · have e' := this.1 e
      simp [e, e']
    · have e' : ¬ y = t := fun h => e (this.2 h)
      have b1 : (x == s) = false := by simpa using e
      have b2 : (y == t) = false := by simpa using e'
      rw [b1, b2]
end

/-! ### The automaton of the states that are met -/

/-- Words, by the letters' numbers. -/
def l3 (w : List Int) : Prop := ∀ c ∈ w, 0 ≤ c ∧ c < 3
def langS {S : Type} (nx : S → Int → S) (fin : S → Bool) (s : S) (w : List Int) : Bool := fin (w.foldl nx s)
abbrev Df.lang (a : Df) (q : Int) (w : List Int) : Bool := langS a.go a.fin q w
/-- The same words lead on to an end. -/
def Same (f g : List Int → Bool) : Prop := ∀ w, l3 w → f w = g w
theorem Same.refl (f : List Int → Bool) : Same f f := fun _ _ => rfl
theorem Same.symm {f g : List Int → Bool} (h : Same f g) : Same g f := fun w hw => (h w hw).symm
theorem Same.trans {f g k : List Int → Bool} (h : Same f g) (h' : Same g k) : Same f k := fun w hw => (h w hw).trans (h' w hw)
theorem l3_cons {c : Int} {w : List Int} : l3 (c :: w) ↔ (0 ≤ c ∧ c < 3) ∧ l3 w := by simp [l3]
theorem langS_cons {S : Type} (nx : S → Int → S) (fin : S → Bool) (s : S) (c : Int) (w : List Int) : langS nx fin s (c :: w) = langS nx fin (nx s c) w := rfl
theorem Same.step {S T : Type} {nx : S → Int → S} {fin : S → Bool} {nx' : T → Int → T} {fin' : T → Bool} {s : S} {t : T} (h : Same (langS nx fin s) (langS nx' fin' t)) {c : Int} (hc : 0 ≤ c ∧ c < 3) : Same (langS nx fin (nx s c)) (langS nx' fin' (nx' t c)) :=
  fun w hw => h (c :: w) (l3_cons.2 ⟨hc, hw⟩)
theorem Same.fin {S T : Type} {nx : S → Int → S} {fin : S → Bool} {nx' : T → Int → T} {fin' : T → Bool} {s : S} {t : T} (h : Same (langS nx fin s) (langS nx' fin' t)) : fin s = fin' t := h [] (by simp [l3])

/-- The automaton of the states in the list, in its order. -/
def autoL {S : Type} [DecidableEq S] (nx : S → Int → S) (fin : S → Bool) (L : List S) : Df := ⟨L.map fun s => (suc nx s).map fun t => (L.idxOf t : Int), L.map fin⟩
/-- All that is met has been looked at. -/
structure Whole {S : Type} [DecidableEq S] (nx : S → Int → S) (s0 : S) (L : List S) : Prop where
  head : L[0]? = some s0
  nodup : L.Nodup
  suc : ∀ s ∈ L, ∀ t ∈ suc nx s, t ∈ L
section
variable {S T : Type} [DecidableEq S] [DecidableEq T] {nx : S → Int → S} {s0 : S}
theorem metK_whole {k : Nat} (h : (metK nx s0 k).length ≤ k) : Whole nx s0 (metK nx s0 k) := by
  refine ⟨metK_head k, metK_nodup k, fun s hs => ?_⟩
  obtain ⟨i, hi, rfl⟩ := List.mem_iff_getElem.1 hs
  exact metK_suc (by omega) (List.getElem?_eq_getElem hi)
theorem letter3 {c : Int} (hc : 0 ≤ c ∧ c < 3) : c = 0 ∨ c = 1 ∨ c = 2 := by omega
theorem mem_suc {s : S} {c : Int} (hc : 0 ≤ c ∧ c < 3) : nx s c ∈ suc nx s := by
  rcases letter3 hc with rfl | rfl | rfl <;> simp [suc]

theorem autoL_len (fin : S → Bool) (L : List S) : (autoL nx fin L).next.length = L.length := by simp [autoL]
theorem autoL_ok (fin : S → Bool) {L : List S} (h : Whole nx s0 L) (h40 : L.length ≤ 40) : okDf (autoL nx fin L) = true := by
  have hpos : 0 < L.length := (List.getElem?_eq_some_iff.1 h.head).1
  simp only [okDf, Bool.and_eq_true, List.all_eq_true, decide_eq_true_eq, autoL_len]
  refine ⟨⟨fun r hr => ?_, ?_⟩, by simp [autoL]⟩
  · simp only [autoL, List.mem_map] at hr
    obtain ⟨s, hs, rfl⟩ := hr
    simp only [dRow, Bool.and_eq_true, decide_eq_true_eq, List.all_eq_true]
    refine ⟨by simp [Fw.suc], fun t ht => ?_⟩
    simp only [List.mem_map] at ht
    obtain ⟨u, hu, rfl⟩ := ht
    have := List.idxOf_lt_length_iff.2 (h.suc s hs u hu)
    simp [inR]; omega
  · simp [inR]; omega
theorem autoL_go (fin : S → Bool) {L : List S} {i : Nat} {s : S} (hs : L[i]? = some s) {c : Int} (hc : 0 ≤ c ∧ c < 3) : (autoL nx fin L).go i c = (L.idxOf (nx s c) : Int) := by
  have hi := (List.getElem?_eq_some_iff.1 hs).1
  have e : (autoL nx fin L).next.getD i [] = (Fw.suc nx s).map fun t => (L.idxOf t : Int) := by
    simp [autoL, hs]
  simp only [Df.go, Int.toNat_natCast, e]
  rcases letter3 hc with rfl | rfl | rfl <;> simp [Fw.suc]
theorem autoL_fin (fin : S → Bool) {L : List S} {i : Nat} {s : S} (hs : L[i]? = some s) : (autoL nx fin L).fin i = fin s := by
  simp [Df.fin, autoL, hs]
/-- A state's number, and the state. -/
def AtL (L : List S) (q : Int) (s : S) : Prop := 0 ≤ q ∧ L[q.toNat]? = some s
theorem atL_idx {L : List S} {s : S} (h : s ∈ L) : AtL L (L.idxOf s : Int) s := by
  refine ⟨by omega, ?_⟩
  rw [Int.toNat_natCast, List.getElem?_eq_getElem (List.idxOf_lt_length_iff.2 h), List.getElem_idxOf]
theorem AtL.mem {L : List S} {q : Int} {s : S} (h : AtL L q s) : s ∈ L := List.mem_of_getElem? h.2
theorem AtL.go (fin : S → Bool) {L : List S} (h : Whole nx s0 L) {q : Int} {s : S} (hq : AtL L q s) {c : Int} (hc : 0 ≤ c ∧ c < 3) : AtL L ((autoL nx fin L).go q c) (nx s c) := by
  have := autoL_go (nx := nx) fin hq.2 hc
  rw [Int.toNat_of_nonneg hq.1] at this
  rw [this]
  exact atL_idx (h.suc s hq.mem _ (mem_suc hc))
theorem AtL.fin (fin : S → Bool) {L : List S} {q : Int} {s : S} (hq : AtL L q s) : (autoL nx fin L).fin q = fin s := by
  have := autoL_fin (nx := nx) fin hq.2
  rwa [Int.toNat_of_nonneg hq.1] at this
theorem AtL.same (fin : S → Bool) {L : List S} (h : Whole nx s0 L) {q : Int} {s : S} (hq : AtL L q s) : Same ((autoL nx fin L).lang q) (langS nx fin s) := by
  intro w
  induction w generalizing q s with
  | nil => intro _; exact hq.fin fin
  | cons c w ih => intro hw; rw [l3_cons] at hw; exact ih (hq.go fin h hw.1) hw.2
theorem AtL.uniq {L : List S} (h : L.Nodup) : ∀ (q : Int) s q' s', AtL L q s → AtL L q' s' → (q = q' ↔ s = s') := by
  intro q s q' s' h1 h2
  constructor
  · rintro rfl
    have := h1.2.symm.trans h2.2
    simpa using this
  · rintro rfl
    obtain ⟨l1, e1⟩ := List.getElem?_eq_some_iff.1 h1.2
    obtain ⟨l2, e2⟩ := List.getElem?_eq_some_iff.1 h2.2
    have := (List.getElem_inj h).1 (e1.trans e2.symm)
    have a := h1.1
    have b := h2.1
    omega
/-- Its states are met in their order. -/
theorem autoL_order (fin : S → Bool) {k : Nat} (hk : (metK nx s0 k).length ≤ k) {L : List S} (hL : L = metK nx s0 k) (k' : Nat) (hk' : k ≤ k') : metK (autoL nx fin L).go 0 k' = (List.range L.length).map fun (i : Nat) => (i : Int) := by
  have hw : Whole nx s0 L := hL ▸ metK_whole hk
  have hr := metK_rel (R := AtL L) (nx := (autoL nx fin L).go) (nx' := nx) (s0 := 0) (t0 := s0) (AtL.uniq hw.nodup) ⟨by omega, hw.head⟩
    (fun q s h => ⟨h.go fin hw (by omega), h.go fin hw (by omega), h.go fin hw (by omega)⟩) k'
  rw [metK_stable hk hk', ← hL] at hr
  refine List.ext_getElem (by rw [hr.1]; simp) fun i h1 h2 => ?_
  have hi : i < L.length := by simpa using h2
  have := hr.2 i _ _ (List.getElem?_eq_getElem h1) (List.getElem?_eq_getElem hi)
  have h3 : AtL L (i : Int) L[i] := ⟨by omega, by simpa using List.getElem?_eq_getElem hi⟩
  have := (AtL.uniq hw.nodup _ _ _ _ this h3).2 rfl
  rw [this]; simp
end

/-- The smallest automaton of its language, its states in the order in which they are met. -/
structure Canon (m : Df) : Prop where
  ok : okDf m = true
  order : ∃ k, ∀ k', k ≤ k' → metK m.go 0 k' = (List.range m.next.length).map fun (i : Nat) => (i : Int)
  apart : ∀ q r, m.st q → m.st r → Same (m.lang q) (m.lang r) → q = r

theorem Df.ext_go {a b : Df} (ha : okDf a = true) (hb : okDf b = true) (hl : a.next.length = b.next.length) (hg : ∀ q c, a.st q → 0 ≤ c ∧ c < 3 → a.go q c = b.go q c) (hf : ∀ q, a.st q → a.fin q = b.fin q) : a = b := by
  obtain ⟨a1, a2, a3⟩ := okDf_len ha
  obtain ⟨b1, b2, b3⟩ := okDf_len hb
  have e1 : a.next = b.next := by
    refine List.ext_getElem hl fun i h1 h2 => ?_
    have r1 := okDf_row ha h1
    have r2 := okDf_row hb h2
    have g1 := (getD_row (xs := a.next) (i := i) [] h1).2 h1
    have g2 := (getD_row (xs := b.next) (i := i) [] h2).2 h2
    rw [g1, g2]
    refine List.ext_getElem (by omega) fun j j1 j2 => ?_
    have := hg i j ⟨by omega, by omega⟩ ⟨by omega, by omega⟩
    simp only [Df.go, Int.toNat_natCast] at this
    rw [(getD_row (0 : Int) j1).2 j1, (getD_row (0 : Int) j2).2 j2]; exact this
  have e2 : a.ends = b.ends := by
    refine List.ext_getElem (by omega) fun i h1 h2 => ?_
    have := hf i ⟨by omega, by omega⟩
    simp only [Df.fin, Int.toNat_natCast] at this
    rw [(getD_row false h1).2 h1, (getD_row false h2).2 h2]; exact this
  cases a; cases b; simp only at e1 e2; subst e1; subst e2; rfl

/-- There is only one. -/
theorem Canon.uniq {m n : Df} (hm : Canon m) (hn : Canon n) (h : Same (m.lang 0) (n.lang 0)) : m = n := by
  let R : Int → Int → Prop := fun q r => (m.st q ∧ n.st r) ∧ Same (m.lang q) (n.lang r)
  have hu : ∀ q r q' r', R q r → R q' r' → (q = q' ↔ r = r') := by
    intro q r q' r' h1 h2
    constructor
    · rintro rfl; exact hn.apart _ _ h1.1.2 h2.1.2 (h1.2.symm.trans h2.2)
    · rintro rfl; exact hm.apart _ _ h1.1.1 h2.1.1 (h1.2.trans h2.2.symm)
  have hs : ∀ q r, R q r → ∀ c, 0 ≤ c ∧ c < 3 → R (m.go q c) (n.go r c) := fun q r h c hc => ⟨⟨go_st hm.ok h.1.1 hc, go_st hn.ok h.1.2 hc⟩, h.2.step hc⟩
  obtain ⟨k1, o1⟩ := hm.order
  obtain ⟨k2, o2⟩ := hn.order
  have hr := metK_rel (R := R) hu (nx := m.go) (nx' := n.go) (s0 := 0) (t0 := 0) ⟨⟨st0 hm.ok, st0 hn.ok⟩, h⟩ (fun q r h => ⟨hs q r h 0 (by omega), hs q r h 1 (by omega), hs q r h 2 (by omega)⟩) (max k1 k2)
  rw [o1 _ (Nat.le_max_left _ _), o2 _ (Nat.le_max_right _ _)] at hr
  have hl : m.next.length = n.next.length := by simpa using hr.1
  have hd : ∀ i : Nat, i < m.next.length → R i i := fun i hi => hr.2 i _ _ (by simp [hi]) (by simp [← hl, hi])
  have hd2 : ∀ q, m.st q → R q q := fun q hq => by
    have := hd q.toNat (by have := hq.1; have := hq.2; omega)
    rwa [Int.toNat_of_nonneg hq.1] at this
  refine Df.ext_go hm.ok hn.ok hl (fun q c hq hc => ?_) fun q hq => (hd2 q hq).2.fin
  have h1 := hs q q (hd2 q hq) c hc
  have h2 := hd2 _ h1.1.1
  exact (hu _ _ _ _ h1 h2).2 |> fun _ => ((hu _ _ _ _ h2 h1).1 rfl).symm ▸ rfl

/-! ### Classes -/

/-- Of every state a state with the same language, of all these the same one. -/
structure Classes (d : Df) (f : Int → Int) : Prop where
  st : ∀ q, d.st q → d.st (f q)
  same : ∀ q, d.st q → Same (d.lang (f q)) (d.lang q)
  one : ∀ q r, d.st q → d.st r → Same (d.lang q) (d.lang r) → f q = f r

theorem Classes.lang {d : Df} (hd : okDf d = true) {f : Int → Int} (h : Classes d f) {nx : Int → Int → Int} (hnx : ∀ q c, d.st q → 0 ≤ c ∧ c < 3 → nx q c = f (d.go q c)) : ∀ {q : Int}, d.st q → Same (langS nx d.fin q) (d.lang q) := by
  intro q hq w
  induction w generalizing q with
  | nil => intro _; rfl
  | cons c w ih =>
    intro hw
    rw [l3_cons] at hw
    have hg := go_st hd hq hw.1
    rw [langS_cons, hnx q c hq hw.1, ih (h.st _ hg) hw.2, h.same _ hg w hw.2]; rfl

/-- The automaton of the classes is the smallest one. -/
theorem canon_of_classes {d : Df} (hd : okDf d = true) {f : Int → Int} (h : Classes d f) {nx : Int → Int → Int} (hnx : ∀ q c, d.st q → 0 ≤ c ∧ c < 3 → nx q c = f (d.go q c)) {k : Nat} (hk : (metK nx (f 0) k).length ≤ k) (hk2 : (metK nx (f 0) k).length ≤ 40)
    {fin : Int → Bool} (hfin : ∀ q, d.st q → fin q = d.fin q) : Canon (autoL nx fin (metK nx (f 0) k)) ∧ Same ((autoL nx fin (metK nx (f 0) k)).lang 0) (d.lang 0) := by
  have hw := metK_whole hk
  have hin : ∀ s ∈ metK nx (f 0) k, d.st s ∧ ∃ r, d.st r ∧ s = f r := metK_ind (p := fun s => d.st s ∧ ∃ r, d.st r ∧ s = f r) ⟨h.st _ (st0 hd), 0, st0 hd, rfl⟩
    (fun s hs => by
      have : ∀ c, 0 ≤ c ∧ c < 3 → d.st (nx s c) ∧ ∃ r, d.st r ∧ nx s c = f r := fun c hc => by
        have hg := go_st hd hs.1 hc
        rw [hnx s c hs.1 hc]; exact ⟨h.st _ hg, _, hg, rfl⟩
      exact ⟨this 0 (by omega), this 1 (by omega), this 2 (by omega)⟩) k
  have hlang : ∀ s, d.st s → Same (langS nx fin s) (d.lang s) := fun s hs => by
    refine Same.trans ?_ (h.lang hd hnx hs)
    intro w
    induction w generalizing s with
    | nil => intro _; exact hfin s hs
    | cons c w ih =>
      intro hw
      rw [l3_cons] at hw
      rw [langS_cons, langS_cons]
      refine ih _ ?_ hw.2
      rw [hnx s c hs hw.1]; exact h.st _ (go_st hd hs hw.1)
  have hf1 : ∀ s ∈ metK nx (f 0) k, f s = s := fun s hs => by
    obtain ⟨h1, r, h2, rfl⟩ := hin s hs
    exact h.one _ _ h1 h2 (h.same _ h2)
  refine ⟨⟨autoL_ok fin hw hk2, ⟨k, fun k' hk' => ?_⟩, fun q r hq hr hsame => ?_⟩, ?_⟩
  · rw [autoL_len]; exact autoL_order fin hk rfl k' hk'
  · unfold Df.st at hq hr
    rw [autoL_len] at hq hr
    have a1 : AtL (metK nx (f 0) k) q _ := ⟨hq.1, List.getElem?_eq_getElem (by omega)⟩
    have a2 : AtL (metK nx (f 0) k) r _ := ⟨hr.1, List.getElem?_eq_getElem (by omega)⟩
    have s1 := a1.same fin hw
    have s2 := a2.same fin hw
    have m1 := hin _ a1.mem
    have m2 := hin _ a2.mem
    have := h.one _ _ m1.1 m2.1 (((hlang _ m1.1).symm.trans s1.symm).trans (hsame.trans (s2.trans (hlang _ m2.1))))
    rw [hf1 _ a1.mem, hf1 _ a2.mem] at this
    exact (AtL.uniq (hw.nodup) q _ r _ a1 a2).2 this
  · have a0 : AtL (metK nx (f 0) k) 0 (f 0) := ⟨by omega, hw.head⟩
    exact ((a0.same fin hw).trans (hlang _ (h.st _ (st0 hd)))).trans (h.same _ (st0 hd))

/-! ### Classes, found step by step -/

/-- The same short words lead on to an end. -/
def SameK (d : Df) (k : Nat) (q r : Int) : Prop := ∀ w, l3 w → w.length ≤ k → d.lang q w = d.lang r w
theorem SameK.symm {d : Df} {k : Nat} {q r : Int} (h : SameK d k q r) : SameK d k r q := fun w hw hl => (h w hw hl).symm
theorem SameK.trans {d : Df} {k : Nat} {q r s : Int} (h : SameK d k q r) (h' : SameK d k r s) : SameK d k q s := fun w hw hl => (h w hw hl).trans (h' w hw hl)
theorem sameK_zero {d : Df} {q r : Int} : SameK d 0 q r ↔ d.fin q = d.fin r := by
  constructor
  · intro h; exact h [] (by simp [l3]) (by simp)
  · intro h w _ hl
    have : w = [] := by cases w <;> simp at hl ⊢
    subst this; exact h
theorem sameK_succ {d : Df} {k : Nat} {q r : Int} : SameK d (k + 1) q r ↔ SameK d k q r ∧ ∀ c, 0 ≤ c ∧ c < 3 → SameK d k (d.go q c) (d.go r c) := by
  constructor
  · intro h
    exact ⟨fun w hw hl => h w hw (by omega), fun c hc w hw hl => h (c :: w) (l3_cons.2 ⟨hc, hw⟩) (by simp; omega)⟩
  · rintro ⟨h1, h2⟩ w hw hl
    cases w with
    | nil => exact h1 [] hw (by simp)
    | cons c w => rw [l3_cons] at hw; exact h2 c hw.1 w hw.2 (by simp at hl; omega)
theorem Same.k {d : Df} {q r : Int} (h : Same (d.lang q) (d.lang r)) (k : Nat) : SameK d k q r := fun w hw _ => h w hw
theorem same_of_stable {d : Df} (hd : okDf d = true) {k : Nat} (hst : ∀ q r, d.st q → d.st r → SameK d k q r → SameK d (k + 1) q r) : ∀ {q r : Int}, d.st q → d.st r → SameK d k q r → Same (d.lang q) (d.lang r) := by
  intro q r hq hr h w
  induction w generalizing q r with
  | nil => intro hw; exact h [] hw (by simp)
  | cons c w ih =>
    intro hw
    rw [l3_cons] at hw
    exact ih (go_st hd hq hw.1) (go_st hd hr hw.1) ((sameK_succ.1 (hst q r hq hr h)).2 c hw.1) hw.2

/-- The list tells classes of states that short words don't tell apart. -/
structure ClsK (d : Df) (k : Nat) (cl : List Int) : Prop where
  len : cl.length = d.next.length
  iff : ∀ q r, d.st q → d.st r → (cl.getD q.toNat 0 = cl.getD r.toNat 0 ↔ SameK d k q r)
/-- The same class, and letters lead to the same classes. -/
def sameRowB (d : Df) (cl : List Int) (q r : Int) : Bool := [0, 1, 2].all fun c => decide (cl.getD (d.go q c).toNat 0 = cl.getD (d.go r c).toNat 0)
def finerB (d : Df) (cl : List Int) (q r : Int) : Bool := decide (cl.getD q.toNat 0 = cl.getD r.toNat 0) && sameRowB d cl q r
theorem ClsK.row {d : Df} (hd : okDf d = true) {k : Nat} {cl : List Int} (h : ClsK d k cl) {q r : Int} (hq : d.st q) (hr : d.st r) : sameRowB d cl q r = true ↔ ∀ c, 0 ≤ c ∧ c < 3 → SameK d k (d.go q c) (d.go r c) := by
  have e : ∀ c, 0 ≤ c ∧ c < 3 → (cl.getD (d.go q c).toNat 0 = cl.getD (d.go r c).toNat 0 ↔ SameK d k (d.go q c) (d.go r c)) := fun c hc => h.iff _ _ (go_st hd hq hc) (go_st hd hr hc)
  simp only [sameRowB, List.all_cons, List.all_nil, Bool.and_true, Bool.and_eq_true, decide_eq_true_eq]
  rw [e 0 (by omega), e 1 (by omega), e 2 (by omega)]
  constructor
  · rintro ⟨h0, h1, h2⟩ c hc
    rcases letter3 hc with rfl | rfl | rfl
    · exact h0
    · exact h1
    · exact h2
  · intro h; exact ⟨h 0 (by omega), h 1 (by omega), h 2 (by omega)⟩
theorem ClsK.finer {d : Df} (hd : okDf d = true) {k : Nat} {cl : List Int} (h : ClsK d k cl) {q r : Int} (hq : d.st q) (hr : d.st r) : finerB d cl q r = true ↔ SameK d (k + 1) q r := by
  rw [sameK_succ, finerB, Bool.and_eq_true, decide_eq_true_eq, h.iff q r hq hr, h.row hd hq hr]
/-- The first one that short words don't tell apart from this one. -/
structure FstK (d : Df) (k : Nat) (q o : Int) : Prop where
  st : d.st o
  le : o ≤ q
  same : SameK d k o q
  first : ∀ r, d.st r → SameK d k r q → o ≤ r
theorem FstK.uniq {d : Df} {k : Nat} {q r o p : Int} (h : FstK d k q o) (h' : FstK d k r p) (hs : SameK d k q r) : o = p := by
  have := h.first p h'.st (h'.same.trans hs.symm)
  have := h'.first o h.st (h.same.trans hs)
  omega
/-- A list of first ones tells classes. -/
theorem clsK_of_first {d : Df} {k : Nat} {cl : List Int} (hl : cl.length = d.next.length) (h : ∀ q, d.st q → FstK d k q (cl.getD q.toNat 0)) : ClsK d k cl := by
  refine ⟨hl, fun q r hq hr => ⟨fun e => ?_, fun hs => (h q hq).uniq (h r hr) hs⟩⟩
  exact (h q hq).same.symm.trans (e ▸ (h r hr).same)
theorem FstK.mono {d : Df} {k : Nat} {q o p : Int} (h : FstK d k q o) (h' : FstK d (k + 1) q p) : o ≤ p := h.first p h'.st (sameK_succ.1 h'.same).1
/-- When nothing is told apart any more. -/
theorem classes_of_stable {d : Df} (hd : okDf d = true) {k : Nat} {cl : List Int} (h : ∀ q, d.st q → FstK d k q (cl.getD q.toNat 0)) (hst : ∀ q r, d.st q → d.st r → SameK d k q r → SameK d (k + 1) q r) : Classes d fun q => cl.getD q.toNat 0 := by
  refine ⟨fun q hq => (h q hq).st, fun q hq => same_of_stable hd hst (h q hq).st hq (h q hq).same, fun q r hq hr hs => (h q hq).uniq (h r hr) (hs.k k)⟩

theorem nodup_bound : ∀ (n : Nat) (L : List Int), L.Nodup → (∀ x ∈ L, 0 ≤ x ∧ x < n) → L.length ≤ n
  | 0, [], _, _ => Nat.le_refl _
  | 0, x :: L, _, h => by have := h x (by simp); omega
  | n + 1, L, hn, h => by
    have ih := nodup_bound n (L.erase (n : Int)) (hn.erase _) fun x hx => by
      have h1 := h x (List.mem_of_mem_erase hx)
      have : x ≠ (n : Int) := by
        rintro rfl
        exact (List.Nodup.not_mem_erase hn) hx
      omega
    rw [List.length_erase] at ih
    split at ih <;> omega
/-- Of numbered states no more are met than there are. -/
theorem metK_bound {d : Df} (hd : okDf d = true) {nx : Int → Int → Int} {s0 : Int} (h0 : d.st s0) (hn : ∀ q c, d.st q → 0 ≤ c ∧ c < 3 → d.st (nx q c)) (k : Nat) : (metK nx s0 k).length ≤ d.next.length ∧ ∀ s ∈ metK nx s0 k, d.st s := by
  have h := metK_ind (nx := nx) (s0 := s0) (p := d.st) h0 (fun s hs => ⟨hn s 0 hs (by omega), hn s 1 hs (by omega), hn s 2 hs (by omega)⟩) k
  exact ⟨nodup_bound _ _ (metK_nodup k) h, h⟩
end Go.Fw
