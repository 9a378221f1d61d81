/- First words: the order of the words, and states met in breadth, with their words. -/
import Derived.Test.YtmodfeaneggloaaLv
set_option linter.unusedSimpArgs false
set_option linter.unusedVariables false
namespace Go.Fw
open Go Go.Proofs
set_option linter.unusedSectionVars false

/-- A word's number: shorter words come first, and in alphabetical order. -/
def num (w : List UInt8) : Nat := w.foldl (fun n b => 3 * n + (ltr b).toNat + 1) 0
theorem num_snoc (w : List UInt8) (b : UInt8) : num (w ++ [b]) = 3 * num w + (ltr b).toNat + 1 := by simp [num, List.foldl_append]
theorem snoc_of {α : Type} : ∀ l : List α, l = [] ∨ ∃ x b, l = x ++ [b]
  | [] => .inl rfl
  | a :: l => by
    rcases snoc_of l with rfl | ⟨x, b, rfl⟩
    · exact .inr ⟨[], a, rfl⟩
    · exact .inr ⟨a :: x, b, rfl⟩
theorem isL_eq {b c : UInt8} (hb : isL b = true) (hc : isL c = true) (h : ltr b = ltr c) : b = c := by
  have h1 := ltr_of hb
  have h2 := ltr_of hc
  exact UInt8.toNat_inj.1 (by omega)
theorem num_inj : ∀ (n : Nat) {w v : List UInt8}, w.length ≤ n → w.all isL = true → v.all isL = true → num w = num v → w = v
  | n, w, v, hn, hw, hv, h => by
    rcases snoc_of w with rfl | ⟨x, b, rfl⟩ <;> rcases snoc_of v with rfl | ⟨y, c, rfl⟩
    · rfl
    · rw [num_snoc] at h; simp [num] at h
    · rw [num_snoc] at h; simp [num] at h
    · rw [List.all_append, Bool.and_eq_true] at hw hv
      have hb : isL b = true := by simpa using hw.2
      have hc : isL c = true := by simpa using hv.2
      rw [num_snoc, num_snoc] at h
      have h1 := ltr_of hb
      have h2 := ltr_of hc
      cases n with
      | zero => simp at hn
      | succ n =>
        have hx := num_inj n (w := x) (v := y) (by simp at hn; omega) hw.1 hv.1 (by omega)
        have hbc := isL_eq hb hc (by omega)
        rw [hx, hbc]

/-- A word is the first of those for which 'acc' holds; or there is none. -/
def FirstW (acc : List UInt8 → Bool) (s : List UInt8) (ok : Bool) : Prop :=
  (ok = true ∧ s.all isL = true ∧ acc s = true ∧ ∀ v, v.all isL = true → acc v = true → num s ≤ num v) ∨ (ok = false ∧ s = [] ∧ ∀ v, v.all isL = true → acc v = false)
theorem FirstW.uniq {f : List UInt8 → Bool} {s s' : List UInt8} {ok ok' : Bool} (h : FirstW f s ok) (h' : FirstW f s' ok') : s = s' ∧ ok = ok' := by
  rcases h with ⟨rfl, h1, h2, h3⟩ | ⟨rfl, rfl, h3⟩ <;> rcases h' with ⟨rfl, g1, g2, g3⟩ | ⟨rfl, rfl, g3⟩
  · have e1 := h3 _ g1 g2
    have e2 := g3 _ h1 h2
    exact ⟨num_inj _ (Nat.le_refl _) h1 g1 (by omega), rfl⟩
  · rw [g3 _ h1] at h2; cases h2
  · rw [h3 _ g1] at g2; cases g2
  · exact ⟨rfl, rfl⟩
theorem FirstW.congr {f g : List UInt8 → Bool} {s : List UInt8} {ok : Bool} (h : FirstW f s ok) (he : ∀ v, v.all isL = true → f v = g v) : FirstW g s ok := by
  rcases h with ⟨rfl, h1, h2, h3⟩ | ⟨rfl, rfl, h3⟩
  · exact .inl ⟨rfl, h1, by rw [← he _ h1]; exact h2, fun v hv hg => h3 v hv (by rw [he _ hv]; exact hg)⟩
  · exact .inr ⟨rfl, rfl, fun v hv => by rw [← he _ hv]; exact h3 v hv⟩

section
variable {S : Type}
def runS (go : S → Int → S) (s : S) (w : List UInt8) : S := w.foldl (fun q b => go q (ltr b)) s
theorem runS_snoc (go : S → Int → S) (s : S) (w : List UInt8) (b : UInt8) : runS go s (w ++ [b]) = go (runS go s w) (ltr b) := by simp [runS, List.foldl_append]

/-- What has been met in breadth, when the letter 'c' behind the state at 'k' is next. -/
structure BfI (go : S → Int → S) (s0 : S) (L : List (S × List UInt8)) (k c : Nat) : Prop where
  h0 : L[0]? = some (s0, [])
  inc : L.Pairwise fun (x y : S × List UInt8) => num x.2 < num y.2
  run : ∀ x ∈ L, x.2.all isL = true ∧ runS go s0 x.2 = x.1
  nd : (L.map Prod.fst).Nodup
  len : ∀ (i : Nat) (x : S × List UInt8), L[i]? = some x → x.2.length ≤ i
  done : ∀ (i d : Nat) (x : S × List UInt8), L[i]? = some x → (i < k ∨ i = k ∧ d < c) → d < 3 → ∃ y ∈ L, y.1 = go x.1 (d : Nat) ∧ num y.2 ≤ 3 * num x.2 + d + 1
  bd : ∀ (x y : S × List UInt8), L[k]? = some x → y ∈ L → num y.2 < 3 * num x.2 + 1 + c

theorem BfI.init (go : S → Int → S) (s0 : S) : BfI go s0 [(s0, [])] 0 0 := by
  refine ⟨rfl, by simp, by simp [runS], by simp, fun i x h => ?_, fun i d x h h1 => by omega, fun x y h hy => ?_⟩
  · cases i with
    | zero => simp at h; subst h; simp
    | succ i => simp at h
  · simp at h hy; subst h; subst hy; simp [num]
theorem BfI.skip {go : S → Int → S} {s0 : S} {L : List (S × List UInt8)} {k c : Nat} {x : S × List UInt8} (h : BfI go s0 L k c) (hx : L[k]? = some x) {y : S × List UInt8} (hy : y ∈ L) (he : y.1 = go x.1 (c : Nat)) : BfI go s0 L k (c + 1) := by
  refine ⟨h.h0, h.inc, h.run, h.nd, h.len, fun i d z hz h1 h2 => ?_, fun z w hz hw => by have := h.bd z w hz hw; omega⟩
  by_cases hn : i < k ∨ i = k ∧ d < c
  · exact h.done i d z hz hn h2
  · have e1 : i = k := by omega
    have e2 : d = c := by omega
    subst e1; subst e2
    rw [hx] at hz; cases hz
    exact ⟨y, hy, he, by have := h.bd x y hx hy; omega⟩
theorem BfI.add {go : S → Int → S} {s0 : S} {L : List (S × List UInt8)} {k c : Nat} {x : S × List UInt8} (h : BfI go s0 L k c) (hx : L[k]? = some x) (hn : go x.1 (c : Nat) ∉ L.map Prod.fst) {b : UInt8} (hb : isL b = true) (hc : ltr b = (c : Nat)) :
    BfI go s0 (L ++ [(go x.1 (c : Nat), x.2 ++ [b])]) k (c + 1) := by
  have hk : k < L.length := by
    rcases Nat.lt_or_ge k L.length with h1 | h1
    · exact h1
    · rw [List.getElem?_eq_none h1] at hx; cases hx
  have hxm : x ∈ L := List.mem_of_getElem? hx
  have hnum : num (x.2 ++ [b]) = 3 * num x.2 + c + 1 := by rw [num_snoc, hc, Int.toNat_natCast]
  obtain ⟨r1, r2⟩ := h.run x hxm
  refine ⟨?_, ?_, ?_, ?_, fun i z hz => ?_, fun i d z hz h1 h2 => ?_, fun z y hz hy => ?_⟩
  · rw [List.getElem?_append_left (by omega)]; exact h.h0
  · rw [List.pairwise_append]
    refine ⟨h.inc, by simp, fun y hy z hz => ?_⟩
    rw [List.mem_singleton.1 hz]
    have := h.bd x y hx hy
    show num y.2 < num (x.2 ++ [b])
    omega
  · intro y hy
    rcases List.mem_append.1 hy with hy | hy
    · exact h.run y hy
    · rw [List.mem_singleton.1 hy]
      refine ⟨by simp [r1, hb], ?_⟩
      show runS go s0 (x.2 ++ [b]) = _
      rw [runS_snoc, r2, hc]
  · rw [List.map_append, List.nodup_append]
    refine ⟨h.nd, by simp, fun y hy z hz => ?_⟩
    simp at hz
    rintro rfl
    rw [hz] at hy
    exact hn hy
  · rcases Nat.lt_or_ge i L.length with hi | hi
    · rw [List.getElem?_append_left hi] at hz; exact h.len i z hz
    · rw [List.getElem?_append_right hi] at hz
      have h3 : i - L.length = 0 := by
        rcases Nat.eq_zero_or_pos (i - L.length) with h4 | h4
        · exact h4
        · rw [List.getElem?_eq_none (by simp; omega)] at hz; cases hz
      rw [h3] at hz; simp at hz
      subst hz
      have := h.len k x hx
      simp; omega
  · rcases Nat.lt_or_ge i L.length with hi | hi
    · rw [List.getElem?_append_left hi] at hz
      by_cases h3 : i < k ∨ i = k ∧ d < c
      · obtain ⟨y, hy, e⟩ := h.done i d z hz h3 h2
        exact ⟨y, List.mem_append.2 (.inl hy), e⟩
      · have e1 : i = k := by omega
        have e2 : d = c := by omega
        subst e1; subst e2
        rw [hx] at hz; cases hz
        exact ⟨_, List.mem_append.2 (.inr (List.mem_singleton.2 rfl)), rfl, by show num (x.2 ++ [b]) ≤ _; omega⟩
    · omega
  · rw [List.getElem?_append_left hk] at hz
    rw [hx] at hz; cases hz
    rcases List.mem_append.1 hy with hy | hy
    · have := h.bd x y hx hy; omega
    · rw [List.mem_singleton.1 hy]
      show num (x.2 ++ [b]) < _
      omega
theorem BfI.next {go : S → Int → S} {s0 : S} {L : List (S × List UInt8)} {k : Nat} (h : BfI go s0 L k 3) : BfI go s0 L (k + 1) 0 := by
  refine ⟨h.h0, h.inc, h.run, h.nd, h.len, fun i d z hz h1 h2 => h.done i d z hz (by omega) h2, fun z y hz hy => ?_⟩
  have hk : k + 1 < L.length := by
    rcases Nat.lt_or_ge (k + 1) L.length with h1 | h1
    · exact h1
    · rw [List.getElem?_eq_none h1] at hz; cases hz
  have e1 := h.bd L[k] y (List.getElem?_eq_getElem (by omega)) hy
  rw [List.getElem?_eq_getElem hk] at hz; cases hz
  have e2 := List.pairwise_iff_getElem.1 h.inc k (k + 1) (by omega) hk (by omega)
  omega

theorem BfI.cover {go : S → Int → S} {s0 : S} {L : List (S × List UInt8)} {k : Nat} (h : BfI go s0 L k 0) : ∀ (n : Nat) (v : List UInt8), v.length ≤ n → v.all isL = true →
    (∃ i x, L[i]? = some x ∧ x.1 = runS go s0 v ∧ num x.2 ≤ num v ∧ i < k) ∨ ∃ i x, L[i]? = some x ∧ k ≤ i ∧ num x.2 ≤ num v
  | n, v, hn, hv => by
    rcases snoc_of v with rfl | ⟨u, b, rfl⟩
    · rcases Nat.lt_or_ge 0 k with h1 | h1
      · exact .inl ⟨0, _, h.h0, rfl, Nat.le_refl _, h1⟩
      · exact .inr ⟨0, _, h.h0, by omega, Nat.le_refl _⟩
    · cases n with
      | zero => simp at hn
      | succ n =>
        rw [List.all_append, Bool.and_eq_true] at hv
        have hb : isL b = true := by simpa using hv.2
        have hlb := ltr_of hb
        rw [num_snoc, runS_snoc]
        rcases BfI.cover h n u (by simp at hn; omega) hv.1 with ⟨i, x, h1, h2, h3, h4⟩ | ⟨i, x, h1, h2, h3⟩
        · obtain ⟨y, hy, e1, e2⟩ := h.done i (ltr b).toNat x h1 (.inl h4) (by omega)
          obtain ⟨j, hj⟩ := List.mem_iff_getElem?.1 hy
          rcases Nat.lt_or_ge j k with hjk | hjk
          · refine .inl ⟨j, y, hj, ?_, by omega, hjk⟩
            rw [e1, h2, Int.toNat_of_nonneg hlb.2.1]
          · exact .inr ⟨j, y, hj, hjk, by omega⟩
        · exact .inr ⟨i, x, h1, h2, by omega⟩
theorem inc_le {L : List (S × List UInt8)} (h : L.Pairwise fun x y => num x.2 < num y.2) {i j : Nat} {x y : S × List UInt8} (hi : L[i]? = some x) (hj : L[j]? = some y) (hij : i ≤ j) : num x.2 ≤ num y.2 := by
  obtain ⟨h1, rfl⟩ := List.getElem?_eq_some_iff.1 hi
  obtain ⟨h2, rfl⟩ := List.getElem?_eq_some_iff.1 hj
  rcases Nat.lt_or_ge i j with h3 | h3
  · exact Nat.le_of_lt (List.pairwise_iff_getElem.1 h i j h1 h2 h3)
  · have : i = j := by omega
    subst this; exact Nat.le_refl _
theorem BfI.found {go : S → Int → S} {s0 : S} {L : List (S × List UInt8)} {k : Nat} (h : BfI go s0 L k 0) {fin : S → Bool} (hf : ∀ i x, L[i]? = some x → i < k → fin x.1 = false) {x : S × List UInt8} (hx : L[k]? = some x) (hfx : fin x.1 = true) :
    FirstW (fun v => fin (runS go s0 v)) x.2 true := by
  obtain ⟨r1, r2⟩ := h.run x (List.mem_of_getElem? hx)
  refine .inl ⟨rfl, r1, by show fin (runS go s0 x.2) = true; rw [r2]; exact hfx, fun v hv hfv => ?_⟩
  have hfv : fin (runS go s0 v) = true := hfv
  rcases h.cover _ v (Nat.le_refl _) hv with ⟨i, y, h1, h2, h3, h4⟩ | ⟨i, y, h1, h2, h3⟩
  · have := hf i y h1 h4
    rw [h2, hfv] at this; cases this
  · have := inc_le h.inc hx h1 h2
    omega
theorem BfI.none {go : S → Int → S} {s0 : S} {L : List (S × List UInt8)} {k : Nat} (h : BfI go s0 L k 0) {fin : S → Bool} (hf : ∀ i x, L[i]? = some x → i < k → fin x.1 = false) (hk : L.length ≤ k) :
    FirstW (fun v => fin (runS go s0 v)) [] false := by
  refine .inr ⟨rfl, rfl, fun v hv => ?_⟩
  rcases h.cover _ v (Nat.le_refl _) hv with ⟨i, y, h1, h2, h3, h4⟩ | ⟨i, y, h1, h2, h3⟩
  · have := hf i y h1 h4
    rw [h2] at this; exact this
  · rw [List.getElem?_eq_none (by omega)] at h1; cases h1
end
end Go.Fw
