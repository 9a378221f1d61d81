/- States that are met one behind the other, as the program finds them. -/
import Derived.Test.YtpecepipllbghaaDoorMa
import Derived.Test.YtpecepipllbghaaDoorFwb
set_option linter.unusedSimpArgs false
set_option linter.unusedVariables false
namespace Go.Fw
open Go Go.Proofs

set_option linter.unusedSectionVars false
/-- A pair of states; a set of states. -/
structure Pr where
  a : Int
  b : Int
deriving DecidableEq
structure St where
  a : Nat
  b : Nat
deriving DecidableEq
def pD (p : Pr) : D := .agg [iD p.a, iD p.b]
def uD (p : St) : D := .agg [.int .u64 p.a, .int .u64 p.b]
theorem key_pD (s t : Pr) : keyEq (pD s) (pD t) = decide (s = t) := by
  cases s; cases t
  rw [Bool.eq_iff_iff]; simp [keyEq, aggEq, pD]
theorem key_uD (s t : St) : keyEq (uD s) (uD t) = decide (s = t) := by
  cases s; cases t
  rw [Bool.eq_iff_iff]; simp [keyEq, aggEq, uD]; omega
section
variable {S : Type} [DecidableEq S]
/-- The map of the numbers. -/
def numE (f : S → D) (L : List S) : List (D × D) := L.zipIdx.map fun p => (f p.1, iD p.2)
theorem numE_snoc (f : S → D) (L : List S) (s : S) : numE f (L ++ [s]) = numE f L ++ [(f s, iD L.length)] := by
  simp [numE, List.zipIdx_append]
theorem numE_find {f : S → D} (hf : ∀ s t, keyEq (f s) (f t) = decide (s = t)) (t : S) : ∀ (L : List S) (n : Nat), ((L.zipIdx n).map fun p => (f p.1, iD p.2)).find? (fun e => keyEq (f t) e.1) = if t ∈ L then some (f t, iD ((L.idxOf t + n : Nat) : Int)) else none
  | [], n => by simp
  | s :: L, n => by
    rw [List.zipIdx_cons, List.map_cons, List.find?_cons]
    by_cases h : t = s
    · subst h
      simp [hf]
    · have h1 : (decide (t = s)) = false := by simp [h]
      have h2 : (s == t) = false := by simp [Ne.symm h]
      have h3 : keyEq (f t) (f s) = false := by rw [hf, h1]
      simp only [h3, numE_find hf t L (n + 1), List.mem_cons, h, false_or, List.idxOf_cons, h2, cond_false]
      rw [show L.idxOf t + (n + 1) = L.idxOf t + 1 + n by omega]
theorem mhas_num {f : S → D} (hf : ∀ s t, keyEq (f s) (f t) = decide (s = t)) (L : List S) (t : S) : mhas (numE f L) (f t) = decide (t ∈ L) := by
  have h := numE_find hf t L 0
  unfold mhas numE
  rw [Bool.eq_iff_iff, List.any_eq_true, ← List.find?_isSome, h]
  split <;> simp [*]
theorem mget_num {f : S → D} (hf : ∀ s t, keyEq (f s) (f t) = decide (s = t)) {L : List S} {t : S} (h : t ∈ L) : mget .i64 (numE f L) (f t) = iD (L.idxOf t) := by
  have h' := numE_find hf t L 0
  unfold mget numE
  rw [h', if_pos h]; simp
/-- A state's row. -/
def rowL (nx : S → Int → S) (L : List S) (s : S) : List Int := (suc nx s).map fun t => (L.idxOf t : Int)
theorem idxOf_prefix {L M : List S} (h : L <+: M) {t : S} (ht : t ∈ L) : M.idxOf t = L.idxOf t := by
  obtain ⟨r, rfl⟩ := h
  rw [List.idxOf_append, if_pos ht]
theorem meets_snoc {L ss : List S} {s : S} : meets L (ss ++ [s]) = meet (meets L ss) s := by simp [meets]
/-- What has been written of a row. -/
def rowC (nx : S → Int → S) (L : List S) (s : S) (c : Nat) : List Int := ((suc nx s).take c).map (fun t => ((meets L ((suc nx s).take c)).idxOf t : Int)) ++ List.replicate (3 - c) 0
theorem suc_take {nx : S → Int → S} {s : S} {c : Nat} (hc : c < 3) : (suc nx s).take (c + 1) = (suc nx s).take c ++ [nx s c] := by
  match c, hc with
  | 0, _ => rfl
  | 1, _ => rfl
  | 2, _ => rfl
theorem rowC_len {nx : S → Int → S} {L : List S} {s : S} {c : Nat} (hc : c ≤ 3) : (rowC nx L s c).length = 3 := by
  simp [rowC, suc]; omega
theorem rowC_succ {nx : S → Int → S} {L : List S} {s : S} {c : Nat} (hc : c < 3) : (rowC nx L s c).set c ((meets L ((suc nx s).take (c + 1))).idxOf (nx s c) : Int) = rowC nx L s (c + 1) := by
  have hl : ((suc nx s).take c).length = c := by simp [suc]; omega
  have hp : meets L ((suc nx s).take c) <+: meets L ((suc nx s).take (c + 1)) := by rw [suc_take hc, meets_snoc]; exact meet_prefix _ _
  unfold rowC
  rw [List.set_append_right _ _ (by rw [List.length_map, hl]; exact Nat.le_refl _), List.length_map, hl, Nat.sub_self, show 3 - c = (3 - (c + 1)) + 1 by omega, List.replicate_succ, List.set_cons_zero]
  rw [suc_take hc, List.map_append, List.append_assoc]
  congr 1
  · refine List.map_congr_left fun t ht => ?_
    rw [← suc_take hc, idxOf_prefix hp (mem_meets.2 (.inr ht))]
theorem rowC_done {nx : S → Int → S} {L : List S} {s : S} : rowC nx L s 3 = rowL nx (meets L (suc nx s)) s := by
  simp [rowC, rowL, suc]
theorem rowL_prefix {nx : S → Int → S} {L M : List S} (h : L <+: M) {s : S} (hs : ∀ t ∈ suc nx s, t ∈ L) : rowL nx M s = rowL nx L s := by
  refine List.map_congr_left fun t ht => ?_
  rw [idxOf_prefix h (hs t ht)]
/-- What is known of the list when one more has been looked at. -/
theorem metK_next {nx : S → Int → S} {s0 s : S} {k : Nat} (hsk : (metK nx s0 k)[k]? = some s) : (metK nx s0 (k + 1)).take (k + 1) = (metK nx s0 k).take k ++ [s] ∧ ((metK nx s0 k).take k).map (rowL nx (metK nx s0 k)) ++ [rowL nx (metK nx s0 (k + 1)) s] = ((metK nx s0 (k + 1)).take (k + 1)).map (rowL nx (metK nx s0 (k + 1))) := by
  obtain ⟨hkl, hs⟩ := List.getElem?_eq_some_iff.1 hsk
  have hpre := metK_succ_prefix (nx := nx) (s0 := s0) k
  have h1 : (metK nx s0 (k + 1)).take (k + 1) = (metK nx s0 k).take k ++ [s] := by
    obtain ⟨r, hr⟩ := hpre
    rw [← hr, List.take_append_of_le_length (by omega), take_snoc hkl, hs]
  refine ⟨h1, ?_⟩
  rw [h1, List.map_append]
  congr 1
  refine List.map_congr_left fun t ht => ?_
  obtain ⟨i, hi, e⟩ := List.mem_iff_getElem.1 ht
  simp at hi
  refine (rowL_prefix hpre fun u hu => ?_).symm
  refine metK_suc (k := k) (i := i) (s := t) (by omega) ?_ u hu
  rw [← e, List.getElem_take, List.getElem?_eq_getElem (by omega)]
theorem autoL_rows (nx : S → Int → S) (fin : S → Bool) (L : List S) : autoL nx fin L = ⟨L.map (rowL nx L), L.map fin⟩ := rfl
end

end Go.Fw
