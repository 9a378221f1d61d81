/- Sets of states that are met, as the specification finds them. -/
import Derived.Test.YteenfgdemklhcaaMk
import Derived.Test.YteenfgdemklhcaaMh
set_option linter.unusedSimpArgs false
set_option linter.unusedVariables false
namespace Go.Fw
open Go Go.Proofs
set_option linter.unusedSectionVars false

/-- A state's number, whatever the way of comparing that Lean finds. -/
def ixOf {S : Type} [DecidableEq S] (L : List S) (t : S) : Nat := L.idxOf t
theorem ixOf_is {S : Type} [DecidableEq S] (L : List S) (t : S) : L.idxOf t = ixOf L t := rfl

theorem ixOf_eq {S : Type} [DecidableEq S] {L : List S} {t : S} {i : Nat} (h : i < L.length) (he : L[i] = t) (hp : ∀ j (h : j < L.length), j < i → L[j] ≠ t) : ixOf L t = i := by
  have hm : t ∈ L := he ▸ List.getElem_mem h
  have h3 : ixOf L t ≤ i := by
    rcases Nat.lt_or_ge i (ixOf L t) with h4 | h4
    · have := List.not_of_lt_findIdx (p := (· == t)) (xs := L) h4
      simp [he] at this
    · exact h4
  have h5 : ixOf L t < L.length := List.idxOf_lt_length_iff.2 hm
  rcases Nat.lt_or_ge (ixOf L t) i with h6 | h6
  · exact absurd (List.getElem_idxOf h5) (hp _ h5 h6)
  · omega
theorem ixOf_snoc {S : Type} [DecidableEq S] {L : List S} {t : S} (h : t ∉ L) : ixOf (L ++ [t]) t = L.length := by
  unfold ixOf; rw [List.idxOf_append, if_neg h]; simp

section
variable {S : Type} [DecidableEq S]
theorem meets_len (ss : List S) : ∀ L : List S, (meets L ss).length ≤ L.length + ss.length := by
  induction ss with
  | nil => intro L; exact Nat.le_refl _
  | cons s ss ih =>
    intro L
    have h1 : (meet L s).length ≤ L.length + 1 := by unfold meet; split <;> simp
    have := ih (meet L s)
    show (meets (meet L s) ss).length ≤ _
    simp; omega
/-- What has been written of a row that grows. -/
def rowG (nx : S → Int → S) (L : List S) (s : S) (c : Nat) : List Int := ((suc nx s).take c).map fun t => ((meets L ((suc nx s).take c)).idxOf t : Int)
theorem rowG_len {nx : S → Int → S} {L : List S} {s : S} {c : Nat} (hc : c ≤ 3) : (rowG nx L s c).length = c := by simp [rowG, suc]; omega
theorem rowG_succ {nx : S → Int → S} {L : List S} {s : S} {c : Nat} (hc : c < 3) : rowG nx L s (c + 1) = rowG nx L s c ++ [((meets L ((suc nx s).take (c + 1))).idxOf (nx s c) : Int)] := by
  have hp : meets L ((suc nx s).take c) <+: meets L ((suc nx s).take (c + 1)) := by rw [suc_take hc, meets_snoc]; exact meet_prefix _ _
  unfold rowG
  rw [suc_take hc, List.map_append]
  congr 1
  refine List.map_congr_left fun t ht => ?_
  rw [← suc_take hc, idxOf_prefix hp (mem_meets.2 (.inr ht))]
theorem rowG_done {nx : S → Int → S} {L : List S} {s : S} : rowG nx L s 3 = rowL nx (meets L (suc nx s)) s := by simp [rowG, rowL, suc]
end

abbrev nxE (a : Na) : List Bool → Int → List Bool := fun xs c => nextE a.n.toNat a.ms xs c

end Go.Fw
