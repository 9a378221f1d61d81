/- Into how many parts a text can be divided. -/
import Derived.Test.YtpecepipllbghaaLv
set_option linter.unusedSimpArgs false
set_option linter.unusedVariables false
namespace Go.Fw
open Go Go.Proofs

/-! ### Into how many parts a text can be divided -/

def stepP (a : Df) (s : List UInt8) (bs : List Int) (j : Nat) (n : Int) (i : Nat) : Int := if (0 ≤ bs.getD i 0 ∧ a.acc ((s.take j).drop i) = true) ∧ (n < 0 ∨ bs.getD i 0 + 1 < n) then bs.getD i 0 + 1 else n
def partsN (a : Df) (s : List UInt8) (bs : List Int) (j i : Nat) : Int := (List.range i).foldl (stepP a s bs j) (-1)
def partsL (a : Df) (s : List UInt8) : Nat → List Int
  | 0 => [0]
  | j + 1 => partsL a s j ++ [partsN a s (partsL a s j) (j + 1) (j + 1)]
theorem partsN_succ (a : Df) (s : List UInt8) (bs : List Int) (j i : Nat) : partsN a s bs j (i + 1) = stepP a s bs j (partsN a s bs j i) i := by
  unfold partsN; rw [List.range_succ, List.foldl_append]; rfl
theorem partsN_bd (a : Df) (s : List UInt8) (bs : List Int) (j : Nat) : ∀ i, (∀ k, k < i → -1 ≤ bs.getD k 0 ∧ bs.getD k 0 ≤ k) → -1 ≤ partsN a s bs j i ∧ partsN a s bs j i ≤ i
  | 0, _ => by simp [partsN]
  | i + 1, h => by
    have ih := partsN_bd a s bs j i fun k hk => h k (by omega)
    have := h i (by omega)
    rw [partsN_succ]; unfold stepP
    split <;> omega
theorem partsL_len (a : Df) (s : List UInt8) : ∀ j, (partsL a s j).length = j + 1
  | 0 => rfl
  | j + 1 => by simp [partsL, partsL_len a s j]
theorem partsL_bd (a : Df) (s : List UInt8) : ∀ j k, k ≤ j → -1 ≤ (partsL a s j).getD k 0 ∧ (partsL a s j).getD k 0 ≤ k
  | 0, k, h => by
    have : k = 0 := by omega
    subst this; simp [partsL]
  | j + 1, k, h => by
    have ih := partsL_bd a s j
    have hl := partsL_len a s j
    simp only [partsL, List.getD_eq_getElem?_getD, List.getElem?_append]
    split
    · rename_i hk
      have := ih k (by omega)
      simpa [List.getD_eq_getElem?_getD] using this
    · have : k = j + 1 := by omega
      subst this
      have := partsN_bd a s (partsL a s j) (j + 1) (j + 1) fun k hk => ih k (by omega)
      simp [hl]; omega
def fewest (a : Df) (s : List UInt8) : Int := if okDf a && textOk s then (partsL a s s.length).getD s.length 0 else -1

/-- The row while one place is reckoned. -/
def rowP (a : Df) (s : List UInt8) (L j : Nat) (n : Int) : List Int := partsL a s j ++ n :: List.replicate (L - (j + 1)) 0
theorem rowP_len (a : Df) (s : List UInt8) {L j : Nat} (h : j < L) (n : Int) : (rowP a s L j n).length = L + 1 := by simp [rowP, partsL_len]; omega
theorem rowP_get (a : Df) (s : List UInt8) {L j i : Nat} (h : i ≤ j) (n : Int) : (rowP a s L j n).getD i 0 = (partsL a s j).getD i 0 := by
  simp only [rowP, List.getD_eq_getElem?_getD]
  rw [List.getElem?_append_left (by rw [partsL_len]; omega)]
theorem rowP_self (a : Df) (s : List UInt8) {L j : Nat} (n : Int) : (rowP a s L j n).getD (j + 1) 0 = n := by
  simp only [rowP, List.getD_eq_getElem?_getD]
  rw [List.getElem?_append_right (by rw [partsL_len]; omega), partsL_len]; simp
theorem rowP_set (a : Df) (s : List UInt8) {L j : Nat} (n x : Int) : (rowP a s L j n).set (j + 1) x = rowP a s L j x := by
  simp only [rowP]
  rw [List.set_append_right _ _ (by rw [partsL_len]; omega), partsL_len]; simp
theorem rowP_setD (a : Df) (s : List UInt8) {L j : Nat} (n x : Int) : ((rowP a s L j n).map iD).set (j + 1) (.int .i64 x) = (rowP a s L j x).map iD := by
  rw [← rowP_set a s n x, List.map_set]
theorem rowP_zero (a : Df) (s : List UInt8) {L j : Nat} (h : j < L) : partsL a s j ++ List.replicate (L - j) 0 = rowP a s L j 0 := by
  rw [rowP, show L - j = (L - (j + 1)) + 1 by omega, List.replicate_succ]
theorem rowP_done (a : Df) (s : List UInt8) {L j : Nat} : rowP a s L j (partsN a s (partsL a s j) (j + 1) (j + 1)) = partsL a s (j + 1) ++ List.replicate (L - (j + 1)) 0 := by
  simp [rowP, partsL]

set_option maxRecDepth 100000 in
theorem c_FewestParts (a : Df) (s : List UInt8) (h : a.fine) (hsl : s.length ≤ 9223372036854775807) : DCalls Try.prog 22 [.d a.d, sA s] fun y => y = iD (fewest a s) := by
  refine dcalls_intro Ty.mixed Try.func22 rfl rfl rfl [2] (by kernel_rfl) (by simp) ?_
  simp [Df.d]
  refine .dval (c_DfaValid a h) rfl (by simp [Df.d]) rfl ?_
  simp
  refine .flat (fun _ => c_TextValid s hsl) rfl (by simp) rfl (by simp) ?_
  simp
  refine ⟨fun hno => by rcases hno with hno | hno <;> simp [fewest, hno], fun h1 h2 => ?_⟩
  have hwl : (s.length : Int) ≤ 30 := letters_len h2
  have hall := letters_all h2
  have hw1 : IntKind.i64.wrap ((s.length : Int) + 1) = ((s.length + 1 : Nat) : Int) := wrap64 (by omega) (by omega)
  simp [hw1]
  refine ⟨by omega, ?_⟩
  refine LoopVC.at { j : Nat // j ≤ s.length } (fun j => [(1, sA s), (2, .dp [.d (rowsD a.next), .d (bsD a.ends)]), (5, .sl 1 1900 0 (s.length + 1)), (6, iA (j.1 + 1))]) (fun j => [(1900, .ar 1 ((partsL a s j.1 ++ List.replicate (s.length - j.1) 0).map iD))]) [1900] (fun j => s.length - j.1) ⟨0, by simp⟩ (by simp) (by simp [partsL, List.replicate_succ]) ?_
  rintro ⟨j, hj⟩
  have hlen := partsL_len a s j
  have hbd := partsL_bd a s j
  rcases Nat.lt_or_ge j s.length with h' | h'
  · simp only [rowP_zero a s h']
    have hrl := rowP_len a s h' 0
    have hset := rowP_setD a s (L := s.length) (j := j) 0 (-1)
    simp [show (j : Int) + 1 ≤ s.length by omega, hrl, hset, show j + 1 < s.length + 1 by omega]
    refine ⟨by omega, ?_⟩
    refine LoopVC.at { i : Nat // i ≤ j + 1 } (fun i => [(1, sA s), (2, .dp [.d (rowsD a.next), .d (bsD a.ends)]), (5, .sl 1 1900 0 (s.length + 1)), (6, iA (j + 1)), (29, iA (j + 1)), (30, iA i.1)]) (fun i => [(1900, .ar 1 ((rowP a s s.length j (partsN a s (partsL a s j) (j + 1) i.1)).map iD))]) [1900] (fun i => j + 1 - i.1) ⟨0, by simp⟩ (by simp [partsN]) (by simp [hset, partsN]) ?_
    rintro ⟨i, hi⟩
    have hN := partsN_bd a s (partsL a s j) (j + 1) i fun k hk => hbd k (by omega)
    rcases Nat.lt_or_ge i (j + 1) with h'' | h''
    · have hb := hbd i (by omega)
      have hsn := partsN_succ a s (partsL a s j) (j + 1) i
      unfold stepP at hsn
      generalize partsN a s (partsL a s j) (j + 1) i = n at *
      have a1 := getD_row (xs := rowP a s s.length j n) (i := i) 0 (by rw [rowP_len a s h']; omega)
      have a2 := getD_row (xs := rowP a s s.length j n) (i := j + 1) 0 (by rw [rowP_len a s h']; omega)
      rw [rowP_get a s (by omega)] at a1
      rw [rowP_self] at a2
      have hrl := rowP_len a s h' n
      have hset := fun x => rowP_setD a s (L := s.length) (j := j) n x
      generalize hzs : rowP a s s.length j n = zs at *
      generalize (partsL a s j).getD i 0 = v at *
      have htl : (List.drop i (List.take (j + 1) s)).all isL = true := by
        rw [List.all_eq_true] at hall ⊢
        exact fun x hx => hall x (List.mem_of_mem_take (List.mem_of_mem_drop hx))
      have htn : (List.drop i (List.take (j + 1) s)).length ≤ 1000 := by simp; omega
      have hwv : IntKind.i64.wrap (v + 1) = v + 1 := wrap64 (by omega) (by omega)
      simp [show (i : Int) < j + 1 by omega]
      refine .one (sch [.pur 0, .pur 1, .pur 2, .pur 3, .pur 4, .pur 5, .pur 6, .pur 7, .pur 8, .pur 9, .pur 10, .eff 11 [], .pur 12, .pur 13, .pur 14, .pur 15, .pur 16, .pur 17, .pur 18, .pur 19, .pur 20, .pur 21, .pur 22, .pur 23, .pur 24, .pur 25, .pur 26, .pur 27, .pur 28, .pur 29, .pur 30, .pur 31]) (by kernel_rfl) ?_
      simp [hrl, a1, show i < s.length + 1 by omega]
      refine ⟨by omega, fun _ => by omega, ?_⟩
      refine .flat (fun _ => c_accepts a _ h1 htl htn) rfl (by simp [Df.d]) rfl (by simp) ?_
      simp [hrl, a1, a2, show i < s.length + 1 by omega, show j < s.length by omega, hwv, hset, show (0 : Int) ≤ (j : Int) + 1 by omega]
      refine ⟨fun c1 c2 c3 => ?_, fun c1 c2 => ?_, fun c1 c2 c3 => ?_, fun hno => ?_⟩
      · exact ⟨⟨⟨c1, c2⟩, c3⟩, by omega⟩
      · exact ⟨⟨c1, c2⟩, fun c3 => ⟨⟨c1, c2⟩, c3⟩⟩
      · have e : partsN a s (partsL a s j) (j + 1) (i + 1) = v + 1 := by rw [hsn, if_pos]; exact ⟨⟨c1, c2⟩, by omega⟩
        exact ⟨by omega, i + 1, .mk (by simp [e]; exact wrap64 (by omega) (by omega)) (by simp [e, hset]), h'', by omega⟩
      · have e : partsN a s (partsL a s j) (j + 1) (i + 1) = n := by
          rw [hsn, if_neg]
          rintro ⟨⟨d1, d2⟩, d3⟩
          have := hno d1 d2
          omega
        exact ⟨i + 1, .mk (by simp [e]; exact wrap64 (by omega) (by omega)) (by simp [e, hzs]), h'', by omega⟩
    · have : i = j + 1 := by omega
      subst this
      simp [rowP_done]
      refine ⟨j + 1, .mk (by simp; exact wrap64 (by omega) (by omega)) (by simp), h', by omega⟩
  · have : j = s.length := by omega
    subst this
    have a1 := getD_row (xs := partsL a s s.length) (i := s.length) 0 (by omega)
    have e : fewest a s = (partsL a s s.length).getD s.length 0 := by unfold fewest; rw [h1, h2]; rfl
    rw [e]
    generalize (partsL a s s.length).getD s.length 0 = v at *
    simp [show ¬ (s.length : Int) + 1 ≤ s.length by omega, hlen, a1]
    omega
end Go.Fw
