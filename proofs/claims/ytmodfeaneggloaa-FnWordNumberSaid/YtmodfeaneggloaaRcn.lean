/- The framework, part Rcn. -/
import Derived.Test.YtmodfeaneggloaaMa
import Derived.Test.YtmodfeaneggloaaQa
import Derived.Test.YtmodfeaneggloaaOr
set_option linter.unusedSimpArgs false
set_option linter.unusedVariables false
/- Counting words: how many of a length a language has; ranks; the word with a number. Pure. -/
namespace Go.Fw
open Go Go.Proofs
set_option linter.unusedSectionVars false
set_option linter.unnecessarySimpa false

/-- How many words of a length are in a language. -/
def cnt : Nat → (List Int → Bool) → Nat
  | 0, f => if f [] then 1 else 0
  | n + 1, f => cnt n (fun w => f (0 :: w)) + cnt n (fun w => f (1 :: w)) + cnt n (fun w => f (2 :: w))
theorem cnt_congr : ∀ (n : Nat) (f g : List Int → Bool), (∀ w, l3 w → w.length = n → f w = g w) → cnt n f = cnt n g
  | 0, f, g, h => by simp [cnt, h [] (by simp [l3]) rfl]
  | n + 1, f, g, h => by
    have hc : ∀ c : Int, 0 ≤ c ∧ c < 3 → cnt n (fun w => f (c :: w)) = cnt n (fun w => g (c :: w)) := fun c hc => cnt_congr n _ _ fun w hw hl => h (c :: w) (l3_cons.2 ⟨hc, hw⟩) (by simp [hl])
    simp only [cnt]
    rw [hc 0 (by omega), hc 1 (by omega), hc 2 (by omega)]
theorem cnt_sides : ∀ (n : Nat) (f g : List Int → Bool), cnt n (fun w => f w || g w) + cnt n (fun w => f w && g w) = cnt n f + cnt n g
  | 0, f, g => by cases h1 : f [] <;> cases h2 : g [] <;> simp [cnt, h1, h2]
  | n + 1, f, g => by
    have h := fun c : Int => cnt_sides n (fun w => f (c :: w)) (fun w => g (c :: w))
    have h0 := h 0
    have h1 := h 1
    have h2 := h 2
    simp only [cnt]; omega
theorem cnt_not : ∀ (n : Nat) (f : List Int → Bool), cnt n f + cnt n (fun w => !f w) = 3 ^ n
  | 0, f => by cases h1 : f [] <;> simp [cnt, h1]
  | n + 1, f => by
    have h := fun c : Int => cnt_not n (fun w => f (c :: w))
    have h0 := h 0
    have h1 := h 1
    have h2 := h 2
    simp only [cnt]; omega
theorem cnt_le (n : Nat) (f : List Int → Bool) : cnt n f ≤ 3 ^ n := by have := cnt_not n f; omega
theorem cnt_zero {n : Nat} {f : List Int → Bool} (h : ∀ w, l3 w → w.length = n → f w = false) : cnt n f = 0 := by
  rw [cnt_congr n f (fun _ => false) h]
  clear h
  induction n with
  | zero => simp [cnt]
  | succ n ih => simp only [cnt, ih]
/-- How many words of as many letters come before a word. -/
def lexr : (List Int → Bool) → List Int → Nat
  | _, [] => 0
  | f, c :: w => ((List.range c.toNat).map fun (l : Nat) => cnt w.length fun v => f ((l : Int) :: v)).sum + lexr (fun v => f (c :: v)) w
/-- The next word of as many letters. -/
def nextL : List Int → Option (List Int)
  | [] => none
  | c :: w => match nextL w with
    | some v => some (c :: v)
    | none => if c < 2 then some ((c + 1) :: List.replicate w.length 0) else none
def valL : List Int → Nat
  | [] => 0
  | c :: w => c.toNat * 3 ^ w.length + valL w
theorem lexr_zeros : ∀ (n : Nat) (f : List Int → Bool), lexr f (List.replicate n 0) = 0
  | 0, _ => rfl
  | n + 1, f => by simp [List.replicate_succ, lexr, lexr_zeros n]
theorem valL_zeros : ∀ n : Nat, valL (List.replicate n 0) = 0
  | 0 => rfl
  | n + 1 => by simp [List.replicate_succ, valL, valL_zeros n]
theorem nextL_step : ∀ (w : List Int) (f : List Int → Bool), l3 w → match nextL w with
    | some v => lexr f v = lexr f w + (f w).toNat ∧ v.length = w.length ∧ l3 v ∧ valL v = valL w + 1
    | none => cnt w.length f = lexr f w + (f w).toNat ∧ valL w + 1 = 3 ^ w.length
  | [], f, _ => by cases h : f [] <;> simp [nextL, lexr, cnt, valL, h]
  | c :: w, f, hw => by
    rw [l3_cons] at hw
    obtain ⟨hc, hw⟩ := hw
    have ih := nextL_step w (fun v => f (c :: v)) hw
    unfold nextL
    cases hn : nextL w with
    | some v =>
      rw [hn] at ih
      obtain ⟨h1, h2, h3, h4⟩ := ih
      simp only
      refine ⟨?_, by simp [h2], l3_cons.2 ⟨hc, h3⟩, by simp [valL, h2, h4]; omega⟩
      simp only [lexr, h2, h1]; omega
    | none =>
      rw [hn] at ih
      obtain ⟨h1, h2⟩ := ih
      obtain rfl | rfl | rfl : c = 0 ∨ c = 1 ∨ c = 2 := by omega
      · have hz : l3 ((0 + 1 : Int) :: List.replicate w.length 0) := l3_cons.2 ⟨by omega, fun x hx => by have := List.eq_of_mem_replicate hx; omega⟩
        simp only [show (0 : Int) < 2 by omega, if_true]
        refine ⟨?_, by simp, hz, ?_⟩
        · simp [lexr, lexr_zeros, List.range_succ]; omega
        · simp [valL, valL_zeros]; omega
      · have hz : l3 ((1 + 1 : Int) :: List.replicate w.length 0) := l3_cons.2 ⟨by omega, fun x hx => by have := List.eq_of_mem_replicate hx; omega⟩
        simp only [show (1 : Int) < 2 by omega, if_true]
        refine ⟨?_, by simp, hz, ?_⟩
        · simp [lexr, lexr_zeros, List.range_succ]; omega
        · simp [valL, valL_zeros]; omega
      · simp only [show ¬ (2 : Int) < 2 by omega, if_false]
        have := Nat.pow_succ 3 w.length
        refine ⟨?_, ?_⟩
        · simp [lexr, cnt, List.range_succ]; omega
        · simp [valL]; omega
theorem lexr_le : ∀ (w : List Int) (f : List Int → Bool), l3 w → lexr f w + (f w).toNat ≤ cnt w.length f
  | [], f, _ => by cases h : f [] <;> simp [lexr, cnt, h]
  | c :: w, f, hw => by
    rw [l3_cons] at hw
    have ih := lexr_le w (fun v => f (c :: v)) hw.2
    obtain rfl | rfl | rfl : c = 0 ∨ c = 1 ∨ c = 2 := by omega
    all_goals
      simp [lexr, cnt, List.range_succ]
      omega
/-- The words with fewer letters. -/
def csum : Nat → (List Int → Bool) → Nat
  | 0, _ => 0
  | n + 1, f => csum n f + cnt n f
def rankL (f : List Int → Bool) (w : List Int) : Nat := csum w.length f + lexr f w
def numL (w : List Int) : Nat := w.foldl (fun n c => 3 * n + c.toNat + 1) 0
theorem csum_mono {f : List Int → Bool} {m n : Nat} (h : m ≤ n) : csum m f ≤ csum n f := by
  induction h with
  | refl => exact Nat.le_refl _
  | step _ ih => simp only [csum]; omega
theorem csum_all : ∀ n : Nat, 2 * csum n (fun _ => true) + 1 = 3 ^ n
  | 0 => rfl
  | n + 1 => by
    have h1 := csum_all n
    have h2 := cnt_not n (fun _ => true)
    have h3 : cnt n (fun _ : List Int => !true) = 0 := cnt_zero fun _ _ _ => rfl
    simp only [csum]; omega
theorem foldl_num : ∀ (w : List Int) (k : Nat), w.foldl (fun n c => 3 * n + c.toNat + 1) k = k * 3 ^ w.length + numL w
  | [], k => by simp [numL]
  | c :: w, k => by
    have h1 := foldl_num w (3 * k + c.toNat + 1)
    have h2 := foldl_num w (3 * 0 + c.toNat + 1)
    unfold numL
    simp only [List.foldl_cons, List.length_cons]
    rw [h1, h2]
    have : (3 * k + c.toNat + 1) * 3 ^ w.length = k * 3 ^ (w.length + 1) + (c.toNat + 1) * 3 ^ w.length := by
      rw [Nat.pow_succ, Nat.add_assoc, Nat.add_mul]; congr 1; rw [Nat.mul_comm 3 k, Nat.mul_assoc, Nat.mul_comm 3]
    rw [this]; simp; omega
theorem numL_eq : ∀ w : List Int, numL w = csum w.length (fun _ => true) + valL w
  | [] => rfl
  | c :: w => by
    have h1 := foldl_num w (3 * 0 + c.toNat + 1)
    have h2 := numL_eq w
    have h3 := csum_all w.length
    have h4 := csum_all (w.length + 1)
    have h5 := Nat.pow_succ 3 w.length
    have e : numL (c :: w) = (3 * 0 + c.toNat + 1) * 3 ^ w.length + numL w := h1
    rw [e, h2]
    simp only [valL, List.length_cons]
    have : (3 * 0 + c.toNat + 1) * 3 ^ w.length = c.toNat * 3 ^ w.length + 3 ^ w.length := by rw [Nat.add_mul]; simp
    omega
theorem lexr_all : ∀ w : List Int, l3 w → lexr (fun _ => true) w = valL w
  | [], _ => rfl
  | c :: w, h => by
    rw [l3_cons] at h
    have ih := lexr_all w h.2
    have h2 := csum_all w.length
    have h3 := csum_all (w.length + 1)
    have h5 := Nat.pow_succ 3 w.length
    simp only [csum] at h3
    have h4 : cnt w.length (fun _ => true) = 3 ^ w.length := by omega
    obtain rfl | rfl | rfl : c = 0 ∨ c = 1 ∨ c = 2 := by omega
    all_goals
      simp [lexr, valL, List.range_succ, ih, h4]
      try omega
theorem rank_all {w : List Int} (h : l3 w) : rankL (fun _ => true) w = numL w := by rw [numL_eq, rankL, lexr_all w h]
def succL (w : List Int) : List Int := match nextL w with
  | some v => v
  | none => List.replicate (w.length + 1) 0
theorem succL_step {w : List Int} (h : l3 w) : l3 (succL w) ∧ numL (succL w) = numL w + 1 ∧ ∀ f, rankL f (succL w) = rankL f w + (f w).toNat := by
  unfold succL
  cases hn : nextL w with
  | some v =>
    simp only
    have h0 := nextL_step w (fun _ => true) h
    rw [hn] at h0
    obtain ⟨_, h1, h2, h3⟩ := h0
    refine ⟨h2, by rw [numL_eq, numL_eq, h1, h3]; omega, fun f => ?_⟩
    have h4 := nextL_step w f h
    rw [hn] at h4
    rw [rankL, rankL, h1, h4.1]; omega
  | none =>
    simp only
    have h0 := nextL_step w (fun _ => true) h
    rw [hn] at h0
    have h1 := csum_all w.length
    have h2 := csum_all (w.length + 1)
    have h5 := Nat.pow_succ 3 w.length
    refine ⟨fun x hx => by have := List.eq_of_mem_replicate hx; omega, ?_, fun f => ?_⟩
    · rw [numL_eq, numL_eq, valL_zeros, List.length_replicate]
      obtain ⟨_, h3⟩ := h0
      omega
    · have h4 := nextL_step w f h
      rw [hn] at h4
      obtain ⟨h4, _⟩ := h4
      rw [rankL, rankL, lexr_zeros, List.length_replicate]
      simp only [csum]; omega
def wordN : Nat → List Int
  | 0 => []
  | k + 1 => succL (wordN k)
theorem wordN_l3 : ∀ k, l3 (wordN k)
  | 0 => by simp [wordN, l3]
  | k + 1 => (succL_step (wordN_l3 k)).1
theorem wordN_num : ∀ k, numL (wordN k) = k
  | 0 => rfl
  | k + 1 => by rw [wordN, (succL_step (wordN_l3 k)).2.1, wordN_num k]
theorem numL_snoc (w : List Int) (c : Int) : numL (w ++ [c]) = 3 * numL w + c.toNat + 1 := by simp [numL, List.foldl_append]
theorem snocI : ∀ l : List Int, l = [] ∨ ∃ x b, l = x ++ [b]
  | [] => .inl rfl
  | a :: l => by
    rcases snocI l with rfl | ⟨x, b, rfl⟩
    · exact .inr ⟨[], a, rfl⟩
    · exact .inr ⟨a :: x, b, rfl⟩
theorem numL_inj : ∀ (n : Nat) {w v : List Int}, w.length ≤ n → l3 w → l3 v → numL w = numL v → w = v
  | n, w, v, hn, hw, hv, h => by
    rcases snocI w with rfl | ⟨x, b, rfl⟩ <;> rcases snocI v with rfl | ⟨y, c, rfl⟩
    · rfl
    · rw [numL_snoc] at h; simp [numL] at h
    · rw [numL_snoc] at h; simp [numL] at h
    · have hb := hw b (by simp)
      have hc := hv c (by simp)
      rw [numL_snoc, numL_snoc] at h
      cases n with
      | zero => simp at hn
      | succ n =>
        have hx := numL_inj n (w := x) (v := y) (by simp at hn; omega) (fun z hz => hw z (by simp [hz])) (fun z hz => hv z (by simp [hz])) (by omega)
        have hbc : b = c := by omega
        rw [hx, hbc]
theorem wordN_of {w : List Int} (h : l3 w) : wordN (numL w) = w := numL_inj _ (Nat.le_refl _) (wordN_l3 _) h (wordN_num _)
theorem rank_add (f : List Int → Bool) (k : Nat) : ∀ d, rankL f (wordN k) + (if d = 0 then 0 else (f (wordN k)).toNat) ≤ rankL f (wordN (k + d))
  | 0 => by simp
  | d + 1 => by
    have h1 := rank_add f k d
    have h2 := (succL_step (wordN_l3 (k + d))).2.2 f
    have e : wordN (k + (d + 1)) = succL (wordN (k + d)) := rfl
    rw [e, h2]
    by_cases hd : d = 0
    · subst hd; simp
    · rw [if_neg hd] at h1; simp; omega
theorem rank_lt {f : List Int → Bool} {u v : List Int} (hu : l3 u) (hv : l3 v) (h : numL u < numL v) : rankL f u + (f u).toNat ≤ rankL f v := by
  have := rank_add f (numL u) (numL v - numL u)
  rw [if_neg (by omega), show numL u + (numL v - numL u) = numL v by omega, wordN_of hu, wordN_of hv] at this
  exact this
theorem rank_inj {f : List Int → Bool} {u v : List Int} (hu : l3 u) (hv : l3 v) (fu : f u = true) (fv : f v = true) (h : rankL f u = rankL f v) : u = v := by
  rcases Nat.lt_trichotomy (numL u) (numL v) with h1 | h1 | h1
  · have := rank_lt (f := f) hu hv h1; rw [fu] at this; simp at this; omega
  · exact numL_inj _ (Nat.le_refl _) hu hv h1
  · have := rank_lt (f := f) hv hu h1; rw [fv] at this; simp at this; omega
theorem rank_lt_inv {f : List Int → Bool} {u v : List Int} (hu : l3 u) (hv : l3 v) (h : rankL f u < rankL f v) : numL u < numL v := by
  rcases Nat.lt_trichotomy (numL u) (numL v) with h1 | h1 | h1
  · exact h1
  · rw [numL_inj _ (Nat.le_refl _) hu hv h1] at h; omega
  · have := rank_lt (f := f) hv hu h1; omega
theorem rank_next {f : List Int → Bool} {u v : List Int} (hu : l3 u) (hv : l3 v) (h : numL v = numL u + 1) : rankL f v = rankL f u + (f u).toNat := by
  have h1 := succL_step hu
  have : succL u = v := numL_inj _ (Nat.le_refl _) h1.1 hv (by rw [h1.2.1, h])
  rw [← this, h1.2.2]
theorem rank_zero {f : List Int → Bool} {u : List Int} (hu : l3 u) (h : ∀ v, l3 v → numL v < numL u → f v = false) : rankL f u = 0 := by
  have : ∀ k, k ≤ numL u → rankL f (wordN k) = 0 := by
    intro k
    induction k with
    | zero => intro _; rfl
    | succ k ih =>
      intro hk
      rw [wordN, (succL_step (wordN_l3 k)).2.2, ih (by omega), h _ (wordN_l3 k) (by rw [wordN_num]; omega)]; rfl
  have := this _ (Nat.le_refl _)
  rwa [wordN_of hu] at this
theorem rank_lt_csum {f : List Int → Bool} {w : List Int} (h : l3 w) {n : Nat} (hn : w.length < n) : rankL f w + (f w).toNat ≤ csum n f := by
  have h1 := lexr_le w f h
  have h2 : csum (w.length + 1) f ≤ csum n f := csum_mono hn
  simp only [csum] at h2
  rw [rankL]; omega
theorem valL_lt : ∀ {w : List Int}, l3 w → valL w < 3 ^ w.length
  | [], _ => by simp [valL]
  | c :: w, h => by
    rw [l3_cons] at h
    have ih := valL_lt h.2
    have h5 := Nat.pow_succ 3 w.length
    obtain rfl | rfl | rfl : c = 0 ∨ c = 1 ∨ c = 2 := by omega
    all_goals
      simp [valL]; omega
theorem numL_len {u v : List Int} (hu : l3 u) (h : u.length < v.length) : numL u < numL v := by
  rw [numL_eq, numL_eq]
  have h1 := valL_lt hu
  have h2 := csum_all u.length
  have h3 := csum_all (u.length + 1)
  have h5 := Nat.pow_succ 3 u.length
  have : csum (u.length + 1) (fun _ => true) ≤ csum v.length (fun _ => true) := csum_mono h
  omega
/-- The word with a number, of those with at most so many letters. -/
def WnIs (f : List Int → Bool) (n : Nat) (s : List Int) (ok : Bool) : Prop :=
  (ok = true ∧ l3 s ∧ f s = true ∧ rankL f s = n ∧ s.length ≤ 30) ∨ (ok = false ∧ s = [] ∧ csum 31 f ≤ n)
theorem WnIs.uniq {f : List Int → Bool} {n : Nat} {s t : List Int} {ok ok' : Bool} (h : WnIs f n s ok) (h' : WnIs f n t ok') : s = t ∧ ok = ok' := by
  rcases h with ⟨rfl, h1, h2, h3, h4⟩ | ⟨rfl, rfl, h3⟩ <;> rcases h' with ⟨rfl, g1, g2, g3, g4⟩ | ⟨rfl, rfl, g3⟩
  · exact ⟨rank_inj h1 g1 h2 g2 (by omega), rfl⟩
  · have := rank_lt_csum (f := f) h1 (n := 31) (by omega)
    rw [h2] at this; simp at this; omega
  · have := rank_lt_csum (f := f) g1 (n := 31) (by omega)
    rw [g2] at this; simp at this; omega
  · exact ⟨rfl, rfl⟩
/-- What is still to be found: letters behind those that are known. -/
def WnRest (f : List Int → Bool) (n : Nat) (u : List Int) (g : List Int → Bool) (left m : Nat) : Prop :=
  m < cnt left g ∧ ∀ w, l3 w → w.length = left → g w = true → lexr g w = m → f (u ++ w) = true ∧ csum (u.length + left) f + lexr f (u ++ w) = n
theorem WnRest.init {f : List Int → Bool} {n L : Nat} (h1 : csum L f ≤ n) (h2 : n - csum L f < cnt L f) : WnRest f n [] f L (n - csum L f) :=
  ⟨h2, fun w _ hl hg hm => ⟨hg, by simp; omega⟩⟩
theorem WnRest.step {f g : List Int → Bool} {n left m : Nat} {u : List Int} (h : WnRest f n u g (left + 1) m) {l : Nat} (hl : l < 3)
    (h1 : ((List.range l).map fun (i : Nat) => cnt left fun v => g ((i : Int) :: v)).sum ≤ m) (h2 : m - ((List.range l).map fun (i : Nat) => cnt left fun v => g ((i : Int) :: v)).sum < cnt left fun v => g ((l : Int) :: v)) :
    WnRest f n (u ++ [(l : Int)]) (fun v => g ((l : Int) :: v)) left (m - ((List.range l).map fun (i : Nat) => cnt left fun v => g ((i : Int) :: v)).sum) := by
  refine ⟨h2, fun w hw hwl hg hm => ?_⟩
  have := h.2 ((l : Int) :: w) (l3_cons.2 ⟨by omega, hw⟩) (by simp [hwl]) hg (by simp only [lexr, hwl, Int.toNat_natCast, hm]; omega)
  simp only [List.append_assoc, List.singleton_append, List.length_append, List.length_singleton] at this ⊢
  exact ⟨this.1, by rw [← this.2]; congr 2; omega⟩
theorem WnRest.lt3 {f g : List Int → Bool} {n left m : Nat} {u : List Int} (h : WnRest f n u g (left + 1) m) {l : Nat} (hl : l ≤ 3)
    (h1 : ((List.range l).map fun (i : Nat) => cnt left fun v => g ((i : Int) :: v)).sum ≤ m) : l < 3 := by
  rcases Nat.lt_or_ge l 3 with h2 | h2
  · exact h2
  · have : l = 3 := by omega
    subst this
    have h3 := h.1
    simp [cnt, List.range_succ] at h3 h1
    omega
theorem WnRest.done {f g : List Int → Bool} {n m : Nat} {u : List Int} (hu : l3 u) (hl : u.length ≤ 30) (h : WnRest f n u g 0 m) : WnIs f n u true := by
  have h1 := h.1
  have hg : g [] = true := by
    cases hg : g [] with
    | true => rfl
    | false => simp [cnt, hg] at h1
  simp [cnt, hg] at h1
  have := h.2 [] (by simp [l3]) rfl hg (by simp [lexr, h1])
  simp at this
  exact .inl ⟨rfl, hu, this.1, by rw [rankL]; exact this.2, hl⟩
/-- What is still to be added, from a place in the word on. -/
theorem sum_range_succ (g : Nat → Nat) (l : Nat) : ((List.range (l + 1)).map g).sum = ((List.range l).map g).sum + g l := by
  rw [List.range_succ]; simp
theorem cnt2 (f : List Int → Bool) (n : Nat) (h : n ≤ 2) : cnt n f = ((List.range 13).map fun k => if (wordN k).length = n ∧ f (wordN k) = true then 1 else 0).sum := by
  have e : (List.range 13).map wordN = [[], [0], [1], [2], [0, 0], [0, 1], [0, 2], [1, 0], [1, 1], [1, 2], [2, 0], [2, 1], [2, 2]] := by decide
  have e2 : ((List.range 13).map fun k => if (wordN k).length = n ∧ f (wordN k) = true then 1 else 0) = ((List.range 13).map wordN).map fun w => if w.length = n ∧ f w = true then 1 else 0 := by rw [List.map_map]; rfl
  rw [e2, e]
  obtain rfl | rfl | rfl : n = 0 ∨ n = 1 ∨ n = 2 := by omega
  · simp [cnt]
  · simp [cnt]; omega
  · simp [cnt]; omega

/-! ### Automata -/
theorem l3_ltr' {s : List UInt8} (h : s.all isL = true) : l3 (s.map ltr) := by
  intro c hc
  obtain ⟨b, hb, rfl⟩ := List.mem_map.1 hc
  rw [List.all_eq_true] at h
  have := ltr_of (h b hb)
  omega
theorem num_numL (w : List UInt8) : num w = numL (w.map ltr) := by unfold num numL; rw [List.foldl_map]
theorem cnt_go (a : Df) (q : Int) (n : Nat) : cnt (n + 1) (a.lang q) = cnt n (a.lang (a.go q 0)) + cnt n (a.lang (a.go q 1)) + cnt n (a.lang (a.go q 2)) := rfl
theorem cnt_fin (a : Df) (q : Int) : cnt 0 (a.lang q) = if a.fin q then 1 else 0 := rfl
theorem cnt_bd {n : Nat} (h : n ≤ 31) (f : List Int → Bool) : (cnt n f : Int) ≤ 617673396283947 := by
  have h1 := cnt_le n f
  have h2 : 3 ^ n ≤ 3 ^ 31 := Nat.pow_le_pow_right (by decide) h
  have h3 : (3 ^ 31 : Nat) = 617673396283947 := by decide
  omega
theorem csum_bd {n : Nat} (h : n ≤ 31) (f : List Int → Bool) : (csum n f : Int) ≤ 617673396283947 := by
  have key : ∀ m : Nat, csum m f ≤ csum m fun _ => true := by
    intro m
    induction m with
    | zero => exact Nat.le_refl _
    | succ m ih =>
      have h1 := cnt_le m f
      have h2 := csum_all m
      have h3 := csum_all (m + 1)
      have h5 := Nat.pow_succ 3 m
      simp only [csum] at h3 ⊢
      omega
  have h1 := key n
  have h4 := csum_all n
  have h2 : 3 ^ n ≤ 3 ^ 31 := Nat.pow_le_pow_right (by decide) h
  have h3 : (3 ^ 31 : Nat) = 617673396283947 := by decide
  omega
end Go.Fw

/- The table of the numbers of words, as the program makes it. -/
namespace Go.Fw
open Go Go.Proofs
set_option linter.unusedSectionVars false
set_option linter.unnecessarySimpa false

def cq (a : Df) (k : Nat) (q : Int) : Int := (cnt k (a.lang q) : Int)
def crow (a : Df) (k : Nat) : List Int := (List.range a.next.length).map fun (q : Nat) => cq a k q
theorem crow_len (a : Df) (k : Nat) : (crow a k).length = a.next.length := by simp [crow]
theorem crow_get {a : Df} {k q : Nat} (h : q < a.next.length) : (crow a k)[q]? = some (cq a k q) ∧ ∀ h, (crow a k)[q]'h = cq a k q := by
  simp [crow, h]
theorem cq_bd (a : Df) {k : Nat} (h : k ≤ 30) (q : Int) : 0 ≤ cq a k q ∧ cq a k q ≤ 205891132094649 := by
  have h1 := cnt_le k (a.lang q)
  have h2 : 3 ^ k ≤ 3 ^ 30 := Nat.pow_le_pow_right (by decide) h
  have h3 : (3 ^ 30 : Nat) = 205891132094649 := by decide
  unfold cq; omega
theorem cq_zero (a : Df) (q : Int) : cq a 0 q = if a.fin q then 1 else 0 := by
  unfold cq; rw [cnt_fin]; split <;> rfl
/-- The words that begin with the first letters. -/
def cqs (a : Df) (k : Nat) (q : Int) (c : Nat) : Int := ((List.range c).map fun (l : Nat) => cq a k (a.go q l)).sum
theorem cqs_zero (a : Df) (k : Nat) (q : Int) : cqs a k q 0 = 0 := rfl
theorem cqs_succ (a : Df) (k : Nat) (q : Int) (c : Nat) : cqs a k q (c + 1) = cqs a k q c + cq a k (a.go q c) := by
  unfold cqs; rw [List.range_succ]; simp
theorem cqs_three (a : Df) (k : Nat) (q : Int) : cqs a k q 3 = cq a (k + 1) q := by
  simp [cqs_succ, cqs_zero, cq, cnt_go]
theorem cqs_bd (a : Df) {k : Nat} (h : k ≤ 30) (q : Int) {c : Nat} (hc : c ≤ 3) : 0 ≤ cqs a k q c ∧ cqs a k q c ≤ 617673396283947 := by
  have h0 := cq_bd a h (a.go q 0)
  have h1 := cq_bd a h (a.go q 1)
  have h2 := cq_bd a h (a.go q 2)
  obtain rfl | rfl | rfl | rfl : c = 0 ∨ c = 1 ∨ c = 2 ∨ c = 3 := by omega
  all_goals simp [cqs_succ, cqs_zero]
  all_goals omega
theorem crow_take {a : Df} {k s : Nat} (h : s < a.next.length) : (crow a k).take (s + 1) = (crow a k).take s ++ [cq a k s] := by
  rw [List.take_add_one, (crow_get h).1]; rfl

def rowsC (a : Df) (k : Nat) : List D := (List.range k).map fun i => intsD (crow a i)
def boxC (a : Df) (k : Nat) : List AV := (rowsC a k).map AV.d ++ List.replicate (31 - k) AV.nl
def cellsC (a : Df) (k : Nat) (x : AV) : List AV := (rowsC a k).map AV.d ++ x :: List.replicate (30 - k) AV.nl
theorem rowsC_len (a : Df) (k : Nat) : (rowsC a k).length = k := by simp [rowsC]
theorem boxC_len (a : Df) {k : Nat} (h : k ≤ 31) : (boxC a k).length = 31 := by simp [boxC, rowsC_len]; omega
theorem cellsC_len (a : Df) {k : Nat} (h : k ≤ 30) (x : AV) : (cellsC a k x).length = 31 := by simp [cellsC, rowsC_len]; omega
theorem boxC_cells (a : Df) {k : Nat} (h : k ≤ 30) : boxC a k = cellsC a k .nl := by
  unfold boxC cellsC
  rw [show 31 - k = (30 - k) + 1 by omega, List.replicate_succ]
theorem cellsC_set (a : Df) (k : Nat) (x y : AV) : (cellsC a k x).set k y = cellsC a k y := by
  simp [cellsC, List.set_append, rowsC_len]
theorem cellsC_next (a : Df) (k : Nat) : cellsC a k (.d (intsD (crow a k))) = boxC a (k + 1) := by
  unfold cellsC boxC rowsC
  rw [List.range_succ, List.map_append, List.map_append, List.append_assoc, show 31 - (k + 1) = 30 - k by omega]; rfl
theorem cellsC_drop (a : Df) (k : Nat) (x : AV) : (cellsC a k x).drop k = x :: List.replicate (30 - k) AV.nl := by
  unfold cellsC
  rw [List.drop_append_of_le_length (by simp [rowsC_len])]
  rw [List.drop_of_length_le (by simp [rowsC_len])]; rfl
theorem cellsC_get (a : Df) (k : Nat) (x : AV) : (cellsC a k x)[k]? = some x := by
  unfold cellsC
  rw [List.getElem?_append_right (by simp [rowsC_len])]
  simp [rowsC_len]
theorem cellsC_drop_lt (a : Df) {k i : Nat} (h : i < k) (x : AV) : (cellsC a k x).drop i = .d (intsD (crow a i)) :: (cellsC a k x).drop (i + 1) := by
  have hl : i < (cellsC a k x).length := by simp [cellsC, rowsC_len]; omega
  rw [List.drop_eq_getElem_cons hl]
  congr 1
  simp only [cellsC]
  rw [List.getElem_append_left (by simp [rowsC_len]; omega)]
  simp [rowsC]
theorem boxC_end (a : Df) : boxC a 31 = (rowsC a 31).map AV.d := by simp [boxC]
theorem midD {X : List D} {s : Nat} (hs : X.length = s) (v : D) (R : List D) : (X ++ v :: R)[s]? = some v ∧ (∀ h, (X ++ v :: R)[s]'h = v) ∧ ∀ w : D, (X ++ v :: R).set s w = X ++ w :: R := by
  subst hs
  refine ⟨by simp, fun h => by simp, fun w => by simp [List.set_append_right]⟩

theorem allD_map : ∀ cs : List D, AV.allD (cs.map .d) = some cs
  | [] => rfl
  | x :: r => by simp [AV.allD, allD_map r]
theorem setCells_all : ∀ (xs ys pre : List AV), xs.length = ys.length → setCells pre.length xs (pre ++ ys) = pre ++ xs
  | [], ys, pre, h => by
    have : ys = [] := List.length_eq_zero_iff.1 (by simpa using h.symm)
    simp [setCells, this]
  | x :: xs, [], pre, h => by simp at h
  | x :: xs, y :: ys, pre, h => by
    have ih := setCells_all xs ys (pre ++ [x]) (by simpa using h)
    simp only [List.length_append, List.length_singleton, List.append_assoc, List.singleton_append] at ih
    simp only [setCells]
    rw [← ih]
    congr 1
    simp [List.set_append]
theorem setCells_full {xs ys : List AV} (h : xs.length = ys.length) : setCells 0 xs ys = xs := setCells_all xs ys [] h
def nils : List AV := List.replicate 31 AV.nl
theorem nils_len : nils.length = 31 := rfl
def nil30 : List AV := List.replicate 30 AV.nl
theorem cellsC_zero (a : Df) (x : AV) : cellsC a 0 x = x :: nil30 := rfl
theorem kpL_ds (p : Nat → Bool) : ∀ (xs : List D) (r : List AV), AV.kpL p (xs.map AV.d ++ r) = xs.map AV.d ++ AV.kpL p r
  | [], r => rfl
  | x :: xs, r => by simp [AV.kpL, AV.kp, kpL_ds p xs r]
theorem kpL_nl (p : Nat → Bool) : ∀ n, AV.kpL p (List.replicate n AV.nl) = List.replicate n AV.nl
  | 0 => rfl
  | n + 1 => by simp [List.replicate_succ, AV.kpL, AV.kp, kpL_nl p n]
theorem cellsC_kp {p : Nat → Bool} (a : Df) (k : Nat) {x : AV} (hx : AV.kp p x = x) : AV.kpL p (cellsC a k x) = cellsC a k x := by
  unfold cellsC
  rw [kpL_ds]
  simp [AV.kpL, hx, kpL_nl]
theorem boxC_kp (p : Nat → Bool) (a : Df) (k : Nat) : AV.kpL p (boxC a k) = boxC a k := by
  unfold boxC
  rw [kpL_ds, kpL_nl]
theorem nils_kp (p : Nat → Bool) : AV.kpL p nils = nils := kpL_nl p 31
theorem nil30_kp (p : Nat → Bool) : AV.kpL p nil30 = nil30 := kpL_nl p 30
/-- The table. -/
def tabD (a : Df) : D := .agg (rowsC a 31)

def tabB (a : Df) : List AV := (rowsC a 31).map AV.d
theorem tab_store (a : Df) {ys : List AV} (h : ys.length = 31) : setCells 0 ((rowsC a 31).map AV.d) ys = tabB a := setCells_full (by simp [rowsC_len, h])
theorem tabB_kp (p : Nat → Bool) (a : Df) : AV.kpL p (tabB a) = tabB a := by
  have := kpL_ds p (rowsC a 31) []
  simp only [List.append_nil] at this
  rw [tabB, this]; rfl
theorem tabB_drop (a : Df) {i : Nat} (h : i < 31) : (tabB a).drop i = .d (intsD (crow a i)) :: (tabB a).drop (i + 1) := by
  rw [List.drop_eq_getElem_cons (by simp [tabB, rowsC_len]; omega)]
  simp [tabB, rowsC]
theorem rowsC_get (a : Df) {i : Nat} (h : i < 31) : (rowsC a 31)[i]? = some (intsD (crow a i)) ∧ ∀ h, (rowsC a 31)[i]'h = intsD (crow a i) := by
  simp [rowsC, h]
theorem rowsC_one (a : Df) : ∀ x ∈ rowsC a 31, x.isAgg = false := fun x hx => by
  simp only [rowsC, List.mem_map] at hx
  obtain ⟨i, _, rfl⟩ := hx
  rfl
set_option maxHeartbeats 1600000 in
set_option maxRecDepth 100000 in
theorem c_counts (a : Df) (h : okDf a = true) : DCalls Try.prog 65 [.d a.d] fun y => y = tabD a := by
  refine dcalls_intro Ty.mixed Try.func65 rfl rfl rfl [1] (by kernel_rfl) (by simp) ?_
  obtain ⟨n1, n2, n3⟩ := okDf_len h
  simp [Df.d]
  refine LoopVC.at { k : Nat // k ≤ 31 } (fun k => [(1, dpA a), (2, .ptr 200 0), (3, .ptr 300 0), (9, iA k.1)]) (fun k => [(200, .bx nils), (300, .bx (boxC a k.1))]) [200, 300] (fun k => 31 - k.1) ⟨0, by omega⟩ (by simp) (by simp [boxC, rowsC, nils]) ?_
  rintro ⟨k, hk⟩
  rcases Nat.lt_or_ge k 31 with hk3 | hk3
  · have hb := boxC_cells a (k := k) (by omega)
    have hset := fun x y => cellsC_set a k x y
    have hlen := fun x => cellsC_len a (k := k) (by omega) x
    have hdr := fun x => cellsC_drop a k x
    have hkz : (k : Int) < 31 := by omega
    have hkp : ∀ l : List Nat, 1600 ∈ l → AV.kpL (outU l) (cellsC a k (.sl 1 1600 0 a.next.length)) = cellsC a k (.sl 1 1600 0 a.next.length) := fun l hl => cellsC_kp a k (by simp [hl])
    rw [hb]
    simp [hkz, hset, hlen]
    refine ⟨by omega, by omega, ?_⟩
    refine LoopVC.at { s : Nat // s ≤ a.next.length } (fun s => [(1, dpA a), (2, .ptr 200 0), (3, .ptr 300 0), (4, iA k), (9, iA k), (19, .d (rowsD a.next)), (20, iA a.next.length), (21, iA s.1)]) (fun s => [(200, .bx nils), (300, .bx (cellsC a k (.sl 1 1600 0 a.next.length))), (1600, .ar 1 (((crow a k).map iD).take s.1 ++ List.replicate (a.next.length - s.1) (iD 0)))]) [200, 300, 1600] (fun s => a.next.length - s.1) ⟨0, by omega⟩ (by simp) (by simp [hkp, nils_kp]) ?_
    rintro ⟨s, hs⟩
    rcases Nat.lt_or_ge s a.next.length with hsn | hsn
    · have a1 := getD_row (xs := a.next) (i := s) [] hsn
      have hnx := okDf_row h hsn
      have hgo : ∀ c : Nat, a.go s c = (a.next.getD s []).getD c 0 := fun c => by simp [Df.go]
      have hrep : List.replicate (a.next.length - s) (iD 0) = iD 0 :: List.replicate (a.next.length - (s + 1)) (iD 0) := rep_cons hsn
      have hct : ((crow a k).map iD).take (s + 1) = ((crow a k).map iD).take s ++ [iD (cq a k s)] := by rw [← List.map_take, ← List.map_take, crow_take hsn]; simp
      have htl : (((crow a k).map iD).take s).length = s := by simp [crow_len]; omega
      have hmid := fun v R => midD htl v R
      have hsl : s < min s (crow a k).length + (a.next.length - (s + 1) + 1) := by simp [crow_len]; omega
      rw [hrep]
      generalize a.next.getD s [] = nx at *
      simp [hsn, a1]
      refine ⟨fun hk0 => ?_, fun hk0 => ?_⟩
      · have hse : s < a.ends.length := by omega
        have b0 := getD_row (xs := a.ends) (i := s) false hse
        have hfk : a.fin s = a.ends.getD s false := by simp [Df.fin]
        have hc0 := cq_zero a s
        rw [← hfk] at b0
        have hk0 : k = 0 := by omega
        subst hk0
        have hz := fun x => cellsC_zero a x
        generalize a.fin s = fs at *
        simp [hse, b0, hz, hmid, hsn, hsl]
        refine ⟨fun hf => ?_, fun hf => ?_⟩
        · rw [hf] at hc0
          refine ⟨s + 1, .mk ?_ ?_, by omega, by omega⟩
          · simp; exact wrap64 (by omega) (by omega)
          · simp [hz, hct, hc0, nils_kp, nil30_kp]
        · rw [hf] at hc0
          refine ⟨s + 1, .mk ?_ ?_, by omega, by omega⟩
          · simp; exact wrap64 (by omega) (by omega)
          · simp [hz, hct, hc0, nils_kp, nil30_kp]
      · obtain ⟨k', rfl⟩ : ∃ k', k = k' + 1 := ⟨k - 1, by omega⟩
        have hdl := cellsC_drop_lt a (k := k' + 1) (i := k') (by omega)
        have hl3 : nx.length = 3 := hnx.1
        refine LoopVC.at { c : Nat // c ≤ 3 } (fun c => [(1, dpA a), (2, .ptr 200 0), (3, .ptr 300 0), (4, iA (k' + 1 : Nat)), (5, iA s), (9, iA (k' + 1 : Nat)), (19, .d (rowsD a.next)), (20, iA a.next.length), (21, iA s), (37, .d (intsD nx)), (38, iA 3), (39, iA c.1)]) (fun c => [(200, .bx nils), (300, .bx (cellsC a (k' + 1) (.sl 1 1600 0 a.next.length))), (1600, .ar 1 (((crow a (k' + 1)).map iD).take s ++ iD (cqs a k' s c.1) :: List.replicate (a.next.length - (s + 1)) (iD 0)))]) [200, 300, 1600] (fun c => 3 - c.1) ⟨0, by omega⟩ (by simp [hl3]) (by simp [hkp, nils_kp, cqs_zero]) ?_
        rintro ⟨c, hc⟩
        rcases Nat.lt_or_ge c 3 with hc3 | hc3
        · have a2 := getD_row (xs := nx) (i := c) 0 (by omega)
          have hgs := go_st h (st_nat hsn) (c := (c : Int)) (by omega)
          have hgc := hgo c
          rw [← hgc] at a2
          have hq1 := hgs.1
          have hq2 := hgs.2
          have hsu := cqs_succ a k' s c
          have hb1 := cqs_bd a (k := k') (by omega) s (c := c + 1) (by omega)
          obtain ⟨t, ht⟩ : ∃ t : Nat, a.go s c = t := ⟨(a.go s c).toNat, by omega⟩
          rw [ht] at a2 hq1 hq2 hsu
          have htn : t < a.next.length := by omega
          obtain ⟨c1, c2⟩ := crow_get (a := a) (k := k') htn
          have c0 := crow_len a k'
          have l3 : (c : Int) < 3 := by omega
          have hw : IntKind.i64.wrap (k' : Int) = k' := wrap64 (by omega) (by omega)
          have hk1 : (k' : Int) + 1 < 31 := by omega
          have hk2 : (k' : Int) < 31 := by omega
          have hk4 : (0 : Int) ≤ (k' : Int) + 1 := by omega
          have hk5 : ((k' : Int) + 1).toNat = k' + 1 := by omega
          have hw2 : IntKind.i64.wrap (cqs a k' s c + cq a k' t) = cqs a k' s (c + 1) := by rw [hsu]; exact wrap64 (by omega) (by omega)
          simp [l3, a2, hl3, hc3]
          refine .one (sch [.pur 0, .pur 1, .pur 2, .pur 3, .pur 4, .pur 5, .pur 6, .pur 7, .pur 8, .pur 9, .pur 10, .pur 11, .pur 12, .pur 13, .pur 14, .eff 15 []]) (by kernel_rfl) ?_
          simp [hdr, hdl, hw, hk1, hk2, hk4, hk5, hmid, hsn, hsl, c1, c2, c0, htn]
          refine ⟨c + 1, .mk ?_ ?_, by omega, by omega⟩
          · simp; exact wrap64 (by omega) (by omega)
          · simp [hw2, hkp, nils_kp]
        · have : c = 3 := by omega
          subst this
          have hthree := cqs_three a k' s
          simp
          refine ⟨s + 1, .mk ?_ ?_, by omega, by omega⟩
          · simp; exact wrap64 (by omega) (by omega)
          · simp [hct, hthree, hkp, nils_kp]
    · have : s = a.next.length := by omega
      subst this
      have hcr : (crow a k).take a.next.length = crow a k := List.take_of_length_le (by simp [crow_len])
      have hnext := cellsC_next a k
      have htt : List.take a.next.length ((crow a k).map iD) = (crow a k).map iD := List.take_of_length_le (by simp [crow_len])
      simp [hcr]
      refine ⟨k + 1, (Wk.frzBx 300 k (x := .sl 1 1600 0 a.next.length) (cs := cellsC a k (.sl 1 1600 0 a.next.length)) rfl (cellsC_get a k _) rfl (by simp [crow_len]) (by simp)).trans (.mk ?_ ?_), by omega, by omega⟩
      · simp; exact wrap64 (by omega) (by omega)
      · simp [hset, htt, hnext, nils_kp, boxC_kp]
  · have : k = 31 := by omega
    subst this
    rw [boxC_end]
    have ht : List.take 31 ((rowsC a 31).map AV.d) = (rowsC a 31).map AV.d := List.take_of_length_le (by simp [rowsC_len])
    have hsc : setCells 0 ((rowsC a 31).map AV.d) nils = (rowsC a 31).map AV.d := setCells_full (by simp [rowsC_len, nils_len])
    have hone : ∀ x ∈ rowsC a 31, x.isAgg = false := fun x hx => by
      simp only [rowsC, List.mem_map] at hx
      obtain ⟨i, _, rfl⟩ := hx
      rfl
    simp [ht, rowsC_len, allD_map, tabD, nils_len, hsc]
    exact hone
end Go.Fw

/- Numbers of words, ranks, as the program finds them. -/
namespace Go.Fw
open Go Go.Proofs
set_option linter.unusedSectionVars false
set_option linter.unnecessarySimpa false

/-- How many words of a length. -/
def cwDf (a : Df) (n : Int) : Int := if okDf a && inR n 0 30 then cq a n.toNat 0 else -1
theorem cast_sum (g : Nat → Nat) : ∀ n : Nat, ((((List.range n).map g).sum : Nat) : Int) = ((List.range n).map fun i => (g i : Int)).sum
  | 0 => rfl
  | n + 1 => by rw [List.range_succ]; simp [cast_sum g n]
theorem lexr_cons (a : Df) (q c : Int) (w : List Int) : (lexr (a.lang q) (c :: w) : Int) = cqs a w.length q c.toNat + lexr (a.lang (a.go q c)) w := by
  simp only [lexr]
  rw [Int.natCast_add, cast_sum]; rfl
theorem lexr_bd (a : Df) (q : Int) {w : List Int} (h : l3 w) (hw : w.length ≤ 30) : 0 ≤ (lexr (a.lang q) w : Int) ∧ (lexr (a.lang q) w : Int) ≤ 617673396283947 := by
  have h1 := lexr_le w (a.lang q) h
  have h2 := cnt_bd (n := w.length) (by omega) (a.lang q)
  omega
/-- A word's rank. -/
def rkDf (a : Df) (s : List UInt8) : Int := if okDf a && wordOk s then (rankL (a.lang 0) (s.map ltr) : Int) else -1
theorem rank_bd (f : List Int → Bool) {w : List Int} (h : l3 w) (hw : w.length ≤ 30) : 0 ≤ (rankL f w : Int) ∧ (rankL f w : Int) ≤ 617673396283947 := by
  have h1 := rank_lt_csum (f := f) h (n := 31) (by omega)
  have h2 := csum_bd (n := 31) (by omega) f
  omega

/-- The word with a number. -/
def WnDf (a : Df) (n : Int) (s : List UInt8) (ok : Bool) : Prop :=
  ((okDf a = true ∧ 0 ≤ n) ∧ s.all isL = true ∧ WnIs (a.lang 0) n.toNat (s.map ltr) ok) ∨ (¬ (okDf a = true ∧ 0 ≤ n) ∧ s = [] ∧ ok = false)
/-- The words that begin with the first letters, as a number. -/
def lsum (a : Df) (k : Nat) (q : Int) (l : Nat) : Nat := ((List.range l).map fun (i : Nat) => cnt k fun v => a.lang q ((i : Int) :: v)).sum
theorem lsum_zero (a : Df) (k : Nat) (q : Int) : lsum a k q 0 = 0 := rfl
theorem lsum_succ (a : Df) (k : Nat) (q : Int) (l : Nat) : lsum a k q (l + 1) = lsum a k q l + cnt k (a.lang (a.go q l)) := sum_range_succ _ _
theorem lsum_step {f : List Int → Bool} {a : Df} {N k m : Nat} {u : List Int} {q : Int} (h : WnRest f N u (a.lang q) (k + 1) m) {l : Nat} (hl : l < 3) (h1 : lsum a k q l ≤ m) (h2 : m - lsum a k q l < cnt k (a.lang (a.go q l))) :
    WnRest f N (u ++ [(l : Int)]) (a.lang (a.go q l)) k (m - lsum a k q l) := h.step hl h1 h2
theorem lsum_lt3 {f : List Int → Bool} {a : Df} {N k m : Nat} {u : List Int} {q : Int} (h : WnRest f N u (a.lang q) (k + 1) m) {l : Nat} (hl : l ≤ 3) (h1 : lsum a k q l ≤ m) : l < 3 := h.lt3 hl h1
theorem ltxt_ex {l : Nat} (h : l < 3) : ∃ b, ltxt (l : Int) = [b] ∧ isL b = true ∧ ltr b = l := by
  obtain rfl | rfl | rfl : l = 0 ∨ l = 1 ∨ l = 2 := by omega
  · exact ⟨97, by decide, by decide, by decide⟩
  · exact ⟨98, by decide, by decide, by decide⟩
  · exact ⟨99, by decide, by decide, by decide⟩
structure WG where
  u : List UInt8
  m : Nat
def WnR (a : Df) (n : Int) (r : List D) : Prop := ∃ (s : List UInt8) (ok : Bool), r = [sD s, .bool ok] ∧ WnDf a n s ok

set_option maxRecDepth 100000 in
theorem c_CountWords (a : Df) (n : Int) (hf : a.fine) : DCalls Try.prog 21 [.d a.d, iA n] fun y => y = iD (cwDf a n) := by
  refine dcalls_intro Ty.mixed Try.func21 rfl rfl rfl [2] (by kernel_rfl) (by simp) ?_
  simp [Df.d]
  refine .dval (c_DfaValid a hf) rfl (by simp [Df.d]) rfl ?_
  simp
  refine .flat (fun _ => c_within _ _ _) rfl (by simp) rfl (by simp) ?_
  simp
  refine ⟨fun hno => ?_, fun h1 h2 => ?_⟩
  · have : (okDf a && inR n 0 30) = false := by rcases hno with h | h <;> simp [h]
    simp [cwDf, this]
  · refine .ddat (c_counts a h1) rfl (by simp [Df.d]) ?_
    rintro _ rfl
    have hr : 0 ≤ n ∧ n ≤ 30 := by simpa [inR] using h2
    obtain ⟨k, rfl⟩ : ∃ k : Nat, n = k := ⟨n.toNat, by omega⟩
    have hk : k < 31 := by omega
    have hkz : (k : Int) < 31 := by omega
    obtain ⟨r1, r2⟩ := rowsC_get a hk
    have n1 := (okDf_len h1).1
    obtain ⟨c1, c2⟩ := crow_get (a := a) (k := k) (q := 0) (by omega)
    have c0 := crow_len a k
    simp [tabD, rowsC_len, hk, hkz, r1, r2, c1, c2, c0, n1, cwDf, h1, h2]
    omega

set_option maxHeartbeats 800000 in
set_option maxRecDepth 100000 in
theorem c_RankWord (a : Df) (s : List UInt8) (hf : a.fine) (hsl : s.length ≤ 9223372036854775807) : DCalls Try.prog 23 [.d a.d, sA s] fun y => y = iD (rkDf a s) := by
  refine dcalls_intro Ty.mixed Try.func23 rfl rfl rfl [2] (by kernel_rfl) (by simp) ?_
  simp [Df.d]
  refine .dval (c_DfaValid a hf) rfl (by simp [Df.d]) rfl ?_
  simp
  refine .flat (fun _ => c_WordValid s hsl) rfl (by simp) rfl (by simp) ?_
  simp
  refine ⟨fun hno => ?_, fun h1 h2 => ?_⟩
  · have : (okDf a && wordOk s) = false := by rcases hno with h | h <;> simp [h]
    simp [rkDf, this]
  · refine .ddat (c_counts a h1) rfl (by simp [Df.d]) ?_
    rintro _ rfl
    have hsc : ∀ ys : List AV, ys.length = 31 → setCells 0 ((rowsC a 31).map AV.d) ys = tabB a := fun ys h => tab_store a h
    have hone := rowsC_one a
    have hw := letters_all h2
    have hl8 := letters_len h2
    have n1 := (okDf_len h1).1
    have hl3 := l3_ltr' hw
    have hrb := rank_bd (a.lang 0) hl3 (by simp; omega)
    have hR : (rankL (a.lang 0) (s.map ltr) : Int) = csum s.length (a.lang 0) + lexr (a.lang 0) (s.map ltr) := by simp [rankL]
    have hrk : rkDf a s = (rankL (a.lang 0) (s.map ltr) : Int) := by simp [rkDf, h1, h2]
    have hdrop := fun i (h : i < 31) => tabB_drop a (i := i) h
    have htk := fun p => tabB_kp p a
    rw [hrk]
    generalize (rankL (a.lang 0) (s.map ltr) : Int) = R at *
    simp [tabD, hsc, rowsC_len]
    refine ⟨hone, ?_⟩
    refine LoopVC.at { i : Nat // i ≤ s.length } (fun i => [(1, sA s), (2, dpA a), (5, .ptr 500 0), (6, iA (csum i.1 (a.lang 0) : Nat)), (22, iA s.length), (23, iA i.1)]) (fun _ => [(500, .bx (tabB a))]) [500] (fun i => s.length - i.1) ⟨0, by omega⟩ (by simp [csum]) (by simp [htk]) ?_
    rintro ⟨i, hi⟩
    rcases Nat.lt_or_ge i s.length with h' | h'
    · have hi31 : i < 31 := by omega
      have hiz : (i : Int) < 31 := by omega
      have hd := hdrop i hi31
      obtain ⟨c1, c2⟩ := crow_get (a := a) (k := i) (q := 0) (by omega)
      have c0 := crow_len a i
      have hb := csum_bd (n := i + 1) (by omega) (a.lang 0)
      have hcs : (csum (i + 1) (a.lang 0) : Int) = csum i (a.lang 0) + cq a i 0 := by simp [csum, cq]
      have hn0 : 0 < a.next.length := by omega
      have hwr : IntKind.i64.wrap ((csum i (a.lang 0) : Int) + cq a i 0) = csum (i + 1) (a.lang 0) := by rw [hcs]; exact wrap64 (by omega) (by omega)
      simp [h', hiz, hd, c1, c2, c0, hn0]
      refine ⟨i + 1, .mk ?_ ?_, by omega, by omega⟩
      · simp; exact ⟨by simpa using hwr, wrap64 (by omega) (by omega)⟩
      · simp [htk]
    · have : i = s.length := by omega
      subst this
      simp
      refine LoopVC.at { i : Nat // i ≤ s.length } (fun i => [(1, sA s), (2, dpA a), (5, .ptr 500 0), (6, iA (R - (lexr (a.lang (a.run 0 (s.take i.1))) ((s.drop i.1).map ltr) : Nat))), (8, iA (a.run 0 (s.take i.1))), (35, iA s.length), (36, iA i.1)]) (fun _ => [(500, .bx (tabB a))]) [500] (fun i => s.length - i.1) ⟨0, by omega⟩ (by simp [Df.run]; omega) (by simp [htk]) ?_
      rintro ⟨i, hi⟩
      have hok := run_st h1 (st0 h1) (take_all hw i)
      rcases Nat.lt_or_ge i s.length with h' | h'
      · have hlet := c_letter s i h'
        have hb : isL s[i] = true := by rw [List.all_eq_true] at hw; exact hw _ (List.getElem_mem h')
        have hlt := ltr_of hb
        have hrs := run_snoc a 0 h'
        have hde : (s.drop i).map ltr = ltr s[i] :: (s.drop (i + 1)).map ltr := by rw [List.drop_eq_getElem_cons h']; rfl
        have hl3d : l3 ((s.drop (i + 1)).map ltr) := l3_ltr' (by rw [List.all_eq_true] at hw ⊢; exact fun x hx => hw x (List.mem_of_mem_drop hx))
        rw [hde]
        generalize a.run 0 (s.take i) = q at *
        have hlc := lexr_cons a q (ltr s[i]) ((s.drop (i + 1)).map ltr)
        have hlb := lexr_bd a (a.go q (ltr s[i])) hl3d (by simp; omega)
        rw [← hrs] at hlc hlb
        have hwl : ((s.drop (i + 1)).map ltr).length = s.length - 1 - i := by simp; omega
        rw [hwl] at hlc
        rw [hlc]
        generalize hq' : a.run 0 (s.take (i + 1)) = q' at *
        generalize hw' : ((s.drop (i + 1)).map ltr) = w at *
        generalize hE : (lexr (a.lang q') w : Int) = E at *
        have hq := hok.1
        have hq2 := hok.2
        have hk : q.toNat < a.next.length := by omega
        obtain ⟨g1, g2⟩ := okDf_row h1 hk
        obtain ⟨d, hd⟩ : ∃ d : Nat, ltr s[i] = d := ⟨(ltr s[i]).toNat, by omega⟩
        have a1 := getD_row (xs := a.next) (i := q.toNat) [] hk
        have hgo : ∀ c : Nat, a.go q c = (a.next.getD q.toNat []).getD c 0 := fun c => by simp [Df.go]
        have hgs : ∀ c : Nat, c < 3 → a.st (a.go q c) := fun c hc => go_st h1 hok (by omega)
        generalize a.next.getD q.toNat [] = nx at *
        rw [hd] at hlet hlt hrs ⊢
        simp [h']
        refine .dval hlet rfl (by simp) rfl ?_
        simp
        refine LoopVC.at { l : Nat // l ≤ d } (fun l => [(1, sA s), (2, dpA a), (5, .ptr 500 0), (6, iA (R - (cqs a (s.length - 1 - i) q d + E) + cqs a (s.length - 1 - i) q l.1)), (8, iA q), (9, iA i), (35, iA s.length), (36, iA i), (41, iA d), (42, iA l.1)]) (fun _ => [(500, .bx (tabB a))]) [500] (fun l => d - l.1) ⟨0, by omega⟩ (by simp [cqs_zero]) (by simp [htk]) ?_
        rintro ⟨l, hl⟩
        have hw1 : IntKind.i64.wrap ((s.length : Int) - 1) = (s.length : Int) - 1 := wrap64 (by omega) (by omega)
        have hw2 : IntKind.i64.wrap ((s.length : Int) - 1 - i) = ((s.length - 1 - i : Nat) : Int) := by rw [wrap64 (by omega) (by omega)]; omega
        have hm31 : s.length - 1 - i < 31 := by omega
        generalize s.length - 1 - i = m at *
        rcases Nat.lt_or_ge l d with hld | hld
        · have a2 := getD_row (xs := nx) (i := l) 0 (by omega)
          have hgl := hgo l
          rw [← hgl] at a2
          have hgl2 := hgs l (by omega)
          have t1 := hgl2.1
          have t2 := hgl2.2
          have hcs := cqs_succ a m q l
          have hb1 := cqs_bd a (k := m) (by omega) q (c := l + 1) (by omega)
          have hb2 := cqs_bd a (k := m) (by omega) q (c := d) (by omega)
          obtain ⟨t, ht⟩ : ∃ t : Nat, a.go q l = t := ⟨(a.go q l).toNat, by omega⟩
          rw [ht] at a2 t1 t2 hcs
          have htn : t < a.next.length := by omega
          obtain ⟨c1, c2⟩ := crow_get (a := a) (k := m) htn
          have c0 := crow_len a m
          have hdm := hdrop m hm31
          have hmz : (m : Int) < 31 := by omega
          have l3 : l < 3 := by omega
          have hwr : IntKind.i64.wrap (R - (cqs a m q d + E) + cqs a m q l + cq a m t) = R - (cqs a m q d + E) + cqs a m q (l + 1) := by rw [hcs, wrap64 (by omega) (by omega)]; omega
          simp [hld]
          refine .one (sch [.pur 0, .pur 1, .pur 2, .pur 3, .pur 4, .pur 5, .pur 6, .pur 7, .pur 8, .pur 9, .pur 10, .pur 11, .pur 12, .pur 13, .pur 14, .pur 15, .pur 16, .pur 17, .pur 18, .eff 19 []]) (by kernel_rfl) ?_
          simp [hw1, hw2, hmz, hdm, hq, hq2, a1, a2, g1, l3, c1, c2, c0, htn]
          refine ⟨by omega, l + 1, .mk ?_ ?_, by omega, by omega⟩
          · simp; exact ⟨hwr, wrap64 (by omega) (by omega)⟩
          · simp [htk]
        · have : l = d := by omega
          subst this
          have a2 := getD_row (xs := nx) (i := l) 0 (by omega)
          have hgl := hgo l
          rw [← hgl, ← hrs] at a2
          have l3 : l < 3 := by omega
          have l4 : (l : Int) < 3 := by omega
          simp
          refine .one (sch [.pur 0, .pur 1, .pur 2, .pur 3, .pur 4, .pur 5, .pur 6, .eff 7 [0, 1, 2, 3, 4], .pur 8, .pur 9, .eff 10 []]) (by kernel_rfl) ?_
          simp [hq, hq2, a1]
          refine .dval hlet rfl (by simp) rfl ?_
          simp [hq, hq2, a1, a2, g1, l3, l4]
          refine ⟨i + 1, .mk ?_ ?_, by omega, by omega⟩
          · simp [hq']
            rw [← List.map_drop, hw', hE]
            exact ⟨by omega, wrap64 (by omega) (by omega)⟩
          · simp [htk]
      · have : i = s.length := by omega
        subst this
        simp [lexr]

set_option maxHeartbeats 800000 in
set_option maxRecDepth 100000 in
theorem c_WordNumber (a : Df) (n : Int) (hf : a.fine) (hn2 : n ≤ 9223372036854775807) : TCalls Try.prog 32 [.d a.d, iA n] (WnR a n) := by
  refine tcalls_intro Ty.mixed Try.func32 rfl rfl rfl [2] (by kernel_rfl) (by simp) ?_
  simp [Df.d]
  refine .dval (c_DfaValid a hf) rfl (by simp [Df.d]) rfl ?_
  simp
  refine ⟨fun hno => ⟨[], false, rfl, .inr ⟨fun hy => ?_, rfl, rfl⟩⟩, fun h1 h2 => ?_⟩
  · rcases hno with h | h
    · rw [hy.1] at h; cases h
    · omega
  refine .ddat (c_counts a h1) rfl (by simp [Df.d]) ?_
  rintro _ rfl
  have hsc : ∀ ys : List AV, ys.length = 31 → setCells 0 ((rowsC a 31).map AV.d) ys = tabB a := fun ys h => tab_store a h
  have hone := rowsC_one a
  have n1 := (okDf_len h1).1
  have hdrop := fun i (h : i < 31) => tabB_drop a (i := i) h
  have htk := fun p => tabB_kp p a
  obtain ⟨N, rfl⟩ : ∃ N : Nat, n = N := ⟨n.toNat, by omega⟩
  simp [tabD, hsc, rowsC_len]
  refine ⟨hone, ?_⟩
  refine LoopVC.at { L : Nat // L ≤ 30 ∧ csum L (a.lang 0) ≤ N } (fun L => [(1, iA (N - csum L.1 (a.lang 0) : Nat)), (2, dpA a), (6, .ptr 600 0), (7, iA L.1)]) (fun _ => [(600, .bx (tabB a))]) [600] (fun L => 31 - L.1) ⟨0, by omega, by simp [csum]⟩ (by simp [csum]) (by simp [htk]) ?_
  rintro ⟨L, hL, hLN⟩
  have hL31 : L < 31 := by omega
  have hLz : (L : Int) < 31 := by omega
  have hd := hdrop L hL31
  obtain ⟨c1, c2⟩ := crow_get (a := a) (k := L) (q := 0) (by omega)
  have c0 := crow_len a L
  have hn0 : 0 < a.next.length := by omega
  have hcq : cq a L ((0 : Nat) : Int) = (cnt L (a.lang 0) : Nat) := rfl
  rw [hcq] at c1 c2
  have hcs : csum (L + 1) (a.lang 0) = csum L (a.lang 0) + cnt L (a.lang 0) := rfl
  have hcb := csum_bd (n := L + 1) (by omega) (a.lang 0)
  have hwr : IntKind.i64.wrap (((N - csum L (a.lang 0) : Nat) : Int) - cnt L (a.lang 0)) = (N : Int) - csum L (a.lang 0) - cnt L (a.lang 0) := by rw [wrap64 (by omega) (by omega)]; omega
  have hw1 : IntKind.i64.wrap ((L : Int) + 1) = ((L + 1 : Nat) : Int) := by rw [wrap64 (by omega) (by omega)]; omega
  simp [hLz, hd, c1, c2, c0, hn0, hw1]
  refine ⟨fun hge => ⟨fun hbig => ?_, fun hsm => ?_⟩, fun hlt => ?_⟩
  · refine ⟨[], false, rfl, .inl ⟨⟨h1, by omega⟩, rfl, .inr ⟨rfl, rfl, ?_⟩⟩⟩
    have : L = 30 := by omega
    subst this
    show csum (30 + 1) (a.lang 0) ≤ N
    omega
  · refine ⟨L + 1, .mk ?_ ?_, ⟨by omega, by omega⟩, by omega⟩
    · simp; rw [hwr]; omega
    · simp [htk]
  · have hq0 : a.run 0 [] = 0 := rfl
    have hini := WnRest.init (f := a.lang 0) (n := N) (L := L) hLN (by omega)
    have hw2 : IntKind.i64.wrap ((L : Int) - 1) = (L : Int) - 1 := wrap64 (by omega) (by omega)
    simp [hw2]
    refine LoopVC.at { g : WG // g.u.length ≤ L ∧ g.u.all isL = true ∧ WnRest (a.lang 0) N (g.u.map ltr) (a.lang (a.run 0 g.u)) (L - g.u.length) g.m } (fun g => [(1, iA g.1.m), (2, dpA a), (6, .ptr 600 0), (8, sA g.1.u), (9, iA (a.run 0 g.1.u)), (10, iA ((L : Int) - 1 - g.1.u.length))]) (fun _ => [(600, .bx (tabB a))]) [600] (fun g => L - g.1.u.length) ⟨⟨[], N - csum L (a.lang 0)⟩, by simp, rfl, by simpa [hq0] using hini⟩ (by simp [hq0]) (by simp [htk]) ?_
    rintro ⟨⟨u, m⟩, hu1, hu2, hwn⟩
    simp only at hu1 hu2 hwn
    have hok := run_st h1 (st0 h1) hu2
    rcases Nat.lt_or_ge u.length L with hul | hul
    · obtain ⟨lf, hlf⟩ : ∃ lf, L - u.length = lf + 1 := ⟨L - u.length - 1, by omega⟩
      have hten : (L : Int) - 1 - u.length = lf := by omega
      have hsnoc : ∀ b, a.run 0 (u ++ [b]) = a.go (a.run 0 u) (ltr b) := fun b => by rw [run_app]; rfl
      rw [hlf] at hwn
      obtain ⟨q, hqe⟩ : ∃ q, a.run 0 u = q := ⟨_, rfl⟩
      rw [hqe] at hwn hok
      have hq := hok.1
      have hq2 := hok.2
      have hk : q.toNat < a.next.length := by omega
      obtain ⟨g1, g2⟩ := okDf_row h1 hk
      have a1 := getD_row (xs := a.next) (i := q.toNat) [] hk
      have hgo : ∀ c : Nat, a.go q c = (a.next.getD q.toNat []).getD c 0 := fun c => by simp [Df.go]
      have hgs : ∀ c : Nat, c < 3 → a.st (a.go q c) := fun c hc => go_st h1 hok (by omega)
      generalize a.next.getD q.toNat [] = nx at *
      have hlz : (0 : Int) ≤ lf := by omega
      have hm2 : (m : Int) ≤ 617673396283947 := by have := hwn.1; have := cnt_bd (n := lf + 1) (by omega) (a.lang q); omega
      simp [hten, hlz, hqe]
      refine LoopVC.at { l : Nat // l < 3 ∧ lsum a lf q l ≤ m } (fun l => [(1, iA (m - lsum a lf q l.1 : Nat)), (2, dpA a), (6, .ptr 600 0), (8, sA u), (9, iA q), (10, iA lf), (11, iA l.1)]) (fun _ => [(600, .bx (tabB a))]) [600] (fun l => 3 - l.1) ⟨0, by simp [lsum_zero]⟩ (by simp [lsum_zero]) (by simp [htk]) ?_
      rintro ⟨l, hl, hS⟩
      have a2 := getD_row (xs := nx) (i := l) 0 (by omega)
      have hgl := hgo l
      rw [← hgl] at a2
      have hgl2 := hgs l (by omega)
      have t1 := hgl2.1
      have t2 := hgl2.2
      have hsr := lsum_succ a lf q l
      have hst := lsum_step hwn hl hS
      have hl3 := lsum_lt3 hwn (l := l + 1) (by omega)
      obtain ⟨t, ht⟩ : ∃ t : Nat, a.go q l = t := ⟨(a.go q l).toNat, by omega⟩
      rw [ht] at a2 t1 t2 hst hsr
      have htn : t < a.next.length := by omega
      obtain ⟨c1, c2⟩ := crow_get (a := a) (k := lf) htn
      have hcq : cq a lf t = (cnt lf (a.lang t) : Nat) := rfl
      rw [hcq] at c1 c2
      have c0 := crow_len a lf
      have hdm := hdrop lf (by omega)
      have hmz : (lf : Int) < 31 := by omega
      have l4 : (l : Int) < 3 := by omega
      generalize cnt lf (a.lang t) = C at *
      simp
      refine .one (sch [.pur 0, .pur 1, .pur 2, .pur 3, .pur 4, .pur 5, .pur 6, .pur 7, .pur 8, .pur 9, .pur 10, .pur 11, .pur 12, .pur 13, .pur 14]) (by kernel_rfl) ?_
      simp [hmz, hdm, hq, hq2, a1, a2, g1, hl, l4, c1, c2, c0, htn]
      refine ⟨fun hge => ?_, fun hlt => ?_⟩
      · refine .one (sch [.pur 0, .pur 1, .pur 2, .pur 3, .pur 4, .pur 5, .pur 6, .pur 7, .pur 8, .pur 9, .pur 10, .pur 11, .pur 12, .pur 13, .pur 14, .eff 15 []]) (by kernel_rfl) ?_
        have hwd : IntKind.i64.wrap (((m - lsum a lf q l : Nat) : Int) - C) = ((m - lsum a lf q (l + 1) : Nat) : Int) := by rw [hsr, wrap64 (by omega) (by omega)]; omega
        simp [hmz, hdm, hq, hq2, a1, a2, g1, hl, l4, c1, c2, c0, htn]
        have hl4 := hl3 (by omega)
        refine ⟨l + 1, .mk ?_ ?_, ⟨by omega, by omega⟩, by omega⟩
        · simp; exact ⟨hwd, wrap64 (by omega) (by omega)⟩
        · simp [htk]
      · refine .dval (c_letterText (l : Int) (by omega) (by omega)) rfl (by simp) rfl ?_
        obtain ⟨b, hb1, hb2, hb3⟩ := ltxt_ex hl
        have hrb := hsnoc b
        rw [hqe, hb3, ht] at hrb
        rw [hb1]
        simp [hq, hq2, a1, a2, g1, hl, l4]
        refine ⟨by omega, ⟨u ++ [b], m - lsum a lf q l⟩, .mk ?_ ?_, ⟨by simp; omega, ?_, ?_⟩, by simp; omega⟩
        · simp [hrb]; rw [wrap64 (by omega) (by omega)]; omega
        · simp [htk]
        · intro x hx
          rcases List.mem_append.1 hx with hx | hx
          · exact (List.all_eq_true.1 hu2) x hx
          · rw [List.mem_singleton.1 hx]; exact hb2
        · have e : L - (u ++ [b]).length = lf := by simp; omega
          have := hst hlt
          simp only [List.map_append, List.map_cons, List.map_nil, hb3, hrb, e]
          exact this
    · have hLu : L - u.length = 0 := by omega
      rw [hLu] at hwn
      have hdone := hwn.done (l3_ltr' hu2) (by simp; omega)
      have hneg : (L : Int) - 1 - u.length < 0 := by omega
      simp [hneg]
      exact ⟨fun h => by omega, fun _ => ⟨u, true, rfl, .inl ⟨⟨h1, by omega⟩, hu2, hdone⟩⟩⟩
end Go.Fw
