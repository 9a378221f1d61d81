/- Counting words: how many of a length a language has; ranks; the word with a number. Pure. -/
import Derived.Test.YtmodfeaneggloaaMa
import Derived.Test.YtmodfeaneggloaaQa
set_option linter.unusedSimpArgs false
set_option linter.unusedVariables false
namespace Go.Fw
open Go Go.Proofs
set_option linter.unusedSectionVars false
set_option linter.unnecessarySimpa false

/-- How many words of a length are in a language. -/
def cnt : Nat → (List Int → Bool) → Nat
  | 0, f => if f [] then 1 else 0
  | n + 1, f => cnt n (fun w => f (0 :: w)) + cnt n (fun w => f (1 :: w)) + cnt n (fun w => f (2 :: w))
theorem cnt_congr : ∀ (n : Nat) (f g : List Int → Bool), (∀ w, l3 w → w.length = n → f w = g w) → cnt n f = cnt n g
  | 0, f, g, h => by simp [cnt, h [] (by simp [l3]) rfl]
  | n + 1, f, g, h => by
    have hc : ∀ c : Int, 0 ≤ c ∧ c < 3 → cnt n (fun w => f (c :: w)) = cnt n (fun w => g (c :: w)) := fun c hc => cnt_congr n _ _ fun w hw hl => h (c :: w) (l3_cons.2 ⟨hc, hw⟩) (by simp [hl])
    simp only [cnt]
    rw [hc 0 (by omega), hc 1 (by omega), hc 2 (by omega)]
theorem cnt_sides : ∀ (n : Nat) (f g : List Int → Bool), cnt n (fun w => f w || g w) + cnt n (fun w => f w && g w) = cnt n f + cnt n g
  | 0, f, g => by cases h1 : f [] <;> cases h2 : g [] <;> simp [cnt, h1, h2]
  | n + 1, f, g => by
    have h := fun c : Int => cnt_sides n (fun w => f (c :: w)) (fun w => g (c :: w))
    have h0 := h 0
    have h1 := h 1
    have h2 := h 2
    simp only [cnt]; omega
theorem cnt_not : ∀ (n : Nat) (f : List Int → Bool), cnt n f + cnt n (fun w => !f w) = 3 ^ n
  | 0, f => by cases h1 : f [] <;> simp [cnt, h1]
  | n + 1, f => by
    have h := fun c : Int => cnt_not n (fun w => f (c :: w))
    have h0 := h 0
    have h1 := h 1
    have h2 := h 2
    simp only [cnt]; omega
theorem cnt_le (n : Nat) (f : List Int → Bool) : cnt n f ≤ 3 ^ n := by have := cnt_not n f; omega
theorem cnt_zero {n : Nat} {f : List Int → Bool} (h : ∀ w, l3 w → w.length = n → f w = false) : cnt n f = 0 := by
  rw [cnt_congr n f (fun _ => false) h]
  clear h
  induction n with
  | zero => simp [cnt]
  | succ n ih => simp only [cnt, ih]
/-- How many words of as many letters come before a word. -/
def lexr : (List Int → Bool) → List Int → Nat
  | _, [] => 0
  | f, c :: w => ((List.range c.toNat).map fun (l : Nat) => cnt w.length fun v => f ((l : Int) :: v)).sum + lexr (fun v => f (c :: v)) w
/-- The next word of as many letters. -/
def nextL : List Int → Option (List Int)
  | [] => none
  | c :: w => match nextL w with
    | some v => some (c :: v)
    | none => if c < 2 then some ((c + 1) :: List.replicate w.length 0) else none
def valL : List Int → Nat
  | [] => 0
  | c :: w => c.toNat * 3 ^ w.length + valL w
theorem lexr_zeros : ∀ (n : Nat) (f : List Int → Bool), lexr f (List.replicate n 0) = 0
  | 0, _ => rfl
  | n + 1, f => by simp [List.replicate_succ, lexr, lexr_zeros n]
theorem valL_zeros : ∀ n : Nat, valL (List.replicate n 0) = 0
  | 0 => rfl
  | n + 1 => by simp [List.replicate_succ, valL, valL_zeros n]
theorem nextL_step : ∀ (w : List Int) (f : List Int → Bool), l3 w → match nextL w with
    | some v => lexr f v = lexr f w + (f w).toNat ∧ v.length = w.length ∧ l3 v ∧ valL v = valL w + 1
    | none => cnt w.length f = lexr f w + (f w).toNat ∧ valL w + 1 = 3 ^ w.length
  | [], f, _ => by cases h : f [] <;> simp [nextL, lexr, cnt, valL, h]
  | c :: w, f, hw => by
    rw [l3_cons] at hw
    obtain ⟨hc, hw⟩ := hw
    have ih := nextL_step w (fun v => f (c :: v)) hw
    unfold nextL
    cases hn : nextL w with
    | some v =>
      rw [hn] at ih
      obtain ⟨h1, h2, h3, h4⟩ := ih
      simp only
      refine ⟨?_, by simp [h2], l3_cons.2 ⟨hc, h3⟩, by simp [valL, h2, h4]; omega⟩
      simp only [lexr, h2, h1]; omega
    | none =>
      rw [hn] at ih
      obtain ⟨h1, h2⟩ := ih
      obtain rfl | rfl | rfl : c = 0 ∨ c = 1 ∨ c = 2 := by omega
      · have hz : l3 ((0 + 1 : Int) :: List.replicate w.length 0) := l3_cons.2 ⟨by omega, fun x hx => by have := List.eq_of_mem_replicate hx; omega⟩
        simp only [show (0 : Int) < 2 by omega, if_true]
        refine ⟨?_, by simp, hz, ?_⟩
        · simp [lexr, lexr_zeros, List.range_succ]; omega
        · simp [valL, valL_zeros]; omega
      · have hz : l3 ((1 + 1 : Int) :: List.replicate w.length 0) := l3_cons.2 ⟨by omega, fun x hx => by have := List.eq_of_mem_replicate hx; omega⟩
        simp only [show (1 : Int) < 2 by omega, if_true]
        refine ⟨?_, by simp, hz, ?_⟩
        · simp [lexr, lexr_zeros, List.range_succ]; omega
        · simp [valL, valL_zeros]; omega
      · simp only [show ¬ (2 : Int) < 2 by omega, if_false]
        have := Nat.pow_succ 3 w.length
        refine ⟨?_, ?_⟩
        · simp [lexr, cnt, List.range_succ]; omega
        · simp [valL]; omega
theorem lexr_le : ∀ (w : List Int) (f : List Int → Bool), l3 w → lexr f w + (f w).toNat ≤ cnt w.length f
  | [], f, _ => by cases h : f [] <;> simp [lexr, cnt, h]
  | c :: w, f, hw => by
    rw [l3_cons] at hw
    have ih := lexr_le w (fun v => f (c :: v)) hw.2
    obtain rfl | rfl | rfl : c = 0 ∨ c = 1 ∨ c = 2 := by omega
    all_goals
      simp [lexr, cnt, List.range_succ]
      omega
/-- The words with fewer letters. -/
def csum : Nat → (List Int → Bool) → Nat
  | 0, _ => 0
  | n + 1, f => csum n f + cnt n f
def rankL (f : List Int → Bool) (w : List Int) : Nat := csum w.length f + lexr f w
def numL (w : List Int) : Nat := w.foldl (fun n c => 3 * n + c.toNat + 1) 0
theorem csum_mono {f : List Int → Bool} {m n : Nat} (h : m ≤ n) : csum m f ≤ csum n f := by
  induction h with
  | refl => exact Nat.le_refl _
  | step _ ih => simp only [csum]; omega
theorem csum_all : ∀ n : Nat, 2 * csum n (fun _ => true) + 1 = 3 ^ n
  | 0 => rfl
  | n + 1 => by
    have h1 := csum_all n
    have h2 := cnt_not n (fun _ => true)
    have h3 : cnt n (fun _ : List Int => !true) = 0 := cnt_zero fun _ _ _ => rfl
    simp only [csum]; omega
theorem foldl_num : ∀ (w : List Int) (k : Nat), w.foldl (fun n c => 3 * n + c.toNat + 1) k = k * 3 ^ w.length + numL w
  | [], k => by simp [numL]
  | c :: w, k => by
    have h1 := foldl_num w (3 * k + c.toNat + 1)
    have h2 := foldl_num w (3 * 0 + c.toNat + 1)
    unfold numL
    simp only [List.foldl_cons, List.length_cons]
    rw [h1, h2]
    have : (3 * k + c.toNat + 1) * 3 ^ w.length = k * 3 ^ (w.length + 1) + (c.toNat + 1) * 3 ^ w.length := by
      rw [Nat.pow_succ, Nat.add_assoc, Nat.add_mul]; congr 1; rw [Nat.mul_comm 3 k, Nat.mul_assoc, Nat.mul_comm 3]
    rw [this]; simp; omega
theorem numL_eq : ∀ w : List Int, numL w = csum w.length (fun _ => true) + valL w
  | [] => rfl
  | c :: w => by
    have h1 := foldl_num w (3 * 0 + c.toNat + 1)
    have h2 := numL_eq w
    have h3 := csum_all w.length
    have h4 := csum_all (w.length + 1)
    have h5 := Nat.pow_succ 3 w.length
    have e : numL (c :: w) = (3 * 0 + c.toNat + 1) * 3 ^ w.length + numL w := h1
    rw [e, h2]
    simp only [valL, List.length_cons]
    have : (3 * 0 + c.toNat + 1) * 3 ^ w.length = c.toNat * 3 ^ w.length + 3 ^ w.length := by rw [Nat.add_mul]; simp
    omega
theorem lexr_all : ∀ w : List Int, l3 w → lexr (fun _ => true) w = valL w
  | [], _ => rfl
  | c :: w, h => by
    rw [l3_cons] at h
    have ih := lexr_all w h.2
    have h2 := csum_all w.length
    have h3 := csum_all (w.length + 1)
    have h5 := Nat.pow_succ 3 w.length
    simp only [csum] at h3
    have h4 : cnt w.length (fun _ => true) = 3 ^ w.length := by omega
    obtain rfl | rfl | rfl : c = 0 ∨ c = 1 ∨ c = 2 := by omega
    all_goals
      simp [lexr, valL, List.range_succ, ih, h4]
      try omega
theorem rank_all {w : List Int} (h : l3 w) : rankL (fun _ => true) w = numL w := by rw [numL_eq, rankL, lexr_all w h]
def succL (w : List Int) : List Int := match nextL w with
  | some v => v
  | none => List.replicate (w.length + 1) 0
theorem succL_step {w : List Int} (h : l3 w) : l3 (succL w) ∧ numL (succL w) = numL w + 1 ∧ ∀ f, rankL f (succL w) = rankL f w + (f w).toNat := by
  unfold succL
  cases hn : nextL w with
  | some v =>
    simp only
    have h0 := nextL_step w (fun _ => true) h
    rw [hn] at h0
    obtain ⟨_, h1, h2, h3⟩ := h0
    refine ⟨h2, by rw [numL_eq, numL_eq, h1, h3]; omega, fun f => ?_⟩
    have h4 := nextL_step w f h
    rw [hn] at h4
    rw [rankL, rankL, h1, h4.1]; omega
  | none =>
    simp only
    have h0 := nextL_step w (fun _ => true) h
    rw [hn] at h0
    have h1 := csum_all w.length
    have h2 := csum_all (w.length + 1)
    have h5 := Nat.pow_succ 3 w.length
    refine ⟨fun x hx => by have := List.eq_of_mem_replicate hx; omega, ?_, fun f => ?_⟩
    · rw [numL_eq, numL_eq, valL_zeros, List.length_replicate]
      obtain ⟨_, h3⟩ := h0
      omega
    · have h4 := nextL_step w f h
      rw [hn] at h4
      obtain ⟨h4, _⟩ := h4
      rw [rankL, rankL, lexr_zeros, List.length_replicate]
      simp only [csum]; omega
def wordN : Nat → List Int
  | 0 => []
  | k + 1 => succL (wordN k)
theorem wordN_l3 : ∀ k, l3 (wordN k)
  | 0 => by simp [wordN, l3]
  | k + 1 => (succL_step (wordN_l3 k)).1
theorem wordN_num : ∀ k, numL (wordN k) = k
  | 0 => rfl
  | k + 1 => by rw [wordN, (succL_step (wordN_l3 k)).2.1, wordN_num k]
theorem numL_snoc (w : List Int) (c : Int) : numL (w ++ [c]) = 3 * numL w + c.toNat + 1 := by simp [numL, List.foldl_append]
theorem snocI : ∀ l : List Int, l = [] ∨ ∃ x b, l = x ++ [b]
  | [] => .inl rfl
  | a :: l => by
    rcases snocI l with rfl | ⟨x, b, rfl⟩
    · exact .inr ⟨[], a, rfl⟩
    · exact .inr ⟨a :: x, b, rfl⟩
theorem numL_inj : ∀ (n : Nat) {w v : List Int}, w.length ≤ n → l3 w → l3 v → numL w = numL v → w = v
  | n, w, v, hn, hw, hv, h => by
    rcases snocI w with rfl | ⟨x, b, rfl⟩ <;> rcases snocI v with rfl | ⟨y, c, rfl⟩
    · rfl
    · rw [numL_snoc] at h; simp [numL] at h
    · rw [numL_snoc] at h; simp [numL] at h
    · have hb := hw b (by simp)
      have hc := hv c (by simp)
      rw [numL_snoc, numL_snoc] at h
      cases n with
      | zero => simp at hn
      | succ n =>
        have hx := numL_inj n (w := x) (v := y) (by simp at hn; omega) (fun z hz => hw z (by simp [hz])) (fun z hz => hv z (by simp [hz])) (by omega)
        have hbc : b = c := by omega
        rw [hx, hbc]
theorem wordN_of {w : List Int} (h : l3 w) : wordN (numL w) = w := numL_inj _ (Nat.le_refl _) (wordN_l3 _) h (wordN_num _)
theorem rank_add (f : List Int → Bool) (k : Nat) : ∀ d, rankL f (wordN k) + (if d = 0 then 0 else (f (wordN k)).toNat) ≤ rankL f (wordN (k + d))
  | 0 => by simp
  | d + 1 => by
    have h1 := rank_add f k d
    have h2 := (succL_step (wordN_l3 (k + d))).2.2 f
    have e : wordN (k + (d + 1)) = succL (wordN (k + d)) := rfl
    rw [e, h2]
    by_cases hd : d = 0
    · subst hd; simp
    · rw [if_neg hd] at h1; simp; omega
theorem rank_lt {f : List Int → Bool} {u v : List Int} (hu : l3 u) (hv : l3 v) (h : numL u < numL v) : rankL f u + (f u).toNat ≤ rankL f v := by
  have := rank_add f (numL u) (numL v - numL u)
  rw [if_neg (by omega), show numL u + (numL v - numL u) = numL v by omega, wordN_of hu, wordN_of hv] at this
  exact this
theorem rank_inj {f : List Int → Bool} {u v : List Int} (hu : l3 u) (hv : l3 v) (fu : f u = true) (fv : f v = true) (h : rankL f u = rankL f v) : u = v := by
  rcases Nat.lt_trichotomy (numL u) (numL v) with h1 | h1 | h1
  · have := rank_lt (f := f) hu hv h1; rw [fu] at this; simp at this; omega
  · exact numL_inj _ (Nat.le_refl _) hu hv h1
  · have := rank_lt (f := f) hv hu h1; rw [fv] at this; simp at this; omega
theorem rank_lt_inv {f : List Int → Bool} {u v : List Int} (hu : l3 u) (hv : l3 v) (h : rankL f u < rankL f v) : numL u < numL v := by
  rcases Nat.lt_trichotomy (numL u) (numL v) with h1 | h1 | h1
  · exact h1
  · rw [numL_inj _ (Nat.le_refl _) hu hv h1] at h; omega
  · have := rank_lt (f := f) hv hu h1; omega
theorem rank_next {f : List Int → Bool} {u v : List Int} (hu : l3 u) (hv : l3 v) (h : numL v = numL u + 1) : rankL f v = rankL f u + (f u).toNat := by
  have h1 := succL_step hu
  have : succL u = v := numL_inj _ (Nat.le_refl _) h1.1 hv (by rw [h1.2.1, h])
  rw [← this, h1.2.2]
theorem rank_zero {f : List Int → Bool} {u : List Int} (hu : l3 u) (h : ∀ v, l3 v → numL v < numL u → f v = false) : rankL f u = 0 := by
  have : ∀ k, k ≤ numL u → rankL f (wordN k) = 0 := by
    intro k
    induction k with
    | zero => intro _; rfl
    | succ k ih =>
      intro hk
      rw [wordN, (succL_step (wordN_l3 k)).2.2, ih (by omega), h _ (wordN_l3 k) (by rw [wordN_num]; omega)]; rfl
  have := this _ (Nat.le_refl _)
  rwa [wordN_of hu] at this
theorem rank_lt_csum {f : List Int → Bool} {w : List Int} (h : l3 w) {n : Nat} (hn : w.length < n) : rankL f w + (f w).toNat ≤ csum n f := by
  have h1 := lexr_le w f h
  have h2 : csum (w.length + 1) f ≤ csum n f := csum_mono hn
  simp only [csum] at h2
  rw [rankL]; omega
theorem valL_lt : ∀ {w : List Int}, l3 w → valL w < 3 ^ w.length
  | [], _ => by simp [valL]
  | c :: w, h => by
    rw [l3_cons] at h
    have ih := valL_lt h.2
    have h5 := Nat.pow_succ 3 w.length
    obtain rfl | rfl | rfl : c = 0 ∨ c = 1 ∨ c = 2 := by omega
    all_goals
      simp [valL]; omega
theorem numL_len {u v : List Int} (hu : l3 u) (h : u.length < v.length) : numL u < numL v := by
  rw [numL_eq, numL_eq]
  have h1 := valL_lt hu
  have h2 := csum_all u.length
  have h3 := csum_all (u.length + 1)
  have h5 := Nat.pow_succ 3 u.length
  have : csum (u.length + 1) (fun _ => true) ≤ csum v.length (fun _ => true) := csum_mono h
  omega
/-- The word with a number, of those with at most so many letters. -/
def WnIs (f : List Int → Bool) (n : Nat) (s : List Int) (ok : Bool) : Prop :=
  (ok = true ∧ l3 s ∧ f s = true ∧ rankL f s = n ∧ s.length ≤ 30) ∨ (ok = false ∧ s = [] ∧ csum 31 f ≤ n)
theorem WnIs.uniq {f : List Int → Bool} {n : Nat} {s t : List Int} {ok ok' : Bool} (h : WnIs f n s ok) (h' : WnIs f n t ok') : s = t ∧ ok = ok' := by
  rcases h with ⟨rfl, h1, h2, h3, h4⟩ | ⟨rfl, rfl, h3⟩ <;> rcases h' with ⟨rfl, g1, g2, g3, g4⟩ | ⟨rfl, rfl, g3⟩
  · exact ⟨rank_inj h1 g1 h2 g2 (by omega), rfl⟩
  · have := rank_lt_csum (f := f) h1 (n := 31) (by omega)
    rw [h2] at this; simp at this; omega
  · have := rank_lt_csum (f := f) g1 (n := 31) (by omega)
    rw [g2] at this; simp at this; omega
  · exact ⟨rfl, rfl⟩
/-- What is still to be found: letters behind those that are known. -/
def WnRest (f : List Int → Bool) (n : Nat) (u : List Int) (g : List Int → Bool) (left m : Nat) : Prop :=
  m < cnt left g ∧ ∀ w, l3 w → w.length = left → g w = true → lexr g w = m → f (u ++ w) = true ∧ csum (u.length + left) f + lexr f (u ++ w) = n
theorem WnRest.init {f : List Int → Bool} {n L : Nat} (h1 : csum L f ≤ n) (h2 : n - csum L f < cnt L f) : WnRest f n [] f L (n - csum L f) :=
  ⟨h2, fun w _ hl hg hm => ⟨hg, by simp; omega⟩⟩
theorem WnRest.step {f g : List Int → Bool} {n left m : Nat} {u : List Int} (h : WnRest f n u g (left + 1) m) {l : Nat} (hl : l < 3)
    (h1 : ((List.range l).map fun (i : Nat) => cnt left fun v => g ((i : Int) :: v)).sum ≤ m) (h2 : m - ((List.range l).map fun (i : Nat) => cnt left fun v => g ((i : Int) :: v)).sum < cnt left fun v => g ((l : Int) :: v)) :
    WnRest f n (u ++ [(l : Int)]) (fun v => g ((l : Int) :: v)) left (m - ((List.range l).map fun (i : Nat) => cnt left fun v => g ((i : Int) :: v)).sum) := by
  refine ⟨h2, fun w hw hwl hg hm => ?_⟩
  have := h.2 ((l : Int) :: w) (l3_cons.2 ⟨by omega, hw⟩) (by simp [hwl]) hg (by simp only [lexr, hwl, Int.toNat_natCast, hm]; omega)
  simp only [List.append_assoc, List.singleton_append, List.length_append, List.length_singleton] at this ⊢
  exact ⟨this.1, by rw [← this.2]; congr 2; omega⟩
theorem WnRest.lt3 {f g : List Int → Bool} {n left m : Nat} {u : List Int} (h : WnRest f n u g (left + 1) m) {l : Nat} (hl : l ≤ 3)
    (h1 : ((List.range l).map fun (i : Nat) => cnt left fun v => g ((i : Int) :: v)).sum ≤ m) : l < 3 := by
  rcases Nat.lt_or_ge l 3 with h2 | h2
  · exact h2
  · have : l = 3 := by omega
    subst this
    have h3 := h.1
    simp [cnt, List.range_succ] at h3 h1
    omega
theorem WnRest.done {f g : List Int → Bool} {n m : Nat} {u : List Int} (hu : l3 u) (hl : u.length ≤ 30) (h : WnRest f n u g 0 m) : WnIs f n u true := by
  have h1 := h.1
  have hg : g [] = true := by
    cases hg : g [] with
    | true => rfl
    | false => simp [cnt, hg] at h1
  simp [cnt, hg] at h1
  have := h.2 [] (by simp [l3]) rfl hg (by simp [lexr, h1])
  simp at this
  exact .inl ⟨rfl, hu, this.1, by rw [rankL]; exact this.2, hl⟩
/-- What is still to be added, from a place in the word on. -/
theorem sum_range_succ (g : Nat → Nat) (l : Nat) : ((List.range (l + 1)).map g).sum = ((List.range l).map g).sum + g l := by
  rw [List.range_succ]; simp
theorem cnt2 (f : List Int → Bool) (n : Nat) (h : n ≤ 2) : cnt n f = ((List.range 13).map fun k => if (wordN k).length = n ∧ f (wordN k) = true then 1 else 0).sum := by
  have e : (List.range 13).map wordN = [[], [0], [1], [2], [0, 0], [0, 1], [0, 2], [1, 0], [1, 1], [1, 2], [2, 0], [2, 1], [2, 2]] := by decide
  have e2 : ((List.range 13).map fun k => if (wordN k).length = n ∧ f (wordN k) = true then 1 else 0) = ((List.range 13).map wordN).map fun w => if w.length = n ∧ f w = true then 1 else 0 := by rw [List.map_map]; rfl
  rw [e2, e]
  obtain rfl | rfl | rfl : n = 0 ∨ n = 1 ∨ n = 2 := by omega
  · simp [cnt]
  · simp [cnt]; omega
  · simp [cnt]; omega

/-! ### Automata -/
theorem l3_ltr' {s : List UInt8} (h : s.all isL = true) : l3 (s.map ltr) := by
  intro c hc
  obtain ⟨b, hb, rfl⟩ := List.mem_map.1 hc
  rw [List.all_eq_true] at h
  have := ltr_of (h b hb)
  omega
theorem num_numL (w : List UInt8) : num w = numL (w.map ltr) := by unfold num numL; rw [List.foldl_map]
theorem cnt_go (a : Df) (q : Int) (n : Nat) : cnt (n + 1) (a.lang q) = cnt n (a.lang (a.go q 0)) + cnt n (a.lang (a.go q 1)) + cnt n (a.lang (a.go q 2)) := rfl
theorem cnt_fin (a : Df) (q : Int) : cnt 0 (a.lang q) = if a.fin q then 1 else 0 := rfl
theorem cnt_bd {n : Nat} (h : n ≤ 31) (f : List Int → Bool) : (cnt n f : Int) ≤ 617673396283947 := by
  have h1 := cnt_le n f
  have h2 : 3 ^ n ≤ 3 ^ 31 := Nat.pow_le_pow_right (by decide) h
  have h3 : (3 ^ 31 : Nat) = 617673396283947 := by decide
  omega
theorem csum_bd {n : Nat} (h : n ≤ 31) (f : List Int → Bool) : (csum n f : Int) ≤ 617673396283947 := by
  have key : ∀ m : Nat, csum m f ≤ csum m fun _ => true := by
    intro m
    induction m with
    | zero => exact Nat.le_refl _
    | succ m ih =>
      have h1 := cnt_le m f
      have h2 := csum_all m
      have h3 := csum_all (m + 1)
      have h5 := Nat.pow_succ 3 m
      simp only [csum] at h3 ⊢
      omega
  have h1 := key n
  have h4 := csum_all n
  have h2 : 3 ^ n ≤ 3 ^ 31 := Nat.pow_le_pow_right (by decide) h
  have h3 : (3 ^ 31 : Nat) = 617673396283947 := by decide
  omega
end Go.Fw
