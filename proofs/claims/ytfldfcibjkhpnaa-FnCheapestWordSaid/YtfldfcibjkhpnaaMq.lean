/- The cheapest word, in plain Lean. -/
import Derived.Test.YtfldfcibjkhpnaaLr
set_option linter.unusedSimpArgs false
set_option linter.unusedVariables false
namespace Go.Fw
open Go Go.Proofs
set_option linter.unnecessarySimpa false

theorem getD_setA {α : Type} (xs : List α) (k : Nat) (v : α) (i : Nat) (d : α) (hk : k < xs.length) : (xs.set k v).getD i d = if k = i then v else xs.getD i d := by
  simp only [List.getD_eq_getElem?_getD, List.getElem?_set]
  by_cases hki : k = i
  · subst hki; simp [hk]
  · simp [hki]
theorem getD_rep {α : Type} (n : Nat) (v : α) (i : Nat) : (List.replicate n v).getD i v = v := by
  simp only [List.getD_eq_getElem?_getD, List.getElem?_replicate]
  split <;> rfl

/-! ### Words and their numbers -/

theorem wv_app (s t : List UInt8) : wv (s ++ t) = wv s * 3 ^ t.length + wv t := by
  induction t using snocInd with
  | nil => simp [wv]
  | snoc t b ih =>
    rw [← List.append_assoc, wv_snoc, wv_snoc, ih, List.length_append, List.length_singleton, Int.pow_succ, ← Int.mul_assoc]
    omega
theorem wv_cons (b : UInt8) (s : List UInt8) : wv (b :: s) = ltr b * 3 ^ s.length + wv s := by
  have := wv_app [b] s
  simpa [wv] using this
theorem bytesLess_wv : ∀ {u v : List UInt8}, u.all isL = true → v.all isL = true → u.length = v.length → Op.bytesLess u v = decide (wv u < wv v)
  | [], [], _, _, _ => by simp [Op.bytesLess]
  | [], _ :: _, _, _, h => by simp at h
  | _ :: _, [], _, _, h => by simp at h
  | a :: u, b :: v, hu, hv, hl => by
    simp only [List.all_cons, Bool.and_eq_true] at hu hv
    simp only [List.length_cons, Nat.add_right_cancel_iff] at hl
    have ha := ltr_of hu.1
    have hb := ltr_of hv.1
    have h1 := wv_bd hu.2
    have h2 := wv_bd hv.2
    rw [Op.bytesLess, bytesLess_wv hu.2 hv.2 hl, wv_cons, wv_cons]
    rw [hl] at h1 ⊢
    generalize (3 : Int) ^ v.length = p at *
    rw [Bool.eq_iff_iff]
    simp only [Bool.or_eq_true, Bool.and_eq_true, decide_eq_true_eq, beq_iff_eq]
    have hlt : a < b ↔ ltr a < ltr b := by rw [UInt8.lt_iff_toNat_lt]; omega
    have heq : a = b ↔ ltr a = ltr b := by rw [← UInt8.toNat_inj]; omega
    rw [hlt, heq]
    rcases Int.lt_trichotomy (ltr a) (ltr b) with h | h | h
    · have : (ltr a + 1) * p ≤ ltr b * p := Int.mul_le_mul_of_nonneg_right (by omega) (by omega)
      rw [Int.add_mul] at this
      constructor
      · intro _; omega
      · intro _; exact .inl h
    · rw [h]
      constructor
      · rintro (h' | h')
        · omega
        · omega
      · intro h'; exact .inr ⟨rfl, by omega⟩
    · have : (ltr b + 1) * p ≤ ltr a * p := Int.mul_le_mul_of_nonneg_right (by omega) (by omega)
      rw [Int.add_mul] at this
      constructor
      · rintro (h' | h')
        · omega
        · omega
      · intro h'; omega
theorem wv_inj : ∀ {u v : List UInt8}, u.all isL = true → v.all isL = true → u.length = v.length → wv u = wv v → u = v
  | [], [], _, _, _, _ => rfl
  | [], _ :: _, _, _, h, _ => by simp at h
  | _ :: _, [], _, _, h, _ => by simp at h
  | a :: u, b :: v, hu, hv, hl, he => by
    simp only [List.all_cons, Bool.and_eq_true] at hu hv
    simp only [List.length_cons, Nat.add_right_cancel_iff] at hl
    have ha := ltr_of hu.1
    have hb := ltr_of hv.1
    have h1 := wv_bd hu.2
    have h2 := wv_bd hv.2
    rw [wv_cons, wv_cons] at he
    rw [hl] at h1 he
    have hab : ltr a = ltr b := by
      generalize (3 : Int) ^ v.length = p at *
      rcases Int.lt_trichotomy (ltr a) (ltr b) with h | h | h
      · have : (ltr a + 1) * p ≤ ltr b * p := Int.mul_le_mul_of_nonneg_right (by omega) (by omega)
        rw [Int.add_mul] at this; omega
      · exact h
      · have : (ltr b + 1) * p ≤ ltr a * p := Int.mul_le_mul_of_nonneg_right (by omega) (by omega)
        rw [Int.add_mul] at this; omega
    have e1 : a = b := by rw [← UInt8.toNat_inj]; omega
    subst e1
    rw [wv_inj hu.2 hv.2 hl (by omega)]
/-- The number of a word, however long. -/
def num (w : List UInt8) : Int := shorterN w.length + wv w
theorem num_lt {w : List UInt8} (h : w.all isL = true) {n : Nat} : num w < shorterN n ↔ w.length < n := by
  have h1 := wv_bd h
  unfold num
  constructor
  · intro hn
    rcases Nat.lt_or_ge w.length n with h' | h'
    · exact h'
    · have := shorterN_mono h'; omega
  · intro hn
    have := shorterN_mono (show w.length + 1 ≤ n from hn)
    rw [shorterN] at this; omega
theorem num_inj {u v : List UInt8} (hu : u.all isL = true) (hv : v.all isL = true) (h : num u = num v) : u = v := by
  have hl : u.length = v.length := by
    have h1 := (num_lt hu (n := v.length)).2
    have h2 := (num_lt hv (n := u.length)).2
    have g1 := wv_bd hu
    have g2 := wv_bd hv
    unfold num at *
    rcases Nat.lt_trichotomy u.length v.length with h' | h' | h'
    · have := h1 h'; omega
    · exact h'
    · have := h2 h'; omega
  refine wv_inj hu hv hl ?_
  unfold num at h
  rw [hl] at h; omega
theorem lowD_is : ∀ (k : Nat) (v : Int), 0 ≤ v → (lowD k v).length = k ∧ (lowD k v).all isL = true ∧ wv (lowD k v) = v % 3 ^ k
  | 0, v, _ => by simp [lowD, wv]
  | k + 1, v, hv => by
    obtain ⟨h1, h2, h3⟩ := lowD_is k v hv
    have hd : 0 ≤ v / 3 ^ k % 3 ∧ v / 3 ^ k % 3 < 3 := ⟨Int.emod_nonneg _ (by decide), Int.emod_lt_of_pos _ (by decide)⟩
    have hp : (0 : Int) < 3 ^ k := Int.pow_pos (by decide)
    generalize hdd : v / 3 ^ k % 3 = d at hd
    have hl : isL (UInt8.ofNat (97 + d.toNat)) = true ∧ ltr (UInt8.ofNat (97 + d.toNat)) = d := by
      obtain rfl | rfl | rfl : d = 0 ∨ d = 1 ∨ d = 2 := by omega
      all_goals decide
    refine ⟨by simp [lowD, ltxt, h1], by rw [lowD, hdd, ltxt, List.singleton_append, List.all_cons, hl.1, h2]; rfl, ?_⟩
    rw [lowD, hdd, ltxt, List.singleton_append, wv_cons, hl.2, h3, h1, ← hdd, Int.pow_succ]
    have e1 : v % (3 ^ k * 3) = v % 3 ^ k + 3 ^ k * (v / 3 ^ k % 3) := by
      rw [Int.emod_def v (3 ^ k * 3), Int.emod_def v (3 ^ k), Int.emod_def (v / 3 ^ k) 3, ← Int.ediv_ediv_of_nonneg (by omega), Int.mul_sub, Int.mul_assoc]
      omega
    rw [e1, Int.mul_comm (3 ^ k)]
    omega
theorem wordAt_is {m : Int} (h0 : 0 ≤ m) (h9 : m < shorterN 9) : (wordAt m).all isL = true ∧ num (wordAt m) = m := by
  obtain ⟨k, hk, h1, h2⟩ : ∃ k, k < 9 ∧ m < shorterN (k + 1) ∧ shorterN k ≤ m := by
    have : ∀ j : Nat, m < shorterN j → ∃ k, k < j ∧ m < shorterN (k + 1) ∧ shorterN k ≤ m := by
      intro j
      induction j with
      | zero => intro h; simp [shorterN] at h; omega
      | succ j ih =>
        intro h
        rcases Int.lt_or_le m (shorterN j) with h' | h'
        · obtain ⟨k, a, b, c⟩ := ih h'
          exact ⟨k, by omega, b, c⟩
        · exact ⟨j, by omega, h, h'⟩
    exact this 9 h9
  have hw := wlen_is hk h1 h2
  unfold wordAt
  rw [hw]
  obtain ⟨g1, g2, g3⟩ := lowD_is k (m - shorterN k) (by omega)
  refine ⟨g2, ?_⟩
  unfold num
  rw [shorterN] at h1
  rw [g1, g3, Int.emod_eq_of_lt (by omega) (by omega)]
  omega
theorem wordAt_num {w : List UInt8} (h : w.all isL = true) (hl : w.length ≤ 8) : wordAt (num w) = w := by
  have h9 := (num_lt h (n := 9)).2 (by omega)
  have h1 := wv_bd h
  have h2 : 0 ≤ shorterN w.length := (shorterN_bd (n := w.length) (by omega)).1
  have h0 : 0 ≤ num w := by unfold num; omega
  obtain ⟨g1, g2⟩ := wordAt_is h0 h9
  exact num_inj g1 h g2
theorem wordOk_of {w : List UInt8} : wordOk w = true ↔ w.all isL = true ∧ w.length ≤ 8 := by
  simp only [wordOk, lettersOk, Bool.and_eq_true, decide_eq_true_eq]
  constructor
  · rintro ⟨h1, h2⟩; exact ⟨h1, by omega⟩
  · rintro ⟨h1, h2⟩; exact ⟨h1, by omega⟩
theorem rank_num {w : List UInt8} (h : wordOk w = true) : rank w = num w := by unfold rank num; rw [h]; rfl

/-! ### The least cost, and the first word that has it -/

/-- What a word costs. -/
def cw (N : Nat) (rs : List Rd) (w : List UInt8) : Int := (costsC N rs w).getD (N - 1) 0
def Chp (N : Nat) (rs : List Rd) (S : List UInt8 → Prop) (b : List UInt8) (c : Int) : Prop :=
  (c = -1 ∧ b = [] ∧ ∀ w, S w → cw N rs w < 0) ∨ (S b ∧ 0 ≤ c ∧ cw N rs b = c ∧ ∀ w, S w → 0 ≤ cw N rs w → c < cw N rs w ∨ (c = cw N rs w ∧ num b ≤ num w))
theorem Chp.uniq {N : Nat} {rs : List Rd} {S T : List UInt8 → Prop} {b b' : List UInt8} {c c' : Int} (hST : ∀ w, S w ↔ T w) (hS : ∀ w, S w → w.all isL = true) (h : Chp N rs S b c) (h' : Chp N rs T b' c') : b = b' ∧ c = c' := by
  rcases h with ⟨rfl, rfl, h⟩ | ⟨h1, h2, h3, h4⟩ <;> rcases h' with ⟨rfl, rfl, h'⟩ | ⟨g1, g2, g3, g4⟩
  · exact ⟨rfl, rfl⟩
  · have := h _ ((hST _).2 g1); omega
  · have := h' _ ((hST _).1 h1); omega
  · have e1 := h4 _ ((hST _).2 g1) (by omega)
    have e2 := g4 _ ((hST _).1 h1) (by omega)
    exact ⟨num_inj (hS _ h1) (hS _ ((hST _).2 g1)) (by omega), by omega⟩
theorem Chp.congr {N : Nat} {rs : List Rd} {S T : List UInt8 → Prop} {b : List UInt8} {c : Int} (hST : ∀ w, S w ↔ T w) (h : Chp N rs S b c) : Chp N rs T b c := by
  have : S = T := funext fun w => propext (hST w)
  rw [← this]; exact h
theorem Chp.add {N : Nat} {rs : List Rd} {S T : List UInt8 → Prop} {b b' : List UInt8} {c c' : Int} (h : Chp N rs S b c) (h' : Chp N rs T b' c') (ho : ∀ s t, S s → T t → num s < num t) :
    Chp N rs (fun w => S w ∨ T w) (if 0 ≤ c' ∧ (c < 0 ∨ c' < c) then b' else b) (if 0 ≤ c' ∧ (c < 0 ∨ c' < c) then c' else c) := by
  rcases h with ⟨rfl, rfl, h⟩ | ⟨h1, h2, h3, h4⟩ <;> rcases h' with ⟨rfl, rfl, h'⟩ | ⟨g1, g2, g3, g4⟩
  · simp only [show ¬ ((0 : Int) ≤ -1 ∧ ((-1 : Int) < 0 ∨ (-1 : Int) < -1)) by omega, if_false]
    exact .inl ⟨rfl, rfl, fun w hw => hw.elim (h w) (h' w)⟩
  · have hc : (0 ≤ c' ∧ ((-1 : Int) < 0 ∨ c' < -1)) := by omega
    rw [if_pos hc, if_pos hc]
    refine .inr ⟨.inr g1, g2, g3, fun w hw h0 => ?_⟩
    rcases hw with hw | hw
    · have := h w hw; omega
    · exact g4 w hw h0
  · simp only [show ¬ ((0 : Int) ≤ -1 ∧ (c < 0 ∨ (-1 : Int) < c)) by omega, if_false]
    refine .inr ⟨.inl h1, h2, h3, fun w hw h0 => ?_⟩
    rcases hw with hw | hw
    · exact h4 w hw h0
    · have := h' w hw; omega
  · by_cases hc : c' < c
    · have hc' : (0 ≤ c' ∧ (c < 0 ∨ c' < c)) := by omega
      rw [if_pos hc', if_pos hc']
      refine .inr ⟨.inr g1, g2, g3, fun w hw h0 => ?_⟩
      rcases hw with hw | hw
      · have := h4 w hw h0; omega
      · exact g4 w hw h0
    · simp only [show ¬ (0 ≤ c' ∧ (c < 0 ∨ c' < c)) by omega, if_false]
      refine .inr ⟨.inl h1, h2, h3, fun w hw h0 => ?_⟩
      rcases hw with hw | hw
      · exact h4 w hw h0
      · have h5 := g4 w hw h0
        have h6 := ho _ _ h1 hw
        omega

/-! ### Costs, one letter further -/

theorem nextC_fold (a : List Int) (l : Int) (N : Nat) : ∀ (rs : List Rd) (x : List Int), x.length = N → (∀ m ∈ rs, m.t.toNat < N ∧ 0 ≤ m.c) →
    (∀ q, 0 ≤ x.getD q 0 → 0 ≤ (rs.foldl (stepC a l) x).getD q 0 ∧ (rs.foldl (stepC a l) x).getD q 0 ≤ x.getD q 0) ∧
    (∀ m ∈ rs, m.l = l → 0 ≤ a.getD m.f.toNat 0 → 0 ≤ (rs.foldl (stepC a l) x).getD m.t.toNat 0 ∧ (rs.foldl (stepC a l) x).getD m.t.toNat 0 ≤ a.getD m.f.toNat 0 + m.c) ∧
    (∀ q, 0 ≤ (rs.foldl (stepC a l) x).getD q 0 → (rs.foldl (stepC a l) x).getD q 0 = x.getD q 0 ∨ ∃ m ∈ rs, m.l = l ∧ m.t.toNat = q ∧ 0 ≤ a.getD m.f.toNat 0 ∧ (rs.foldl (stepC a l) x).getD q 0 = a.getD m.f.toNat 0 + m.c)
  | [], x, _, _ => ⟨fun q h => ⟨h, Int.le_refl _⟩, by simp, fun q _ => .inl rfl⟩
  | m :: rs, x, hx, hm => by
    obtain ⟨i1, i2, i3⟩ := nextC_fold a l N rs (stepC a l x m) (by rw [stepC_len, hx]) (fun m' h' => hm m' (by simp [h']))
    have hm0 := hm m (by simp)
    have hs1 : ∀ q, 0 ≤ x.getD q 0 → 0 ≤ (stepC a l x m).getD q 0 ∧ (stepC a l x m).getD q 0 ≤ x.getD q 0 := by
      intro q hq
      unfold stepC
      split
      · rename_i hc
        rw [getD_setA _ _ _ _ _ (by omega)]
        split
        · rename_i e; subst e; omega
        · omega
      · omega
    have hs2 : m.l = l → 0 ≤ a.getD m.f.toNat 0 → 0 ≤ (stepC a l x m).getD m.t.toNat 0 ∧ (stepC a l x m).getD m.t.toNat 0 ≤ a.getD m.f.toNat 0 + m.c := by
      intro h1 h2
      unfold stepC
      split
      · rw [getD_setA _ _ _ _ _ (by omega), if_pos rfl]; omega
      · rename_i hc
        have : ¬ (x.getD m.t.toNat 0 < 0 ∨ a.getD m.f.toNat 0 + m.c < x.getD m.t.toNat 0) := fun h => hc ⟨h1, h2, h⟩
        omega
    have hs3 : ∀ q, 0 ≤ (stepC a l x m).getD q 0 → (stepC a l x m).getD q 0 = x.getD q 0 ∨ (m.l = l ∧ m.t.toNat = q ∧ 0 ≤ a.getD m.f.toNat 0 ∧ (stepC a l x m).getD q 0 = a.getD m.f.toNat 0 + m.c) := by
      intro q
      unfold stepC
      split
      · rename_i hc
        rw [getD_setA _ _ _ _ _ (by omega)]
        split
        · rename_i e; intro _; exact .inr ⟨hc.1, e, hc.2.1, rfl⟩
        · intro _; exact .inl rfl
      · intro _; exact .inl rfl
    simp only [List.foldl_cons]
    refine ⟨fun q hq => ?_, fun m' hm' h1 h2 => ?_, fun q hq => ?_⟩
    · have e1 := hs1 q hq
      have e2 := i1 q e1.1
      omega
    · rcases List.mem_cons.1 hm' with rfl | hm'
      · have e1 := hs2 h1 h2
        have e2 := i1 _ e1.1
        omega
      · exact i2 m' hm' h1 h2
    · rcases i3 q hq with h | ⟨m', h1, h2⟩
      · rw [h] at hq ⊢
        rcases hs3 q hq with h' | h'
        · exact .inl h'
        · exact .inr ⟨m, by simp, h'⟩
      · exact .inr ⟨m', by simp [h1], h2⟩

/-! ### The reference's table -/

structure WC where
  w : List (List UInt8)
  c : List Int
/-- The letter behind. -/
def beh (ws : List (List UInt8)) (m : Rd) : List UInt8 := ws.getD m.f.toNat [] ++ ltxt m.l
def stepD (ws : List (List UInt8)) (cs : List Int) (x : WC) (m : Rd) : WC :=
  if 0 ≤ cs.getD m.f.toNat 0 ∧ (x.c.getD m.t.toNat 0 < 0 ∨ cs.getD m.f.toNat 0 + m.c < x.c.getD m.t.toNat 0 ∨ (cs.getD m.f.toNat 0 + m.c = x.c.getD m.t.toNat 0 ∧ Op.bytesLess (beh ws m) (x.w.getD m.t.toNat []) = true)) then
    ⟨x.w.set m.t.toNat (beh ws m), x.c.set m.t.toNat (cs.getD m.f.toNat 0 + m.c)⟩ else x
def initD (N : Nat) : WC := ⟨List.replicate N [], List.replicate N (-1)⟩
def nextD (N : Nat) (rs : List Rd) (ws : List (List UInt8)) (cs : List Int) : WC := rs.foldl (stepD ws cs) (initD N)

def wd (n : Nat) (w : List UInt8) : Prop := w.all isL = true ∧ w.length = n
structure DP (N : Nat) (rs : List Rd) (n : Nat) (x : WC) : Prop where
  wl : x.w.length = N
  cl : x.c.length = N
  is : ∀ q, q < N → 0 ≤ x.c.getD q 0 → wd n (x.w.getD q []) ∧ (costsC N rs (x.w.getD q [])).getD q 0 = x.c.getD q 0
  le : ∀ q, q < N → ∀ w, wd n w → 0 ≤ (costsC N rs w).getD q 0 → 0 ≤ x.c.getD q 0 ∧ (x.c.getD q 0 < (costsC N rs w).getD q 0 ∨ (x.c.getD q 0 = (costsC N rs w).getD q 0 ∧ wv (x.w.getD q []) ≤ wv w))
structure PD (N : Nat) (rs : List Rd) (n : Nat) (ws : List (List UInt8)) (cs : List Int) (x : WC) : Prop where
  wl : x.w.length = N
  cl : x.c.length = N
  is : ∀ q, q < N → 0 ≤ x.c.getD q 0 → ∃ m ∈ rs, m.t.toNat = q ∧ 0 ≤ cs.getD m.f.toNat 0 ∧ x.c.getD q 0 = cs.getD m.f.toNat 0 + m.c ∧ x.w.getD q [] = beh ws m
  le : ∀ m ∈ rs, 0 ≤ cs.getD m.f.toNat 0 → 0 ≤ x.c.getD m.t.toNat 0 ∧ (x.c.getD m.t.toNat 0 < cs.getD m.f.toNat 0 + m.c ∨ (x.c.getD m.t.toNat 0 = cs.getD m.f.toNat 0 + m.c ∧ wv (x.w.getD m.t.toNat []) ≤ wv (beh ws m)))
/-- Roads between the states. -/
def rdOk (N : Nat) (m : Rd) : Prop := m.f.toNat < N ∧ m.t.toNat < N ∧ 0 ≤ m.l ∧ m.l ≤ 2 ∧ 0 ≤ m.c
theorem ltxt_is {l : Int} (h : 0 ≤ l ∧ l ≤ 2) : ∃ b, ltxt l = [b] ∧ isL b = true ∧ ltr b = l := by
  obtain ⟨h1, h2⟩ := h
  refine ⟨_, rfl, ?_⟩
  obtain rfl | rfl | rfl : l = 0 ∨ l = 1 ∨ l = 2 := by omega
  all_goals decide
theorem beh_is {N : Nat} {rs : List Rd} {n : Nat} {x : WC} (h : DP N rs n x) {m : Rd} (hm : rdOk N m) (h0 : 0 ≤ x.c.getD m.f.toNat 0) : wd (n + 1) (beh x.w m) ∧ wv (beh x.w m) = 3 * wv (x.w.getD m.f.toNat []) + m.l := by
  obtain ⟨h1, h2, h3, h4, h5⟩ := hm
  obtain ⟨⟨g1, g2⟩, g3⟩ := h.is _ h1 h0
  obtain ⟨b, e1, e2, e3⟩ := ltxt_is ⟨h3, h4⟩
  unfold beh
  rw [e1]
  refine ⟨⟨by rw [List.all_append, g1]; simp [e2], by rw [List.length_append, g2]; rfl⟩, ?_⟩
  rw [wv_snoc, e3]
theorem PD.step {N : Nat} {rs : List Rd} {n : Nat} {y x : WC} {done : List Rd} (h : DP N rs n y) (hp : PD N done n y.w y.c x) (hd : ∀ m ∈ done, rdOk N m) {m : Rd} (hm : rdOk N m) : PD N (done ++ [m]) n y.w y.c (stepD y.w y.c x m) := by
  have hbl : ∀ {m m' : Rd}, rdOk N m → rdOk N m' → 0 ≤ y.c.getD m.f.toNat 0 → 0 ≤ y.c.getD m'.f.toNat 0 → Op.bytesLess (beh y.w m) (beh y.w m') = decide (wv (beh y.w m) < wv (beh y.w m')) := by
    intro m m' h1 h2 h3 h4
    have e1 := (beh_is h h1 h3).1
    have e2 := (beh_is h h2 h4).1
    exact bytesLess_wv e1.1 e2.1 (by rw [e1.2, e2.2])
  obtain ⟨m1, m2, m3, m4, m5⟩ := hm
  have hm' : rdOk N m := ⟨m1, m2, m3, m4, m5⟩
  have hw := hp.wl
  have hc := hp.cl
  unfold stepD
  split
  · rename_i hif
    obtain ⟨h0, hif⟩ := hif
    refine ⟨by simp [hw], by simp [hc], fun q hq h1 => ?_, fun m' hm1 h1 => ?_⟩
    · simp only at h1 ⊢
      rw [getD_setA _ _ _ _ _ (by omega)] at h1 ⊢
      rw [getD_setA _ _ _ _ _ (by omega)]
      by_cases e : m.t.toNat = q
      · simp only [e, if_true]
        exact ⟨m, by simp, e, h0, rfl, rfl⟩
      · simp only [e, if_false] at h1 ⊢
        obtain ⟨m', a1, a2⟩ := hp.is q hq h1
        exact ⟨m', by simp [a1], a2⟩
    · simp only
      rw [getD_setA _ _ _ _ _ (by omega), getD_setA _ _ _ _ _ (by omega)]
      by_cases e : m.t.toNat = m'.t.toNat
      · simp only [e, if_true]
        rcases List.mem_append.1 hm1 with hm1 | hm1
        · obtain ⟨a1, a2⟩ := hp.le m' hm1 h1
          have hx := hp.is m'.t.toNat (by omega) a1
          obtain ⟨m'', b1, b2, b3, b4, b5⟩ := hx
          rw [e] at hif
          rw [b5, hbl hm' (hd _ b1) h0 b3] at hif
          rw [b5] at a2
          simp only [decide_eq_true_eq] at hif
          omega
        · simp only [List.mem_singleton] at hm1
          subst hm1
          exact ⟨by omega, .inr ⟨rfl, Int.le_refl _⟩⟩
      · simp only [e, if_false]
        rcases List.mem_append.1 hm1 with hm1 | hm1
        · exact hp.le m' hm1 h1
        · simp only [List.mem_singleton] at hm1
          subst hm1
          exact absurd rfl e
  · rename_i hif
    refine ⟨hw, hc, fun q hq h1 => ?_, fun m' hm1 h1 => ?_⟩
    · obtain ⟨m', a1, a2⟩ := hp.is q hq h1
      exact ⟨m', by simp [a1], a2⟩
    · rcases List.mem_append.1 hm1 with hm1 | hm1
      · exact hp.le m' hm1 h1
      · simp only [List.mem_singleton] at hm1
        subst hm1
        have hif' : ¬ (x.c.getD m'.t.toNat 0 < 0 ∨ y.c.getD m'.f.toNat 0 + m'.c < x.c.getD m'.t.toNat 0 ∨ (y.c.getD m'.f.toNat 0 + m'.c = x.c.getD m'.t.toNat 0 ∧ Op.bytesLess (beh y.w m') (x.w.getD m'.t.toNat []) = true)) := fun h' => hif ⟨h1, h'⟩
        have h0 : 0 ≤ x.c.getD m'.t.toNat 0 := by omega
        refine ⟨h0, ?_⟩
        obtain ⟨m'', b1, b2, b3, b4, b5⟩ := hp.is m'.t.toNat m2 h0
        rw [b5, hbl hm' (hd _ b1) h1 b3] at hif'
        rw [b5]
        simp only [decide_eq_true_eq] at hif'
        omega
theorem PD.all {N : Nat} {rs : List Rd} {n : Nat} {y : WC} (h : DP N rs n y) (ms : List Rd) (hd : ∀ m ∈ ms, rdOk N m) : PD N ms n y.w y.c (ms.foldl (stepD y.w y.c) (initD N)) := by
  induction ms using snocInd with
  | nil =>
    refine ⟨by simp [initD], by simp [initD], fun q hq h1 => ?_, by simp⟩
    have e : (initD N).c.getD q 0 = -1 := by
      simp only [initD, List.getD_eq_getElem?_getD, List.getElem?_replicate, hq, if_true]; rfl
    simp only [List.foldl_nil] at h1
    omega
  | snoc ms m ih =>
    rw [List.foldl_append]
    exact PD.step h (ih fun m' h' => hd m' (by simp [h'])) (fun m' h' => hd m' (by simp [h'])) (hd m (by simp))
theorem costs_snocL (N : Nat) (rs : List Rd) (w : List UInt8) (b : UInt8) : costsC N rs (w ++ [b]) = nextC N rs (costsC N rs w) (ltr b) := by
  unfold costsC; rw [List.foldl_append]; rfl
theorem DP.init (N : Nat) (rs : List Rd) : DP N rs 0 ⟨List.replicate N [], initC N⟩ := by
  have h0 : ∀ q, (List.replicate N ([] : List UInt8)).getD q [] = [] := fun q => getD_rep N [] q
  refine ⟨by simp, by simp [initC], fun q hq h1 => ?_, fun q hq w hw h1 => ?_⟩
  · simp only [h0]
    exact ⟨⟨rfl, rfl⟩, rfl⟩
  · have : w = [] := List.length_eq_zero_iff.1 hw.2
    subst this
    simp only [h0]
    exact ⟨h1, .inr ⟨rfl, Int.le_refl _⟩⟩
theorem DP.next {N : Nat} {rs : List Rd} {n : Nat} {y : WC} (h : DP N rs n y) (hd : ∀ m ∈ rs, rdOk N m) : DP N rs (n + 1) (nextD N rs y.w y.c) := by
  have hp := PD.all h rs hd
  have hf : ∀ w l, _ := fun (w : List UInt8) (l : Int) => nextC_fold (costsC N rs w) l N rs (List.replicate N (-1)) (by simp) (fun m hm => ⟨(hd m hm).2.1, (hd m hm).2.2.2.2⟩)
  refine ⟨hp.wl, hp.cl, fun q hq h1 => ?_, fun q hq w hw h1 => ?_⟩
  · unfold nextD at h1 ⊢
    obtain ⟨m, a1, a2, a3, a4, a5⟩ := hp.is q hq h1
    have hm := hd m a1
    obtain ⟨b1, b2⟩ := beh_is h hm a3
    rw [a5]
    refine ⟨b1, ?_⟩
    obtain ⟨g1, g2⟩ := h.is _ hm.1 a3
    obtain ⟨b, e1, e2, e3⟩ := ltxt_is ⟨hm.2.2.1, hm.2.2.2.1⟩
    obtain ⟨f1, f2, f3⟩ := hf (y.w.getD m.f.toNat []) m.l
    have u1 := f2 m a1 rfl (by omega)
    rw [a2] at u1
    have e : costsC N rs (beh y.w m) = nextC N rs (costsC N rs (y.w.getD m.f.toNat [])) m.l := by
      unfold beh; rw [e1, costs_snocL, e3]
    rw [e]
    rcases f3 q u1.1 with h' | ⟨m', c1, c2, c3, c4, c5⟩
    · simp only [List.getD_eq_getElem?_getD, List.getElem?_replicate, hq, if_true] at h' u1
      simp at h'; omega
    · have hm' := hd m' c1
      have d1 := h.le _ hm'.1 _ g1 c4
      have d2 := hp.le m' c1 d1.1
      rw [c3] at d2
      unfold nextC
      omega
  · obtain ⟨v, b, rfl⟩ : ∃ v b, w = v ++ [b] := by
      rcases List.eq_nil_or_concat w with h' | ⟨v, b, h'⟩
      · subst h'; have := hw.2; simp at this
      · exact ⟨v, b, by simpa using h'⟩
    obtain ⟨hw1, hw2⟩ := hw
    simp only [List.all_append, List.all_cons, List.all_nil, Bool.and_true, Bool.and_eq_true] at hw1
    simp only [List.length_append, List.length_singleton, Nat.add_right_cancel_iff] at hw2
    have hb := ltr_of hw1.2
    obtain ⟨f1, f2, f3⟩ := hf v (ltr b)
    rw [costs_snocL] at h1 ⊢
    unfold nextC at h1 ⊢
    rcases f3 q h1 with h' | ⟨m', c1, c2, c3, c4, c5⟩
    · rw [h'] at h1
      simp only [List.getD_eq_getElem?_getD, List.getElem?_replicate, hq, if_true] at h1
      simp at h1
    · have hm' := hd m' c1
      obtain ⟨d1, d2⟩ := h.le _ hm'.1 v ⟨hw1.1, hw2⟩ c4
      obtain ⟨d3, d4⟩ := hp.le m' c1 d1
      have d5 := (beh_is h hm' d1).2
      rw [c3] at d3 d4
      rw [wv_snoc]
      unfold nextD
      omega
theorem DP.chp {N : Nat} {rs : List Rd} {n : Nat} {y : WC} (h : DP N rs n y) (hN : 1 ≤ N) (hb : -1 ≤ y.c.getD (N - 1) 0) : Chp N rs (wd n) (if 0 ≤ y.c.getD (N - 1) 0 then y.w.getD (N - 1) [] else []) (y.c.getD (N - 1) 0) := by
  by_cases h0 : 0 ≤ y.c.getD (N - 1) 0
  · rw [if_pos h0]
    obtain ⟨h1, h2⟩ := h.is _ (by omega) h0
    refine .inr ⟨h1, h0, h2, fun w hw h3 => ?_⟩
    have := (h.le _ (by omega) w hw h3).2
    unfold num
    rw [h1.2, hw.2]
    unfold cw
    omega
  · rw [if_neg h0]
    refine .inl ⟨by omega, rfl, fun w hw => ?_⟩
    rcases Int.lt_or_le (cw N rs w) 0 with h' | h'
    · exact h'
    · have := (h.le _ (by omega) w hw h').1
      omega
end Go.Fw
