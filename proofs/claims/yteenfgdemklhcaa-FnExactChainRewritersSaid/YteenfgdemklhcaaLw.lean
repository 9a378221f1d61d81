/- Sets of states of automata with choices, in plain Lean: rows of marks, closed under moves without a letter. -/
import Derived.Test.YteenfgdemklhcaaLq
set_option linter.unusedSimpArgs false
set_option linter.unusedVariables false
namespace Go.Fw
open Go Go.Proofs

/-- The bits are the marks. -/
structure BitsOf (p : Nat × Nat) (xs : List Bool) : Prop where
  lt1 : p.1 < 18446744073709551616
  lt2 : p.2 < 18446744073709551616
  len : xs.length ≤ 128
  bit : ∀ k, k < 128 → stHas p.1 p.2 k = xs.getD k false

theorem getD_set_true (xs : List Bool) (s k : Nat) (hs : s < xs.length) : (xs.set s true).getD k false = (decide (k = s) || xs.getD k false) := by
  simp only [List.getD_eq_getElem?_getD, List.getElem?_set]
  by_cases h : s = k
  · subst h; simp [hs]
  · simp [h, Ne.symm h]

theorem stHas_with {p : Nat × Nat} {s k : Nat} (hs : s < 128) (hk : k < 128) : stHas (stWith p s).1 (stWith p s).2 k = (decide (k = s) || stHas p.1 p.2 k) := by
  unfold stHas stWith
  rcases Nat.lt_or_ge s 64 with h1 | h1 <;> rcases Nat.lt_or_ge k 64 with h2 | h2
  · simp [h1, h2, Nat.testBit_or, Nat.testBit_two_pow]
    rw [Bool.or_comm]; congr 1; simp [eq_comm]
  · simp [h1, Nat.not_lt.2 h2]; omega
  · simp [Nat.not_lt.2 h1, h2]; omega
  · simp [Nat.not_lt.2 h1, Nat.not_lt.2 h2, Nat.testBit_or, Nat.testBit_two_pow]
    rw [Bool.or_comm]; congr 1; simp; omega

theorem BitsOf.with {p : Nat × Nat} {xs : List Bool} (h : BitsOf p xs) {s : Nat} (hs : s < xs.length) : BitsOf (stWith p s) (xs.set s true) := by
  have hl := h.len
  have hlt := stWith_lt (p := p) ⟨h.lt1, h.lt2⟩ (s := s) (by omega)
  refine ⟨hlt.1, hlt.2, by simpa using h.len, fun k hk => ?_⟩
  rw [stHas_with (by omega) hk, getD_set_true _ _ _ hs, h.bit k hk]
theorem BitsOf.nil (n : Nat) (hn : n ≤ 128) : BitsOf (0, 0) (List.replicate n false) := by
  refine ⟨by decide, by decide, by simpa using hn, fun k hk => ?_⟩
  have : (List.replicate n false).getD k false = false := by
    simp only [List.getD_eq_getElem?_getD, List.getElem?_replicate]; split <;> rfl
  rw [this]; simp [stHas]
theorem BitsOf.inj {p q : Nat × Nat} {xs : List Bool} (h : BitsOf p xs) (h' : BitsOf q xs) : p = q := by
  have hb : ∀ k, k < 128 → stHas p.1 p.2 k = stHas q.1 q.2 k := fun k hk => (h.bit k hk).trans (h'.bit k hk).symm
  have big : ∀ (m k : Nat), m < 18446744073709551616 → 64 ≤ k → m.testBit k = false := fun m k hm hk =>
    Nat.testBit_lt_two_pow (Nat.lt_of_lt_of_le hm (by rw [show (18446744073709551616 : Nat) = 2 ^ 64 by decide]; exact Nat.pow_le_pow_right (by decide) hk))
  refine Prod.ext (Nat.eq_of_testBit_eq fun k => ?_) (Nat.eq_of_testBit_eq fun k => ?_)
  · rcases Nat.lt_or_ge k 64 with hk | hk
    · have := hb k (by omega); simpa [stHas, hk] using this
    · rw [big _ _ h.lt1 hk, big _ _ h'.lt1 hk]
  · rcases Nat.lt_or_ge k 64 with hk | hk
    · have := hb (k + 64) (by omega); simpa [stHas, show ¬ (k + 64 < 64) by omega] using this
    · rw [big _ _ h.lt2 hk, big _ _ h'.lt2 hk]
theorem BitsOf.eq {p : Nat × Nat} {xs ys : List Bool} (h : BitsOf p xs) (h' : BitsOf p ys) (hl : xs.length = ys.length) : xs = ys := by
  refine List.ext_getElem hl fun k hk hk' => ?_
  have h1 := h.len
  have := (h.bit k (by omega)).symm.trans (h'.bit k (by omega))
  simpa [hk, hk'] using this

/-! ### Marks -/

def inst (n : Int) (x : Int) : Prop := 0 ≤ x ∧ x < n
/-- All moves are between states. -/
def msOk (n : Int) (ms : List Mv) : Prop := ∀ m ∈ ms, inst n m.f ∧ inst n m.t

def stepE (xs : List Bool) (m : Mv) : List Bool := if m.l = -1 ∧ xs.getD m.f.toNat false = true ∧ xs.getD m.t.toNat false = false then xs.set m.t.toNat true else xs
def passE (ms : List Mv) (xs : List Bool) : List Bool := ms.foldl stepE xs
def falses (xs : List Bool) : Nat := xs.countP fun b => !b

theorem stepE_len (xs : List Bool) (m : Mv) : (stepE xs m).length = xs.length := by unfold stepE; split <;> simp
theorem passE_len (ms : List Mv) : ∀ xs : List Bool, (passE ms xs).length = xs.length := by
  induction ms with
  | nil => intro xs; rfl
  | cons m ms ih => intro xs; rw [passE, List.foldl_cons]; exact (ih (stepE xs m)).trans (stepE_len xs m)
theorem falses_set : ∀ {xs : List Bool} {s : Nat}, s < xs.length → xs.getD s false = false → falses (xs.set s true) + 1 = falses xs
  | [], s, h, _ => by simp at h
  | x :: r, 0, h, h2 => by simp at h2; subst h2; simp [falses]
  | x :: r, s + 1, h, h2 => by
    have := falses_set (xs := r) (s := s) (by simpa using h) (by simpa using h2)
    simp only [falses, List.set_cons_succ, List.countP_cons] at this ⊢; omega
theorem stepE_falses (xs : List Bool) (m : Mv) : falses (stepE xs m) ≤ falses xs ∧ (stepE xs m ≠ xs → falses (stepE xs m) < falses xs) := by
  unfold stepE
  split
  · rename_i h
    rcases Nat.lt_or_ge m.t.toNat xs.length with h2 | h2
    · have := falses_set h2 h.2.2
      exact ⟨by omega, fun _ => by omega⟩
    · rw [List.set_eq_of_length_le h2]; exact ⟨Nat.le_refl _, fun h => (h rfl).elim⟩
  · exact ⟨Nat.le_refl _, fun h => (h rfl).elim⟩
theorem passE_falses (ms : List Mv) : ∀ xs : List Bool, falses (passE ms xs) ≤ falses xs ∧ (passE ms xs ≠ xs → falses (passE ms xs) < falses xs) := by
  induction ms with
  | nil => intro xs; exact ⟨Nat.le_refl _, fun h => (h rfl).elim⟩
  | cons m ms ih =>
    intro xs
    have h1 := stepE_falses xs m
    have h2 := ih (stepE xs m)
    have e : passE (m :: ms) xs = passE ms (stepE xs m) := rfl
    rw [e]
    refine ⟨by omega, fun hne => ?_⟩
    by_cases h3 : stepE xs m = xs
    · rw [h3] at h2 ⊢; rw [h3] at hne; exact h2.2 hne
    · have := h1.2 h3; omega
/-- Closed under moves without a letter. -/
def closeE (ms : List Mv) (xs : List Bool) : List Bool := if h : passE ms xs = xs then xs else closeE ms (passE ms xs)
termination_by falses xs
decreasing_by exact (passE_falses ms xs).2 h
theorem closeE_fix {ms : List Mv} {xs : List Bool} (h : passE ms xs = xs) : closeE ms xs = xs := by rw [closeE, dif_pos h]
theorem closeE_pass (ms : List Mv) (xs : List Bool) : closeE ms (passE ms xs) = closeE ms xs := by
  by_cases h : passE ms xs = xs
  · rw [h]
  · conv => rhs; rw [closeE, dif_neg h]
theorem closeE_len (ms : List Mv) (xs : List Bool) : (closeE ms xs).length = xs.length := by
  induction xs using closeE.induct ms with
  | case1 xs h => rw [closeE_fix h]
  | case2 xs h ih => rw [← closeE_pass, ih, passE_len]
theorem passE_snoc (ms : List Mv) (xs : List Bool) {i : Nat} (h : i < ms.length) : passE (ms.take (i + 1)) xs = stepE (passE (ms.take i) xs) ms[i] := by
  unfold passE; rw [foldl_take2 _ _ h]
theorem pass_take_falses (ms : List Mv) (xs : List Bool) (i : Nat) : falses (passE ms xs) ≤ falses (passE (ms.take i) xs) := by
  have : passE ms xs = passE (ms.drop i) (passE (ms.take i) xs) := by unfold passE; rw [← List.foldl_append, List.take_append_drop]
  rw [this]; exact (passE_falses _ _).1

/-- Behind a letter. -/
def stepF (in_ : List Bool) (c : Int) (o : List Bool) (m : Mv) : List Bool := if m.l = c ∧ in_.getD m.f.toNat false = true then o.set m.t.toNat true else o
def jumpE (n : Nat) (ms : List Mv) (in_ : List Bool) (c : Int) : List Bool := ms.foldl (stepF in_ c) (List.replicate n false)
def nextE (n : Nat) (ms : List Mv) (in_ : List Bool) (c : Int) : List Bool := closeE ms (jumpE n ms in_ c)
theorem jumpE_snoc (n : Nat) (ms : List Mv) (in_ : List Bool) (c : Int) {i : Nat} (h : i < ms.length) : jumpE n (ms.take (i + 1)) in_ c = stepF in_ c (jumpE n (ms.take i) in_ c) ms[i] := by
  unfold jumpE; rw [foldl_take2 _ _ h]
theorem jumpE_len (n : Nat) (ms : List Mv) (in_ : List Bool) (c : Int) : (jumpE n ms in_ c).length = n := by
  have : ∀ (ms : List Mv) (o : List Bool), (ms.foldl (stepF in_ c) o).length = o.length := by
    intro ms
    induction ms with
    | nil => intro o; rfl
    | cons m ms ih => intro o; rw [List.foldl_cons, ih]; unfold stepF; split <;> simp
  rw [jumpE, this]; simp
theorem nextE_len (n : Nat) (ms : List Mv) (in_ : List Bool) (c : Int) : (nextE n ms in_ c).length = n := by rw [nextE, closeE_len, jumpE_len]

def flagsE (n : Nat) (xs : List Int) : List Bool := xs.foldl (fun o s => o.set s.toNat true) (List.replicate n false)
theorem flagsE_len (n : Nat) (xs : List Int) : (flagsE n xs).length = n := by
  have : ∀ (xs : List Int) (o : List Bool), (xs.foldl (fun o s => o.set s.toNat true) o).length = o.length := by
    intro xs
    induction xs with
    | nil => intro o; rfl
    | cons m ms ih => intro o; rw [List.foldl_cons, ih]; simp
  rw [flagsE, this]; simp
theorem flagsE_snoc (n : Nat) (xs : List Int) {i : Nat} (h : i < xs.length) : flagsE n (xs.take (i + 1)) = (flagsE n (xs.take i)).set xs[i].toNat true := by
  unfold flagsE; rw [foldl_take2 _ _ h]
theorem bits_of_list {n : Nat} (hn : n ≤ 128) {xs : List Int} (h : ∀ x ∈ xs, 0 ≤ x ∧ x < n) : BitsOf (stOf xs) (flagsE n xs) := by
  induction xs using snocInd with
  | nil => exact .nil n hn
  | snoc s b ih =>
    have h1 := ih fun x hx => h x (by simp [hx])
    have hb := h b (by simp)
    unfold stOf flagsE at h1 ⊢
    rw [List.foldl_append, List.foldl_append]
    refine h1.with ?_
    have := flagsE_len n s
    unfold flagsE at this
    rw [this]; omega

def firstE (a : Na) : List Bool := closeE a.ms (flagsE a.n.toNat a.fs)
def runE (a : Na) (s : List UInt8) : List Bool := s.foldl (fun x b => nextE a.n.toNat a.ms x (ltr b)) (firstE a)
def listE (xs : List Bool) : List Int := ((List.range xs.length).filter fun k => xs.getD k false).map fun (k : Nat) => (k : Int)
theorem runE_snoc (a : Na) {s : List UInt8} {i : Nat} (h : i < s.length) : runE a (s.take (i + 1)) = nextE a.n.toNat a.ms (runE a (s.take i)) (ltr s[i]) := by
  unfold runE; rw [foldl_take2 _ _ h]
theorem runE_len (a : Na) (s : List UInt8) : (runE a s).length = a.n.toNat := by
  induction s using snocInd with
  | nil => simp [runE, firstE, closeE_len, flagsE_len]
  | snoc s b ih => unfold runE; rw [List.foldl_append]; exact nextE_len _ _ _ _
theorem listE_snoc (xs : List Bool) {i : Nat} (h : i < xs.length) : listE (xs.take (i + 1)) = listE (xs.take i) ++ (if xs[i] then [(i : Int)] else []) := by
  have hl : (xs.take (i + 1)).length = i + 1 := by simp; omega
  have hl2 : (xs.take i).length = i := by simp; omega
  unfold listE
  rw [hl, hl2, List.range_succ, List.filter_append, List.map_append]
  congr 1
  · congr 1
    refine List.filter_congr fun k hk => ?_
    have := List.mem_range.1 hk
    simp [List.getElem?_take, show k < i + 1 by omega, this]
  · have e : (xs.take (i + 1)).getD i false = xs[i] := by simp [List.getElem?_take, h]
    rw [List.filter_cons, e, List.filter_nil]
    cases xs[i] <;> rfl
theorem mem_listE {xs : List Bool} {x : Int} : x ∈ listE xs ↔ 0 ≤ x ∧ xs.getD x.toNat false = true := by
  unfold listE
  simp only [List.mem_map, List.mem_filter, List.mem_range]
  constructor
  · rintro ⟨k, ⟨hk, hb⟩, rfl⟩; exact ⟨by omega, by simpa using hb⟩
  · rintro ⟨h1, h2⟩
    refine ⟨x.toNat, ⟨?_, h2⟩, by omega⟩
    rcases Nat.lt_or_ge x.toNat xs.length with h | h
    · exact h
    · simp [List.getElem?_eq_none h] at h2

/-! ### Valid automata -/

theorem stOk_mem {n : Int} {xs : List Int} (hn : -9223372036854775807 ≤ n ∧ n ≤ 9223372036854775807) (h : stOk n xs = true) : ∀ x ∈ xs, 0 ≤ x ∧ x < n := by
  intro x hx
  obtain ⟨i, hi, rfl⟩ := List.mem_iff_getElem.1 hx
  rw [stOk, List.all_eq_true] at h
  have h2 := h i (List.mem_range.2 hi)
  simp only [stAt, Bool.and_eq_true] at h2
  have h3 := h2.1
  rw [show xs.getD i 0 = xs[i] by simp [hi], inR, wrap64 (by omega) (by omega)] at h3
  simp at h3; omega
theorem okNa_of {a : Na} (h : okNa a = true) : 0 ≤ a.n ∧ a.n ≤ 40 ∧ a.ms.length ≤ 400 ∧ (∀ x ∈ a.fs, 0 ≤ x ∧ x < a.n) ∧ (∀ x ∈ a.es, 0 ≤ x ∧ x < a.n) ∧ msOk a.n a.ms ∧ ∀ m ∈ a.ms, -1 ≤ m.l ∧ m.l ≤ 2 := by
  simp only [okNa, Bool.and_eq_true, decide_eq_true_eq, Bool.not_eq_true', List.any_eq_false] at h
  obtain ⟨⟨⟨⟨h1, h2⟩, h3⟩, h4⟩, h5⟩ := h
  simp only [inR, Bool.and_eq_true, decide_eq_true_eq] at h1
  have hw : IntKind.i64.wrap (a.n - 1) = a.n - 1 := wrap64 (by omega) (by omega)
  have hm : ∀ m ∈ a.ms, (inst a.n m.f ∧ inst a.n m.t) ∧ -1 ≤ m.l ∧ m.l ≤ 2 := fun m hm => by
    have := h5 m hm
    simp [Mv.bad, hw, inR] at this
    refine ⟨⟨⟨?_, ?_⟩, ?_, ?_⟩, ?_, ?_⟩ <;> omega
  exact ⟨h1.1, h1.2, by omega, stOk_mem (by omega) h3, stOk_mem (by omega) h4, fun m h => (hm m h).1, fun m h => (hm m h).2⟩
end Go.Fw
