/- Ways and costs: what the functions about roads compute. -/
import Derived.Test.YteenfgdemklhcaaLb
set_option linter.unusedSimpArgs false
set_option linter.unusedVariables false
namespace Go.Fw
open Go Go.Proofs

abbrev isD (xs : List Int) : D := .list (xs.map iD)

/-- One move, while the costs behind a letter are found. -/
def stepC (at_ : List Int) (l : Int) (next : List Int) (m : Rd) : List Int :=
  if m.l = l ∧ 0 ≤ at_.getD m.f.toNat 0 ∧ (next.getD m.t.toNat 0 < 0 ∨ at_.getD m.f.toNat 0 + m.c < next.getD m.t.toNat 0) then next.set m.t.toNat (at_.getD m.f.toNat 0 + m.c) else next
def nextC (n : Nat) (rs : List Rd) (at_ : List Int) (l : Int) : List Int := rs.foldl (stepC at_ l) (List.replicate n (-1))
def initC (n : Nat) : List Int := (List.replicate n (-1)).set 0 0
def costsC (n : Nat) (rs : List Rd) (s : List UInt8) : List Int := s.foldl (fun at_ b => nextC n rs at_ (ltr b)) (initC n)
def bestC (n : Int) (rs : List Rd) (s : List UInt8) : Int := if okRoads n rs && wordOk s then (costsC n.toNat rs s).getD (n.toNat - 1) 0 else -1

/-- One move, while the ways behind a letter are counted. -/
def stepW (at_ : List Int) (l : Int) (next : List Int) (m : Rd) : List Int :=
  if m.l = l then next.set m.t.toNat (next.getD m.t.toNat 0 + at_.getD m.f.toNat 0) else next
def nextW (n : Nat) (rs : List Rd) (at_ : List Int) (l : Int) : List Int := rs.foldl (stepW at_ l) (List.replicate n 0)
def initW (n : Nat) : List Int := (List.replicate n 0).set 0 1
def countsW (n : Nat) (rs : List Rd) (s : List UInt8) : List Int := s.foldl (fun at_ b => nextW n rs at_ (ltr b)) (initW n)
def wayC (n : Int) (rs : List Rd) (s : List UInt8) : Int := if okRoads n rs && wordOk s then (countsW n.toNat rs s).getD (n.toNat - 1) 0 else -1

/-- What is known of valid roads. -/
theorem okRoads_of {n : Int} {rs : List Rd} (h : okRoads n rs = true) : 1 ≤ n ∧ n ≤ 40 ∧ rs.length ≤ 60 ∧ ∀ r ∈ rs, (0 ≤ r.f ∧ r.f < n) ∧ (0 ≤ r.t ∧ r.t < n) ∧ (0 ≤ r.l ∧ r.l ≤ 2) ∧ (0 ≤ r.c ∧ r.c ≤ 99) := by
  simp only [okRoads, Bool.and_eq_true, decide_eq_true_eq, Bool.not_eq_true', inR] at h
  obtain ⟨⟨⟨h1, h2⟩, h3⟩, h4⟩ := h
  refine ⟨h1, h2, by omega, fun r hr => ?_⟩
  rw [List.any_eq_false] at h4
  have := h4 r hr
  rw [Rd.bad_eq, wrap64 (by omega) (by omega)] at this
  simp [inR] at this
  omega

theorem stepC_len (a : List Int) (l : Int) (x : List Int) (m : Rd) : (stepC a l x m).length = x.length := by unfold stepC; split <;> simp
theorem foldC_len (a : List Int) (l : Int) (rs : List Rd) : ∀ x : List Int, (rs.foldl (stepC a l) x).length = x.length := by
  induction rs with
  | nil => intro x; rfl
  | cons m r ih => intro x; rw [List.foldl_cons, ih, stepC_len]
theorem stepW_len (a : List Int) (l : Int) (x : List Int) (m : Rd) : (stepW a l x m).length = x.length := by unfold stepW; split <;> simp
theorem foldW_len (a : List Int) (l : Int) (rs : List Rd) : ∀ x : List Int, (rs.foldl (stepW a l) x).length = x.length := by
  induction rs with
  | nil => intro x; rfl
  | cons m r ih => intro x; rw [List.foldl_cons, ih, stepW_len]

/-- All within bounds. -/
def Bd (xs : List Int) (lo hi : Int) : Prop := ∀ x ∈ xs, lo ≤ x ∧ x ≤ hi
theorem Bd.getD {xs : List Int} {lo hi : Int} (h : Bd xs lo hi) {i : Nat} (hi' : i < xs.length) (d : Int) : lo ≤ xs.getD i d ∧ xs.getD i d ≤ hi := by
  rw [List.getD_eq_getElem?_getD, List.getElem?_eq_getElem hi']
  exact h _ (List.getElem_mem hi')
theorem Bd.set {xs : List Int} {lo hi : Int} (h : Bd xs lo hi) (i : Nat) {v : Int} (h1 : lo ≤ v) (h2 : v ≤ hi) : Bd (xs.set i v) lo hi := by
  intro x hx
  rcases List.mem_or_eq_of_mem_set hx with h' | rfl
  · exact h x h'
  · exact ⟨h1, h2⟩
theorem Bd.mono {xs : List Int} {lo hi lo' hi' : Int} (h : Bd xs lo hi) (h1 : lo' ≤ lo) (h2 : hi ≤ hi') : Bd xs lo' hi' := fun x hx => by have := h x hx; omega
theorem Bd.repl (n : Nat) {v lo hi : Int} (h1 : lo ≤ v) (h2 : v ≤ hi) : Bd (List.replicate n v) lo hi := fun x hx => by rw [List.eq_of_mem_replicate hx]; exact ⟨h1, h2⟩

theorem stepC_bd {a x : List Int} {l : Int} {m : Rd} {B : Int} (ha : Bd a (-1) B) (hx : Bd x (-1) (B + 99)) (hf : m.f.toNat < a.length) (hc : 0 ≤ m.c ∧ m.c ≤ 99) : Bd (stepC a l x m) (-1) (B + 99) := by
  unfold stepC; split
  · rename_i h
    have := ha.getD hf 0
    exact hx.set _ (by omega) (by omega)
  · exact hx
theorem foldC_bd {a : List Int} {l : Int} {B : Int} (ha : Bd a (-1) B) : ∀ (rs : List Rd), (∀ m ∈ rs, m.f.toNat < a.length ∧ 0 ≤ m.c ∧ m.c ≤ 99) → ∀ {x : List Int}, Bd x (-1) (B + 99) → Bd (rs.foldl (stepC a l) x) (-1) (B + 99)
  | [], _, _, hx => hx
  | m :: r, hr, x, hx => by
    rw [List.foldl_cons]
    exact foldC_bd ha r (fun q hq => hr q (by simp [hq])) (stepC_bd ha hx (hr m (by simp)).1 (hr m (by simp)).2)

/-- A list's fold, letter by letter. -/
theorem foldl_take {α β : Type} (f : β → α → β) (b : β) {s : List α} {i : Nat} (h : i < s.length) : (s.take (i + 1)).foldl f b = f ((s.take i).foldl f b) s[i] := by
  rw [take_snoc h, List.foldl_append]; rfl

theorem costs_len (n : Nat) (rs : List Rd) (s : List UInt8) : (costsC n rs s).length = n := by
  induction s using snocInd with
  | nil => simp [costsC, initC]
  | snoc s b _ =>
    rw [costsC, List.foldl_append]
    simp only [List.foldl_cons, List.foldl_nil, nextC, foldC_len, List.length_replicate]
theorem costs_bd {n : Nat} {rs : List Rd} (hn : 1 ≤ n) (hr : ∀ m ∈ rs, m.f.toNat < n ∧ 0 ≤ m.c ∧ m.c ≤ 99) (s : List UInt8) : Bd (costsC n rs s) (-1) (99 * s.length) := by
  induction s using snocInd with
  | nil => exact ((Bd.repl n (v := -1) (lo := -1) (hi := 0) (by omega) (by omega)).set 0 (by omega) (by omega)).mono (by omega) (by simp)
  | snoc s b ih =>
    rw [costsC, List.foldl_append]
    simp only [List.foldl_cons, List.foldl_nil]
    have := foldC_bd (l := ltr b) ih rs (fun m hm => ⟨by rw [costs_len]; exact (hr m hm).1, (hr m hm).2⟩) (Bd.repl n (v := -1) (by omega) (by omega))
    exact this.mono (by omega) (by simp; omega)

theorem stepW_bd {a x : List Int} {l : Int} {m : Rd} {B C : Int} (ha : Bd a 0 B) (hB : 0 ≤ B) (hx : Bd x 0 C) (hf : m.f.toNat < a.length) (ht : m.t.toNat < x.length) : Bd (stepW a l x m) 0 (C + B) := by
  unfold stepW; split
  · have h1 := ha.getD hf 0
    have h2 := hx.getD ht 0
    exact (hx.mono (Int.le_refl _) (by omega)).set _ (by omega) (by omega)
  · exact hx.mono (Int.le_refl _) (by omega)
theorem foldW_bd {a : List Int} {l : Int} {B : Int} (ha : Bd a 0 B) (hB : 0 ≤ B) : ∀ (rs : List Rd) {x : List Int} {C : Int}, (∀ m ∈ rs, m.f.toNat < a.length ∧ m.t.toNat < x.length) → Bd x 0 C → Bd (rs.foldl (stepW a l) x) 0 (C + B * rs.length)
  | [], x, C, _, hx => by simpa using hx
  | m :: r, x, C, hr, hx => by
    rw [List.foldl_cons]
    have := foldW_bd (l := l) ha hB r (x := stepW a l x m) (fun q hq => by rw [stepW_len]; exact hr q (by simp [hq])) (stepW_bd (l := l) ha hB hx (hr m (by simp)).1 (hr m (by simp)).2)
    refine this.mono (Int.le_refl _) ?_
    rw [List.length_cons]
    have : B * ((r.length + 1 : Nat) : Int) = B * r.length + B := by rw [Int.natCast_add, Int.mul_add]; simp
    omega
theorem counts_len (n : Nat) (rs : List Rd) (s : List UInt8) : (countsW n rs s).length = n := by
  induction s using snocInd with
  | nil => simp [countsW, initW]
  | snoc s b _ =>
    rw [countsW, List.foldl_append]
    simp only [List.foldl_cons, List.foldl_nil, nextW, foldW_len, List.length_replicate]
theorem counts_bd {n : Nat} {rs : List Rd} (hn : 1 ≤ n) (hr : ∀ m ∈ rs, m.f.toNat < n ∧ m.t.toNat < n) (hl : rs.length ≤ 60) (s : List UInt8) : Bd (countsW n rs s) 0 (60 ^ s.length) := by
  induction s using snocInd with
  | nil => exact (Bd.repl n (v := 0) (lo := 0) (hi := 60 ^ 0) (by omega) (by simp)).set 0 (by omega) (by simp)
  | snoc s b ih =>
    rw [countsW, List.foldl_append]
    simp only [List.foldl_cons, List.foldl_nil]
    have hp : (0 : Int) < 60 ^ s.length := Int.pow_pos (by decide)
    have := foldW_bd (l := ltr b) ih (by omega) rs (x := List.replicate n 0) (C := 0) (fun m hm => by rw [counts_len, List.length_replicate]; exact hr m hm) (Bd.repl n (by omega) (by omega))
    refine this.mono (Int.le_refl _) ?_
    rw [List.length_append, List.length_singleton, Int.pow_succ]
    have : (60 : Int) ^ s.length * rs.length ≤ 60 ^ s.length * 60 := Int.mul_le_mul_of_nonneg_left (by omega) (by omega)
    omega
theorem pow60_le {n : Nat} (h : n ≤ 8) : (0 : Int) < 60 ^ n ∧ (60 : Int) ^ n ≤ 167961600000000 := by
  refine ⟨Int.pow_pos (by decide), ?_⟩
  have h1 : 60 ^ n ≤ 60 ^ 8 := Nat.pow_le_pow_right (by decide) h
  have h2 : (60 : Int) ^ n = ((60 ^ n : Nat) : Int) := by simp
  have h3 : (60 ^ 8 : Nat) = 167961600000000 := by decide
  omega

theorem getD_some {xs : List Int} {i : Nat} (h : i < xs.length) : xs[i]? = some (xs.getD i 0) := by simp [h]
theorem getD_ex {xs : List Int} {i : Nat} (h : i < xs.length) : ∃ v, xs[i]? = some v ∧ (∀ h, xs[i]'h = v) ∧ xs.getD i 0 = v := ⟨xs[i], by simp [h], fun _ => rfl, by simp [h]⟩
theorem counts_snoc (n : Nat) (rs : List Rd) {s : List UInt8} {i : Nat} (h : i < s.length) : countsW n rs (s.take (i + 1)) = nextW n rs (countsW n rs (s.take i)) (ltr s[i]) := by
  rw [countsW, foldl_take _ _ h]; rfl
theorem costs_snoc (n : Nat) (rs : List Rd) {s : List UInt8} {i : Nat} (h : i < s.length) : costsC n rs (s.take (i + 1)) = nextC n rs (costsC n rs (s.take i)) (ltr s[i]) := by
  rw [costsC, foldl_take _ _ h]; rfl
theorem repl_map (n : Nat) (v : Int) : List.replicate n (D.int .i64 v) = (List.replicate n v).map iD := by simp
end Go.Fw
