/- Contracts of functions about words. -/
import Derived.Test.YteenfgdemklhcaaLa
import Derived.Test.YteenfgdemklhcaaFwb
set_option linter.unusedSimpArgs false
set_option linter.unusedVariables false
namespace Go.Fw
open Go Go.Proofs

abbrev sD (s : List UInt8) : D := .str s
abbrev sA (s : List UInt8) : AV := .d (.str s)

/-- Is the byte a letter? -/
def isL (b : UInt8) : Bool := inR (b.toNat : Int) 97 99
/-- So many letters at most, and letters alone. -/
def lettersOk (s : List UInt8) (most : Int) : Bool := s.all isL && decide ((s.length : Int) ≤ most)
def wordOk (s : List UInt8) : Bool := lettersOk s 8
def textOk (s : List UInt8) : Bool := lettersOk s 30

/-- The number of a letter. -/
def ltr (b : UInt8) : Int := IntKind.u8.wrap ((b.toNat : Int) - 97)

theorem wrap_byte (b : UInt8) : IntKind.i64.wrap (b.toNat : Int) = b.toNat := wrap64 (by omega) (by have := b.toNat_lt; omega)
theorem wrap_u8 (n : Int) : IntKind.u8.wrap n = n % 256 := by
  simp [IntKind.wrap, IntKind.signed, IntKind.bits]
theorem wrap_ltr (b : UInt8) : IntKind.i64.wrap (ltr b) = ltr b := by
  unfold ltr; rw [wrap_u8]; exact wrap64 (by omega) (by omega)
theorem ltr_of {b : UInt8} (h : isL b = true) : ltr b = (b.toNat : Int) - 97 ∧ 0 ≤ ltr b ∧ ltr b ≤ 2 := by
  unfold ltr; rw [wrap_u8]
  simp [isL, inR] at h
  omega
theorem isL_all {s : List UInt8} {most : Int} (h : lettersOk s most = true) {i : Nat} (hi : i < s.length) : isL s[i] = true := by
  simp only [lettersOk, Bool.and_eq_true, List.all_eq_true] at h
  exact h.1 _ (List.getElem_mem hi)
theorem letters_len {s : List UInt8} {most : Int} (h : lettersOk s most = true) : (s.length : Int) ≤ most := by
  simp [lettersOk] at h; exact h.2

theorem all_false {α : Type} {p : α → Bool} {xs : List α} {i : Nat} (hi : i < xs.length) (h : p xs[i] = false) : xs.all p = false := by
  rw [List.all_eq_false]
  exact ⟨xs[i], List.getElem_mem hi, by simp [h]⟩
theorem all_true {α : Type} {p : α → Bool} {xs : List α} {i : Nat} (hi : xs.length ≤ i) (h : ∀ j (h : j < xs.length), j < i → p xs[j] = true) : xs.all p = true := by
  rw [List.all_eq_true]
  intro x hx
  obtain ⟨j, hj, rfl⟩ := List.mem_iff_getElem.1 hx
  exact h j hj (by omega)
theorem upto_succ {i n : Nat} {q : ∀ j, j < n → Prop} (h : ∀ j (hj : j < n), j < i → q j hj) (hi : i < n) (hq : q i hi) : ∀ j (hj : j < n), j < i + 1 → q j hj := by
  intro j hj hji
  rcases Nat.lt_or_ge j i with h2 | h2
  · exact h j hj h2
  · have : j = i := by omega
    subst this; exact hq

theorem snocInd {α : Type} {p : List α → Prop} (nil : p []) (snoc : ∀ s b, p s → p (s ++ [b])) : ∀ s, p s := by
  intro s
  have : ∀ n (s : List α), s.length = n → p s := by
    intro n
    induction n with
    | zero => intro s hs; rw [List.eq_nil_of_length_eq_zero hs]; exact nil
    | succ n ih =>
      intro s hs
      have hne : s ≠ [] := by intro e; subst e; simp at hs
      rw [← List.dropLast_concat_getLast hne]
      exact snoc _ _ (ih _ (by simp [hs]))
  exact this _ s rfl

theorem c_areLetters (s : List UInt8) (most : Int) (hlen : s.length ≤ 9223372036854775807) : DCalls Try.prog 69 [sA s, iA most] fun y => y = .bool (lettersOk s most) := by
  refine dcalls_intro Ty.mixed Try.func69 rfl rfl rfl [] (by kernel_rfl) (by simp) ?_
  simp
  refine LoopVC.at { i : Nat // i ≤ s.length ∧ ∀ j (h : j < s.length), j < i → isL s[j] = true } (fun i => [(0, sA s), (1, iA most), (7, iA s.length), (8, iA i.1)]) (fun _ => []) [] (fun i => s.length - i.1) ⟨0, by simp⟩ (by simp) (by simp) ?_
  rintro ⟨i, hi, hp⟩
  rcases Nat.lt_or_ge i s.length with h | h
  · simp [h, wrap_byte]
    refine .dval (c_within _ _ _) rfl (by simp) rfl ?_
    simp
    refine ⟨fun hb => ?_, fun hb => ⟨i + 1, .mk (by simp; exact wrap64 (by omega) (by omega)) (by simp), ⟨h, upto_succ hp h hb⟩, by omega⟩⟩
    rw [lettersOk, all_false h hb]; rfl
  · simp [Nat.not_lt.2 h, lettersOk, all_true h hp]

theorem c_WordValid (s : List UInt8) (hlen : s.length ≤ 9223372036854775807) : DCalls Try.prog 29 [sA s] fun y => y = .bool (wordOk s) := by
  refine dcalls_intro Ty.mixed Try.func29 rfl rfl rfl [] (by kernel_rfl) (by simp) ?_
  simp
  refine .dval (c_areLetters s 8 hlen) rfl (by simp) rfl ?_
  simp [wordOk]

theorem c_sWordValid (s : List UInt8) (hlen : s.length ≤ 9223372036854775807) : DCalls Try.prog 62 [sA s] fun y => y = .bool (wordOk s) := by
  refine dcalls_intro Ty.mixed Try.func62 rfl rfl rfl [] (by kernel_rfl) (by simp) ?_
  simp
  refine LoopVC.at { i : Nat // i ≤ s.length ∧ ∀ j (h : j < s.length), j < i → isL s[j] = true } (fun i => [(0, sA s), (3, iA i.1)]) (fun _ => []) [] (fun i => s.length - i.1) ⟨0, by simp⟩ (by simp) (by simp) ?_
  rintro ⟨i, hi, hp⟩
  rcases Nat.lt_or_ge i s.length with h | h
  · simp [h, wrap_byte]
    refine .dval (c_l1In _ _ _) rfl (by simp) rfl ?_
    simp
    refine ⟨fun hb => ?_, fun hb => ⟨i + 1, .mk (by simp; exact wrap64 (by omega) (by omega)) (by simp), ⟨h, upto_succ hp h hb⟩, by omega⟩⟩
    rw [wordOk, lettersOk, all_false h hb]; rfl
  · simp [Nat.not_lt.2 h, wordOk, lettersOk, all_true h hp]

theorem c_letter (s : List UInt8) (i : Nat) (h : i < s.length) : DCalls Try.prog 73 [sA s, iA i] fun y => y = iD (ltr s[i]) := by
  refine dcalls_intro Ty.mixed Try.func73 rfl rfl rfl [] (by kernel_rfl) (by simp) ?_
  simp [h]
  exact wrap_ltr _

/-- The text of a letter. -/
def ltxt (n : Int) : List UInt8 := [UInt8.ofNat (97 + n.toNat)]
/-! ### Numbers of words -/

/-- How many words have fewer letters. -/
def shorterN : Nat → Int
  | 0 => 0
  | n + 1 => shorterN n + 3 ^ n
theorem pow3_le {n : Nat} (h : n ≤ 30) : (0 : Int) < 3 ^ n ∧ (3 : Int) ^ n ≤ 205891132094649 := by
  refine ⟨Int.pow_pos (by decide), ?_⟩
  have h1 : 3 ^ n ≤ 3 ^ 30 := Nat.pow_le_pow_right (by decide) h
  have h2 : (3 : Int) ^ n = ((3 ^ n : Nat) : Int) := by simp
  have h3 : (3 ^ 30 : Nat) = 205891132094649 := by decide
  omega
theorem shorterN_eq : ∀ n : Nat, 2 * shorterN n + 1 = 3 ^ n
  | 0 => by simp [shorterN]
  | n + 1 => by
    have := shorterN_eq n
    rw [shorterN, Int.pow_succ]; omega
theorem shorterN_mono {m n : Nat} (h : m ≤ n) : shorterN m ≤ shorterN n := by
  induction h with
  | refl => exact Int.le_refl _
  | @step k _ ih => rw [shorterN]; have : (0 : Int) < 3 ^ k := Int.pow_pos (by decide); exact Int.le_trans ih (by omega)
theorem shorterN_bd {n : Nat} (h : n ≤ 30) : 0 ≤ shorterN n ∧ shorterN n ≤ 102945566047324 := by
  have := shorterN_eq n; have := pow3_le h; omega

/-- The letters as digits. -/
def wv (s : List UInt8) : Int := s.foldl (fun n b => 3 * n + ltr b) 0
theorem wv_snoc (s : List UInt8) (b : UInt8) : wv (s ++ [b]) = 3 * wv s + ltr b := by simp [wv]
theorem wv_bd : ∀ {s : List UInt8}, s.all isL = true → 0 ≤ wv s ∧ wv s < 3 ^ s.length := by
  intro s
  induction s using snocInd with
  | nil => intro _; simp [wv]
  | snoc s b ih =>
    intro h
    simp only [List.all_append, List.all_cons, List.all_nil, Bool.and_true, Bool.and_eq_true] at h
    have := ih h.1
    have := ltr_of h.2
    rw [wv_snoc, List.length_append, List.length_singleton, Int.pow_succ]
    omega
/-- The number of a word. -/
def rank (s : List UInt8) : Int := if wordOk s then shorterN s.length + wv s else -1

theorem take_all {α : Type} {p : α → Bool} {s : List α} (h : s.all p = true) (i : Nat) : (s.take i).all p = true := by
  rw [List.all_eq_true] at h ⊢
  exact fun x hx => h x (List.mem_of_mem_take hx)
theorem take_snoc {α : Type} {s : List α} {i : Nat} (h : i < s.length) : s.take (i + 1) = s.take i ++ [s[i]] := by
  rw [List.take_add_one, List.getElem?_eq_getElem h]; rfl

/-- The last digits of a number, as letters. -/
def lowD : Nat → Int → List UInt8
  | 0, _ => []
  | i + 1, n => ltxt (n / 3 ^ i % 3) ++ lowD i n
/-- How many letters the word with a number has. -/
def wlen (n : Int) : Nat := (List.range 9).findIdx fun k => decide (n < shorterN (k + 1))
def wordAt (n : Int) : List UInt8 := lowD (wlen n) (n - shorterN (wlen n))

theorem wlen_is {n : Int} {k : Nat} (hk : k < 9) (h1 : n < shorterN (k + 1)) (h2 : shorterN k ≤ n) : wlen n = k := by
  unfold wlen
  rw [List.findIdx_eq (by simpa using hk)]
  refine ⟨by simpa using h1, fun j hj => ?_⟩
  have := shorterN_mono (show j + 1 ≤ k by omega)
  simp; omega

/-! ### A reader of bytes that draws -/

/-- The reader's block: bytes, and a place. -/
def rdB (code : List D) (p : Int) : List D := [.list code, iD p]
def byteD (b : UInt8) : D := .int .u8 b.toNat
def codeD (code : List UInt8) : List D := code.map byteD

end Go.Fw
