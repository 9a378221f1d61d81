/- Contracts of small functions, and of the functions about roads. -/
import Derived.Test.YteenfgdemklhcaaTy
import Derived.Test.YteenfgdemklhcaaFwb
set_option linter.unusedSimpArgs false
set_option linter.unusedVariables false
namespace Go.Fw
open Go Go.Proofs

abbrev iD (n : Int) : D := .int .i64 n
abbrev iA (n : Int) : AV := .d (.int .i64 n)

/-- From lo to hi. -/
def inR (x lo hi : Int) : Bool := decide (lo ≤ x) && decide (x ≤ hi)

theorem c_within (x lo hi : Int) : DCalls Try.prog 68 [iA x, iA lo, iA hi] fun r => r = .bool (inR x lo hi) := by
  refine dcalls_intro Ty.mixed Try.func68 rfl rfl rfl [] (by kernel_rfl) (by simp) ?_
  simp [inR]
theorem c_l1In (x lo hi : Int) : DCalls Try.prog 63 [iA x, iA lo, iA hi] fun r => r = .bool (inR x lo hi) := by
  refine dcalls_intro Ty.mixed Try.func63 rfl rfl rfl [] (by kernel_rfl) (by simp) ?_
  simp [inR]
/-! ### Roads -/

structure Rd where
  f : Int
  l : Int
  t : Int
  c : Int
deriving DecidableEq
def Rd.d (r : Rd) : D := .agg [iD r.f, iD r.l, iD r.t, iD r.c]
def rsD (rs : List Rd) : D := .list (rs.map Rd.d)
def roadsD (n : Int) (rs : List Rd) : D := .agg [iD n, rsD rs]

/-- Does the road not fit into so many states? -/
def Rd.bad (n : Int) (r : Rd) : Bool := !inR r.f 0 (IntKind.i64.wrap (n - 1)) || !inR r.t 0 (IntKind.i64.wrap (n - 1)) || !inR r.l 0 2 || !inR r.c 0 99

theorem Rd.bad_eq (n : Int) (r : Rd) : r.bad n = (!inR r.f 0 (IntKind.i64.wrap (n - 1)) || !inR r.t 0 (IntKind.i64.wrap (n - 1)) || !inR r.l 0 2 || !inR r.c 0 99) := rfl
theorem wrap64 {n : Int} (h1 : -9223372036854775808 ≤ n) (h2 : n ≤ 9223372036854775807) : IntKind.i64.wrap n = n := by
  rw [IntKind.wrap_i64]; omega

/-- The first place at which 'p' holds. -/
def idxI {α : Type} (p : α → Bool) (xs : List α) : Int := match xs.findIdx? p with | some i => i | none => -1

theorem idxI_found {α : Type} {p : α → Bool} {xs : List α} {i : Nat} (hi : i < xs.length) (h : ∀ j (h : j < xs.length), j < i → p xs[j] = false) (hp : p xs[i] = true) : idxI p xs = i := by
  have : xs.findIdx? p = some i := by
    rw [List.findIdx?_eq_some_iff_getElem]
    exact ⟨hi, hp, fun j hj => by rw [h j (by omega) hj]; simp⟩
  simp [idxI, this]
theorem idxI_none {α : Type} {p : α → Bool} {xs : List α} {i : Nat} (hi : xs.length ≤ i) (h : ∀ j (h : j < xs.length), j < i → p xs[j] = false) : idxI p xs = -1 := by
  have : xs.findIdx? p = none := by
    rw [List.findIdx?_eq_none_iff]
    intro x hx
    obtain ⟨j, hj, rfl⟩ := List.mem_iff_getElem.1 hx
    exact h j hj (by omega)
  simp [idxI, this]
theorem idxI_any {α : Type} (p : α → Bool) (xs : List α) : decide (0 ≤ idxI p xs) = xs.any p := by
  unfold idxI
  cases h : xs.findIdx? p with
  | none =>
    rw [List.findIdx?_eq_none_iff] at h
    have : xs.any p = false := by rw [List.any_eq_false]; intro x hx; rw [h x hx]; simp
    rw [this]; rfl
  | some i =>
    rw [List.findIdx?_eq_some_iff_getElem] at h
    obtain ⟨hi, hp, _⟩ := h
    have : xs.any p = true := List.any_eq_true.2 ⟨_, List.getElem_mem hi, hp⟩
    rw [this]
    simp

/-- Are the roads valid? -/
def okRoads (n : Int) (rs : List Rd) : Bool := inR n 1 40 && decide ((rs.length : Int) ≤ 60) && !rs.any (Rd.bad n)

/-! ### Copies, equality and sizes of roads -/

/-- A row that is being filled. -/
def mixL (xs : List D) (z : D) (i : Nat) : List D := xs.take i ++ List.replicate (xs.length - i) z
theorem mixL_zero (xs : List D) (z : D) : mixL xs z 0 = List.replicate xs.length z := by simp [mixL]
theorem mixL_len {xs : List D} {z : D} {i : Nat} (h : i ≤ xs.length) : (mixL xs z i).length = xs.length := by simp [mixL]; omega
theorem mixL_all {xs : List D} {z : D} {i : Nat} (h : xs.length ≤ i) : mixL xs z i = xs := by simp [mixL, List.take_of_length_le h, Nat.sub_eq_zero_of_le h]
theorem mixL_set {xs : List D} {z : D} {i : Nat} (h : i < xs.length) : (mixL xs z i).set i xs[i] = mixL xs z (i + 1) := by
  have h1 : (xs.take i).length = i := by simp; omega
  unfold mixL
  rw [List.set_append, if_neg (by omega), h1, Nat.sub_self, List.take_add_one, List.getElem?_eq_getElem h]
  obtain ⟨k, hk⟩ : ∃ k, xs.length - i = k + 1 := ⟨xs.length - i - 1, by omega⟩
  rw [hk, show xs.length - (i + 1) = k by omega, List.replicate_succ]
  simp only [List.set_cons_zero, Option.toList_some, List.append_assoc, List.singleton_append, List.cons_append, List.nil_append]

/-! ### The law -/

end Go.Fw
