/- Automata with choices: validity, and the empty word. -/
import Derived.Test.YteenfgdemklhcaaLp
set_option linter.unusedSimpArgs false
set_option linter.unusedVariables false
namespace Go.Fw
open Go Go.Proofs

def Mv.bad (n : Int) (m : Mv) : Bool := !inR m.f 0 (IntKind.i64.wrap (n - 1)) || !inR m.t 0 (IntKind.i64.wrap (n - 1)) || !inR m.l (-1) 2

/-- Numbers of states, ascending: at this place. -/
def stAt (w : Int) (xs : List Int) (i : Nat) : Bool := inR (xs.getD i 0) 0 w && (decide (i = 0) || decide (xs.getD (i - 1) 0 < xs.getD i 0))
def stOk (n : Int) (xs : List Int) : Bool := (List.range xs.length).all (stAt (IntKind.i64.wrap (n - 1)) xs)
theorem stOk_false {n : Int} {xs : List Int} {i : Nat} (hi : i < xs.length) (h : stAt (IntKind.i64.wrap (n - 1)) xs i = false) : stOk n xs = false := by
  rw [stOk, List.all_eq_false]; exact ⟨i, List.mem_range.2 hi, by simp [h]⟩

def okNa (a : Na) : Bool := inR a.n 0 40 && decide ((a.ms.length : Int) ≤ 400) && stOk a.n a.fs && stOk a.n a.es && !a.ms.any (Mv.bad a.n)
/-! ### Sets -/

def stWith (p : Nat × Nat) (s : Nat) : Nat × Nat := if s < 64 then (p.1 ||| 2 ^ s, p.2) else (p.1, p.2 ||| 2 ^ (s - 64))
theorem stWith_lt {p : Nat × Nat} (h : p.1 < 18446744073709551616 ∧ p.2 < 18446744073709551616) {s : Nat} (hs : s < 128) : (stWith p s).1 < 18446744073709551616 ∧ (stWith p s).2 < 18446744073709551616 := by
  unfold stWith
  split
  · exact ⟨Nat.or_lt_two_pow (n := 64) h.1 (Nat.pow_lt_pow_right (a := 2) (m := s) (n := 64) (by omega) (by omega)), h.2⟩
  · exact ⟨h.1, Nat.or_lt_two_pow (n := 64) h.2 (Nat.pow_lt_pow_right (a := 2) (m := s - 64) (n := 64) (by omega) (by omega))⟩
def stOf (xs : List Int) : Nat × Nat := xs.foldl (fun p s => stWith p s.toNat) (0, 0)
theorem stOf_lt {xs : List Int} (h : ∀ x ∈ xs, 0 ≤ x ∧ x < 128) : (stOf xs).1 < 18446744073709551616 ∧ (stOf xs).2 < 18446744073709551616 := by
  induction xs using snocInd with
  | nil => decide
  | snoc s b ih =>
    have := ih fun x hx => h x (by simp [hx])
    have hb := h b (by simp)
    unfold stOf at this ⊢
    rw [List.foldl_append]
    exact stWith_lt this (by omega)

/-! ### The empty word -/

/-! ### The law -/

theorem naM_ok {n : Int} {rs : List Rd} (h : okRoads n rs = true) : okNa ⟨n, rs.map fun r => ⟨r.f, r.l, r.t⟩, [0], [n - 1]⟩ = true := by
  obtain ⟨n1, n2, n3, hrs⟩ := okRoads_of h
  have hw : IntKind.i64.wrap (n - 1) = n - 1 := wrap64 (by omega) (by omega)
  have ha : (rs.map fun r => (⟨r.f, r.l, r.t⟩ : Mv)).any (Mv.bad n) = false := by
    rw [List.any_eq_false]
    intro m hm
    obtain ⟨r, hr, rfl⟩ := List.mem_map.1 hm
    have := hrs r hr
    simp [Mv.bad, hw, inR]; omega
  have e1 : stOk n [0] = true := by simp [stOk, stAt, hw, inR]; omega
  have e2 : stOk n [n - 1] = true := by simp [stOk, stAt, hw, inR]; omega
  simp only [okNa, e1, e2, ha]
  simp [inR]; omega

end Go.Fw
