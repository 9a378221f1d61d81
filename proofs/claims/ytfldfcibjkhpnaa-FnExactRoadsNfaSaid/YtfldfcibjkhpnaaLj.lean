/- Copies, equality and sizes of rewriters; the laws that say what is exact. -/
import Derived.Test.YtfldfcibjkhpnaaLi
set_option linter.unusedSimpArgs false
set_option linter.unusedVariables false
namespace Go.Fw
open Go Go.Proofs

/-! ### Sizes -/

/-- What is left after a size, or -1. -/
def leftOk (left v : Int) (P : Prop) : Prop := -1 ≤ v ∧ v ≤ left ∧ (0 ≤ v → P)

/-- Small enough to be copied. -/
structure Rw.small (r : Rw) : Prop where
  next : r.next.length ≤ 1048576
  row : ∀ x ∈ r.next, x.length ≤ 1048576
  out : r.out.length ≤ 1048576
  orow : ∀ (xs : List (List UInt8)), xs ∈ r.out → xs.length ≤ 1048576 ∧ ∀ x ∈ xs, x.length ≤ 1048576
  fin : r.fin.length ≤ 1048576
  ftext : ∀ x ∈ r.fin, x.length ≤ 1048576
theorem Rw.small.fine {r : Rw} (h : r.small) : r.fine where
  out := fun xs hx => by have := h.orow xs hx; exact ⟨by omega, fun x hm => by have := this.2 x hm; omega⟩
  fin := fun x hx => by have := h.ftext x hx; omega
  next := fun x hx => by have := h.row x hx; omega
  len := by have := h.next; omega

/-! ### Copies -/

/-! ### Equality -/

theorem c_eqIntS (xs ys : List Int) (h1 : xs.length ≤ 9223372036854775807) : DCalls Try.prog 67 [.d (intsD xs), .d (intsD ys)] fun y => y = .bool (decide (xs = ys)) := by
  refine dcalls_intro Ty.mixed Try.func67 rfl rfl rfl [] (by kernel_rfl) (by simp) ?_
  simp
  refine ⟨fun hne e => hne (by rw [e]), fun hlen => ?_⟩
  refine LoopVC.at { i : Nat // i ≤ xs.length ∧ ∀ j (h : j < xs.length), j < i → ∃ h' : j < ys.length, xs[j] = ys[j] } (fun i => [(0, .d (intsD xs)), (1, .d (intsD ys)), (5, iA i.1)]) (fun _ => []) [] (fun i => xs.length - i.1) ⟨0, by simp⟩ (by simp) (by simp) ?_
  rintro ⟨i, hi, hp⟩
  rcases Nat.lt_or_ge i xs.length with h | h
  · have h' : i < ys.length := by omega
    simp [h]
    refine .one (sch [.pur 0, .pur 1, .pur 2, .pur 3, .pur 4, .pur 5, .pur 6, .pur 7, .pur 8]) (by kernel_rfl) ?_
    simp [h, h']
    refine ⟨fun hne e => hne (by subst e; rfl), fun he => ⟨i + 1, .mk (by simp; exact wrap64 (by omega) (by omega)) (by simp), ⟨h, upto_succ hp h ⟨h', he⟩⟩, by omega⟩⟩
  · simp [Nat.not_lt.2 h]
    refine List.ext_getElem (by omega) fun j hj hj' => ?_
    obtain ⟨_, he⟩ := hp j hj (by omega)
    exact he

/-! ### The laws -/

end Go.Fw
