/- Copies, equality and sizes of automata; the laws that say what is exact of them. -/
import Derived.Test.YteenfgdemklhcaaMb
set_option linter.unusedSimpArgs false
set_option linter.unusedVariables false
namespace Go.Fw
open Go Go.Proofs

structure Df.small (a : Df) : Prop where
  next : a.next.length ≤ 1048576
  row : ∀ x ∈ a.next, x.length ≤ 1048576
  ends : a.ends.length ≤ 1048576
theorem Df.small.fine {a : Df} (h : a.small) : a.fine where
  len := by have := h.next; omega
  row := fun x hx => by have := h.row x hx; omega
  elen := by have := h.ends; omega

theorem c_szBoolS (xs : List Bool) (left : Int) (hl : 0 ≤ left ∧ left ≤ 1048576) (h : xs.length ≤ 9223372036854775807) : DCalls Try.prog 23 [.d (bsD xs), iA left] fun y => ∃ v, y = iD v ∧ leftOk left v (xs.length ≤ 1048576) := by
  refine dcalls_intro Ty.mixed Try.func23 rfl rfl rfl [] (by kernel_rfl) (by simp) ?_
  have e : IntKind.i64.wrap (left - xs.length) = left - xs.length := wrap64 (by omega) (by omega)
  simp [leftOk, e]
  omega

theorem c_szDfa (a : Df) (left : Int) (hl : 0 ≤ left ∧ left ≤ 1048576) (h : a.fine) : DCalls Try.prog 6 [.d a.d, iA left] fun y => ∃ v, y = iD v ∧ leftOk left v a.small := by
  refine dcalls_intro Ty.mixed Try.func6 rfl rfl rfl [2] (by kernel_rfl) (by simp) ?_
  simp [Df.d]
  refine .ddat (c_szIntSS a.next left hl h.len h.row) rfl (by simp) ?_
  rintro _ ⟨v, rfl, h4, h5, h6⟩
  simp
  refine ⟨fun _ => by simp [leftOk]; omega, fun h7 => ?_⟩
  refine .ddat (c_szBoolS a.ends v (by omega) h.elen) rfl (by simp) ?_
  rintro _ ⟨v2, rfl, g4, g5, g6⟩
  simp
  exact ⟨fun _ => by simp [leftOk]; omega, fun k7 => ⟨by omega, by omega, fun _ => ⟨(h6 h7).1, (h6 h7).2, g6 k7⟩⟩⟩

theorem c_toBoolS (xs : List Bool) (hlen : xs.length ≤ 1048576) : DCalls Try.prog 27 [.d (bsD xs)] fun y => y = bsD xs := by
  refine dcalls_intro Ty.mixed Try.func27 rfl rfl rfl [] (by kernel_rfl) (by simp) ?_
  simp
  refine ⟨by omega, ?_⟩
  refine LoopVC.at { i : Nat // i ≤ xs.length } (fun i => [(0, .d (bsD xs)), (3, .sl 1 700 0 xs.length), (4, iA i.1)]) (fun i => [(700, .ar 1 (mixL (xs.map bD) (bD false) i.1))]) [700] (fun i => xs.length - i.1) ⟨0, by simp⟩ (by simp) (by simp [mixL_zero]) ?_
  rintro ⟨i, hi⟩
  rcases Nat.lt_or_ge i xs.length with h | h
  · have hl : (mixL (xs.map bD) (bD false) i).length = xs.length := by rw [mixL_len (by simpa using hi)]; simp
    simp [h, hl]
    refine ⟨i + 1, .mk (by simp; exact wrap64 (by omega) (by omega)) (by simp; rw [← mixL_set (by simpa using h)]; simp), h, by omega⟩
  · simp [Nat.not_lt.2 h]
    rw [mixL_all (by simpa using h)]
    exact ⟨Nat.le_of_eq (List.length_map _).symm, List.take_of_length_le (Nat.le_of_eq (List.length_map _))⟩

theorem c_toDfa (a : Df) (h : a.small) : DCalls Try.prog 8 [.d a.d] fun y => y = a.d := by
  refine dcalls_intro Ty.mixed Try.func8 rfl rfl rfl [1] (by kernel_rfl) (by simp) ?_
  simp [Df.d]
  refine .ddat (c_toIntSS a.next h.next h.row) rfl (by simp) ?_
  rintro _ rfl
  simp
  refine .ddat (c_toBoolS a.ends h.ends) rfl (by simp) ?_
  rintro _ rfl
  simp

theorem c_eqBoolS (xs ys : List Bool) (h1 : xs.length ≤ 9223372036854775807) : DCalls Try.prog 34 [.d (bsD xs), .d (bsD ys)] fun y => y = .bool (decide (xs = ys)) := by
  refine dcalls_intro Ty.mixed Try.func34 rfl rfl rfl [] (by kernel_rfl) (by simp) ?_
  simp
  refine ⟨fun hne e => hne (by rw [e]), fun hlen => ?_⟩
  refine LoopVC.at { i : Nat // i ≤ xs.length ∧ ∀ j (h : j < xs.length), j < i → ∃ h' : j < ys.length, xs[j] = ys[j] } (fun i => [(0, .d (bsD xs)), (1, .d (bsD ys)), (5, iA i.1)]) (fun _ => []) [] (fun i => xs.length - i.1) ⟨0, by simp⟩ (by simp) (by simp) ?_
  rintro ⟨i, hi, hp⟩
  rcases Nat.lt_or_ge i xs.length with h | h
  · have h' : i < ys.length := by omega
    simp [h]
    refine .one (sch [.pur 0, .pur 1, .pur 2, .pur 3, .pur 4, .pur 5, .pur 6, .pur 7, .pur 8]) (by kernel_rfl) ?_
    simp [h, h']
    refine ⟨fun hne e => hne (by subst e; rfl), fun he => ⟨i + 1, .mk (by simp; exact wrap64 (by omega) (by omega)) (by simp), ⟨h, upto_succ hp h ⟨h', he⟩⟩, by omega⟩⟩
  · simp [Nat.not_lt.2 h]
    refine List.ext_getElem (by omega) fun j hj hj' => ?_
    obtain ⟨_, he⟩ := hp j hj (by omega)
    exact he

theorem c_eqDfa (a b : Df) (h : a.small) : DCalls Try.prog 10 [.d a.d, .d b.d] fun y => y = .bool (decide (a = b)) := by
  refine dcalls_intro Ty.mixed Try.func10 rfl rfl rfl [2, 3] (by kernel_rfl) (by simp) ?_
  have e : decide (a = b) = (decide (a.next = b.next) && decide (a.ends = b.ends)) := by
    cases a; cases b; simp
  rw [e]
  have n1 := h.next
  have n2 := h.ends
  simp [Df.d]
  refine .dval (c_eqIntSS a.next b.next (by omega) (fun x hx => by have := h.row x hx; omega)) rfl (by simp) rfl ?_
  simp
  refine ⟨fun hno => by simp [hno], fun e1 => ?_⟩
  refine .dval (c_eqBoolS a.ends b.ends (by omega)) rfl (by simp) rfl ?_
  simp [e1]

/-! ### The laws -/

end Go.Fw
