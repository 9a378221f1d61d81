/- Words of automata with choices, as the specification has them; copies, equality and sizes; the law about words. -/
import Derived.Test.YtfldfcibjkhpnaaMd
set_option linter.unusedSimpArgs false
set_option linter.unusedVariables false
namespace Go.Fw
open Go Go.Proofs

/-! ### Copies, equality, sizes -/

structure Na.fine (a : Na) : Prop where
  ms : a.ms.length ≤ 9223372036854775807
  fs : a.fs.length ≤ 9223372036854775807
  es : a.es.length ≤ 9223372036854775807
structure Na.small (a : Na) : Prop where
  ms : a.ms.length ≤ 1048576
  fs : a.fs.length ≤ 1048576
  es : a.es.length ≤ 1048576

theorem c_eqMove (m q : Mv) : DCalls Try.prog 87 [.d m.d, .d q.d] fun y => y = .bool (decide (m = q)) := by
  refine dcalls_intro Ty.mixed Try.func87 rfl rfl rfl [2, 3] (by kernel_rfl) (by simp) ?_
  obtain ⟨a, b, c⟩ := m
  obtain ⟨d, e, f⟩ := q
  simp [Mv.d]
  grind
theorem c_eqMoveS (xs ys : List Mv) (h1 : xs.length ≤ 9223372036854775807) : DCalls Try.prog 66 [.d (.list (xs.map Mv.d)), .d (.list (ys.map Mv.d))] fun y => y = .bool (decide (xs = ys)) := by
  refine dcalls_intro Ty.mixed Try.func66 rfl rfl rfl [] (by kernel_rfl) (by simp) ?_
  simp
  refine ⟨fun hne e => hne (by rw [e]), fun hlen => ?_⟩
  refine LoopVC.at { i : Nat // i ≤ xs.length ∧ ∀ j (h : j < xs.length), j < i → ∃ h' : j < ys.length, xs[j] = ys[j] } (fun i => [(0, .d (.list (xs.map Mv.d))), (1, .d (.list (ys.map Mv.d))), (5, iA i.1)]) (fun _ => []) [] (fun i => xs.length - i.1) ⟨0, by simp⟩ (by simp) (by simp) ?_
  rintro ⟨i, hi, hp⟩
  rcases Nat.lt_or_ge i xs.length with h | h
  · have h' : i < ys.length := by omega
    have hce := c_eqMove xs[i] ys[i]
    simp [h]
    refine .one (sch [.pur 0, .pur 1, .pur 2, .pur 3, .pur 4, .pur 5, .pur 6, .pur 7, .eff 8 [], .pur 9]) (by kernel_rfl) ?_
    simp [h, h', Mv.d]
    refine .dval hce rfl (by simp) rfl ?_
    simp
    refine ⟨fun hne e => hne (by subst e; rfl), fun he => ⟨i + 1, .mk (by simp; exact wrap64 (by omega) (by omega)) (by simp), ⟨h, upto_succ hp h ⟨h', he⟩⟩, by omega⟩⟩
  · simp [Nat.not_lt.2 h]
    refine List.ext_getElem (by omega) fun j hj hj' => ?_
    obtain ⟨_, he⟩ := hp j hj (by omega)
    exact he

theorem c_eqNfa (a b : Na) (h : a.small) : DCalls Try.prog 35 [.d a.d, .d b.d] fun y => y = .bool (decide (a = b)) := by
  refine dcalls_intro Ty.mixed Try.func35 rfl rfl rfl [2, 3] (by kernel_rfl) (by simp) ?_
  have e : decide (a = b) = (decide (a.n = b.n) && decide (a.ms = b.ms) && decide (a.fs = b.fs) && decide (a.es = b.es)) := by
    cases a; cases b; simp; grind
  rw [e]
  have n1 := h.ms
  have n2 := h.fs
  have n3 := h.es
  simp [Na.d]
  refine ⟨fun hno => by simp [hno], fun e0 => ?_⟩
  refine .dval (c_eqMoveS a.ms b.ms (by omega)) rfl (by simp) rfl ?_
  simp
  refine ⟨fun hno => by simp [hno], fun e1 => ?_⟩
  refine .dval (c_eqIntS a.fs b.fs (by omega)) rfl (by simp) rfl ?_
  simp
  refine ⟨fun hno => by simp [hno], fun e2 => ?_⟩
  refine .dval (c_eqIntS a.es b.es (by omega)) rfl (by simp) rfl ?_
  simp [e0, e1, e2]

end Go.Fw
