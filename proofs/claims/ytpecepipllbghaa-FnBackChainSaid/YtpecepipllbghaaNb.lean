/- Chains of rewriters: the laws. -/
import Derived.Test.YtpecepipllbghaaMu
import Derived.Test.YtpecepipllbghaaLl
set_option linter.unusedSimpArgs false
set_option linter.unusedVariables false
namespace Go.Fw
open Go Go.Proofs
set_option linter.unusedSectionVars false
set_option linter.unnecessarySimpa false

theorem c_sameIntsR (xs ys : List Int) (h1 : xs.length ≤ 9223372036854775807) : DCalls Try.prog 72 [.d (intsD xs), .d (intsD ys)] fun y => y = .bool (decide (xs = ys)) := by
  refine dcalls_intro Ty.mixed Try.func72 rfl rfl rfl [] (by kernel_rfl) (by simp) ?_
  simp
  refine ⟨fun hne e => hne (by rw [e]), fun hlen => ?_⟩
  refine LoopVC.at { i : Nat // i ≤ xs.length ∧ ∀ j (h : j < xs.length), j < i → ∃ h' : j < ys.length, xs[j] = ys[j] } (fun i => [(0, .d (intsD xs)), (1, .d (intsD ys)), (5, iA i.1)]) (fun _ => []) [] (fun i => xs.length - i.1) ⟨0, by simp⟩ (by simp) (by simp) ?_
  rintro ⟨i, hi, hp⟩
  rcases Nat.lt_or_ge i xs.length with h | h
  · have h' : i < ys.length := by omega
    simp [h]
    refine .one (sch [.pur 0, .pur 1, .pur 2, .pur 3, .pur 4, .pur 5, .pur 6, .pur 7, .pur 8]) (by kernel_rfl) ?_
    simp [h, h']
    refine ⟨fun hne e => hne (by subst e; rfl), fun he => ⟨i + 1, .mk (by simp; exact wrap64 (by omega) (by omega)) (by simp), ⟨h, upto_succ hp h ⟨h', he⟩⟩, by omega⟩⟩
  · simp [Nat.not_lt.2 h]
    refine List.ext_getElem (by omega) fun j hj hj' => ?_
    obtain ⟨_, he⟩ := hp j hj (by omega)
    exact he

structure Rw.reg (r : Rw) : Prop where
  len : r.next.length ≤ 1000
  out : r.out.length = r.next.length
  fin : r.fin.length = r.next.length
  row : ∀ x ∈ r.next, x.length ≤ 9223372036854775807
  orow : ∀ x ∈ r.out, x.length ≤ 1000
theorem ChainIs.reg {a b R : Rw} {ok : Bool} (h : ChainIs a b R ok) : R.reg := by
  rcases h.cases with rfl | h
  · exact ⟨by simp [zeroRw], by simp [zeroRw], by simp [zeroRw], by simp [zeroRw], by simp [zeroRw]⟩
  · obtain ⟨n1, n2, n3, n4⟩ := okRw_len h
    refine ⟨by omega, n3, n4, (fine_of_ok h).next, fun x hx => ?_⟩
    obtain ⟨k, hk, rfl⟩ := List.mem_iff_getElem.1 hx
    have hr := okRw_row h (k := k) (by omega)
    rw [← (getD_row (xs := R.out) (i := k) [] hk).2 hk] at hr
    omega

set_option maxRecDepth 100000 in
theorem c_sameRewriter (r : Rw) (h0 : r.reg) : DCalls Try.prog 42 [.d r.d, .d r.d] fun y => y = .bool true := by
  obtain ⟨h1, h2, h3, h4, h5⟩ := h0
  refine dcalls_intro Ty.mixed Try.func42 rfl rfl rfl [2, 3] (by kernel_rfl) (by simp) ?_
  simp [Rw.d, h2, h3]
  refine LoopVC.at { k : Nat // k ≤ r.next.length } (fun k => [(2, rwP r), (3, rwP r), (5, iA k.1)]) (fun _ => []) [] (fun k => r.next.length - k.1) ⟨0, by simp⟩ (by simp) (by simp) ?_
  rintro ⟨k, hk⟩
  rcases Nat.lt_or_ge k r.next.length with h | h
  · have ho : k < r.out.length := by omega
    have hf : k < r.fin.length := by omega
    have hrow := h4 _ (List.getElem_mem h)
    have horow := h5 _ (List.getElem_mem ho)
    simp [h, h2, h3]
    refine .one (sch [.pur 0, .pur 1, .pur 2, .pur 3, .pur 4, .pur 5, .pur 6, .pur 7, .pur 8, .pur 9, .eff 10 [], .pur 11, .pur 12, .pur 13, .pur 14, .pur 15, .pur 16, .pur 17, .pur 18, .pur 19, .pur 20, .pur 21, .pur 22, .pur 23, .pur 24, .pur 25, .pur 26, .pur 27, .pur 28, .pur 29, .pur 30, .pur 31, .pur 32, .pur 33, .pur 34, .pur 35, .pur 36, .pur 37, .pur 38, .pur 39]) (by kernel_rfl) ?_
    simp [h, ho, hf, h2, h3]
    refine .dval (c_sameIntsR r.next[k] r.next[k] hrow) rfl (by simp) rfl ?_
    simp [h, ho, hf, h2, h3]
    refine LoopVC.at { c : Nat // c ≤ r.out[k].length } (fun c => [(2, rwP r), (3, rwP r), (5, iA k), (6, iA c.1)]) (fun _ => []) [] (fun c => r.out[k].length - c.1) ⟨0, by simp⟩ (by simp) (by simp) ?_
    rintro ⟨c, hc⟩
    rcases Nat.lt_or_ge c r.out[k].length with hc' | hc'
    · simp [h, ho, h2, hc']
      refine .one (sch [.pur 0, .pur 1, .pur 2, .pur 3, .pur 4, .pur 5, .pur 6, .pur 7, .pur 8, .pur 9, .pur 10, .pur 11, .pur 12, .pur 13, .pur 14, .pur 15, .pur 16]) (by kernel_rfl) ?_
      simp [h, ho, h2, hc']
      refine ⟨c + 1, .mk (by simp; exact wrap64 (by omega) (by omega)) (by simp), hc', by omega⟩
    · simp [h, ho, h2, Nat.not_lt.2 hc']
      refine ⟨k + 1, .mk (by simp; exact wrap64 (by omega) (by omega)) (by simp), h, by omega⟩
  · simp [Nat.not_lt.2 h]

set_option maxRecDepth 100000 in
theorem c_DrawChainRewriters (code : List UInt8) : TCalls Try.prog 38 [.d (.list (codeD code))] fun y => ∃ (r s : Rw), y = [r.d, s.d] ∧ r.small ∧ s.small := by
  refine tcalls_intro Ty.mixed Try.func38 rfl rfl rfl [] (by kernel_rfl) (by simp) ?_
  simp
  refine .fresh 700 (c_l20Open code) (by omega) (by simp) rfl (by simp) ?_
  rintro _ ⟨code', rfl, hc⟩
  simp [rdB]
  refine .lend (b := rdB (codeD code') 0) (d_l20Rewriter code' (by omega) 0 14 (by omega) (by omega) (by omega)) (by simp [rdB]) (by simp) rfl (by simp) ?_
  rintro _ _ ⟨q, rfl, h1, h2, r, rfl, hr⟩
  simp [rdB, Rw.d]
  refine .one (sch [.pur 0, .pur 1, .eff 2 [0], .eff 3 [], .eff 4 []]) (by kernel_rfl) ?_
  simp
  refine .lend (b := rdB (codeD code') q) (d_l20Rewriter code' (by omega) q 14 (by omega) (by omega) (by omega)) (by simp [rdB]) (by simp) rfl (by simp) ?_
  rintro _ _ ⟨q2, rfl, h3, h4, s, rfl, hs⟩
  simp [rdB, Rw.d]
  exact ⟨r, s, ⟨⟨rfl, rfl, rfl⟩, rfl, rfl, rfl⟩, hr, hs⟩

end Go.Fw
