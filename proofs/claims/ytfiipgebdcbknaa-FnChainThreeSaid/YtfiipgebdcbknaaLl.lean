/- Laws about rewriters that are drawn. -/
import Derived.Test.YtfiipgebdcbknaaLk
set_option linter.unusedSimpArgs false
set_option linter.unusedVariables false
namespace Go.Fw
open Go Go.Proofs

theorem okRw_short {r : Rw} (h : okRw r = true) : okRw ⟨r.next, r.out, r.fin.drop 1⟩ = false := by
  obtain ⟨n1, n2, n3, n4⟩ := okRw_len h
  have : (List.drop 1 r.fin).length ≠ r.next.length := by simp; omega
  simp only [okRw]
  rw [decide_eq_false (p := (List.drop 1 r.fin).length = r.next.length) this]
  simp

set_option maxRecDepth 100000 in
theorem c_FnRewriterValid (code : List UInt8) (hl : code.length ≤ 9223372036854775807) : DCalls Try.prog 5 [.d (.list (codeD code))] fun y => y = .bool true := by
  refine dcalls_intro Ty.mixed Try.func5 rfl rfl rfl [] (by kernel_rfl) (by simp) ?_
  simp [codeD_len2]
  intro h20
  refine .ddat (c_DrawRewriterValid code) rfl (by simp) ?_
  rintro _ ⟨r, rfl, hs⟩
  have hf := hs.fine
  simp [Rw.d]
  refine .dval (c_RewriterValid r hf.out hf.fin hf.next hf.len) rfl (by simp [Rw.d]) rfl ?_
  simp
  refine .dval (c_sRewriterValid r hf) rfl (by simp [Rw.d]) rfl ?_
  simp
  refine ⟨fun hno => ?_, fun hv => ?_⟩
  · refine .dval (c_RewriterValid ⟨[], [], []⟩ (by simp) (by simp) (by simp) (by simp)) rfl (by simp [Rw.d]) rfl ?_
    rw [show okRw ⟨[], [], []⟩ = false by decide]
    simp
    refine .flat (fun _ => c_alive) rfl (by simp) rfl (by simp) ?_
    simp
  · obtain ⟨n1, n2, n3, n4⟩ := okRw_len hv
    refine .one (sch [.pur 0, .pur 1, .pur 2, .pur 3, .pur 4, .pur 5, .pur 6, .pur 7, .eff 8 [], .pur 9, .pur 10]) (by kernel_rfl) ?_
    simp
    refine ⟨⟨by omega, fun h1 => ?_⟩, ?_⟩
    · rw [List.getElem?_eq_getElem (by omega)]; rfl
    refine .dvalE (c_RewriterValid ⟨r.next, r.out, r.fin.drop 1⟩ hf.out (fun x hx => hf.fin x (List.mem_of_mem_drop hx)) hf.next hf.len) rfl ?_ (by simp) rfl ?_
    · simp [Rw.d, take_map_all]
    rw [okRw_short hv]
    simp

/-! ### A rewriter that writes nothing at the end -/

def quietRw (r : Rw) : Rw := ⟨r.next, r.out, List.replicate r.fin.length []⟩
theorem quietRw_ok {r : Rw} (h : okRw r = true) : okRw (quietRw r) = true := by
  obtain ⟨n1, n2, n3, n4⟩ := okRw_len h
  simp only [okRw, quietRw, Bool.and_eq_true, decide_eq_true_eq, List.all_eq_true, List.mem_range] at h ⊢
  refine ⟨⟨⟨h.1.1.1, decide_eq_true h.1.1.2⟩, by simp; omega⟩, fun k hk => ?_⟩
  have := h.2 k hk
  have e : (List.replicate r.fin.length ([] : List UInt8)).getD k [] = [] := by
    simp [List.getD_eq_getElem?_getD, List.getElem?_replicate]; split <;> rfl
  rw [e]
  simp only [rowOk, Bool.and_eq_true] at this ⊢
  exact ⟨⟨⟨this.1.1.1, by decide⟩, this.1.2⟩, this.2⟩
theorem quietRw_run (r : Rw) (f : Int) (s : List UInt8) : runRw (quietRw r) f s = runRw r f s := rfl
theorem runRw_pre (r : Rw) (f : Int) (a b : List UInt8) : ∃ z, (runRw r f (a ++ b)).2 = (runRw r f a).2 ++ z := by
  induction b using snocInd with
  | nil => exact ⟨[], by simp⟩
  | snoc b x ih =>
    obtain ⟨z, hz⟩ := ih
    have e : runRw r f (a ++ (b ++ [x])) = stepRw r (runRw r f (a ++ b)) x := by
      unfold runRw; rw [← List.append_assoc, List.foldl_append]; rfl
    rw [e]
    exact ⟨_, by show (runRw r f (a ++ b)).2 ++ _ = _; rw [hz, List.append_assoc]⟩
theorem textOk_take {s : List UInt8} (h : textOk s = true) (k : Nat) : textOk (s.take k) = true := by
  simp only [textOk, lettersOk, Bool.and_eq_true, List.all_eq_true, decide_eq_true_eq] at h ⊢
  exact ⟨fun x hx => h.1 x (List.mem_of_mem_take hx), by simp; omega⟩
theorem quiet_pre {r : Rw} {s : List UInt8} (hr : okRw r = true) (hs : textOk s = true) (k : Nat) : ∃ z, rewrite r s = rewrite (quietRw r) (s.take k) ++ z := by
  obtain ⟨z, hz⟩ := runRw_pre r 0 (s.take k) (s.drop k)
  rw [List.take_append_drop] at hz
  have e : (quietRw r).fin.getD (runRw r 0 (s.take k)).1.toNat [] = [] := by
    simp [quietRw, List.getD_eq_getElem?_getD, List.getElem?_replicate]; split <;> rfl
  unfold rewrite
  rw [hr, hs, quietRw_ok hr, textOk_take hs k, quietRw_run, e, hz]
  simp
theorem rewrite_len {r : Rw} {s : List UInt8} (hr : okRw r = true) (hs : textOk s = true) : (rewrite r s).length ≤ 4 * (s.length + 1) := by
  obtain ⟨n1, n2, n3, n4⟩ := okRw_len hr
  have ha : s.all isL = true := by simp [textOk, lettersOk] at hs; simpa using hs.1
  have h := runRw_ok hr (f := 0) (by omega) ha
  have g := letters_len (okRw_row hr (k := (runRw r 0 s).1.toNat) (by omega)).2.2.1
  unfold rewrite
  rw [hr, hs]
  simp only [Bool.and_self, if_true, List.length_append]
  omega
theorem rewrite_le (r : Rw) (s : List UInt8) (hs : s.length ≤ 200) : (rewrite r s).length ≤ 804 := by
  cases hr : okRw r && textOk s with
  | false => simp [rewrite, hr]
  | true =>
    simp only [Bool.and_eq_true] at hr
    have := rewrite_len hr.1 hr.2
    omega

theorem c_DrawRewriteText (code : List UInt8) : TCalls Try.prog 25 [.d (.list (codeD code))] fun y => ∃ (r : Rw) (s : List UInt8), y = [r.d, sD s] ∧ r.small ∧ s.length ≤ 200 := by
  refine tcalls_intro Ty.mixed Try.func25 rfl rfl rfl [] (by kernel_rfl) (by simp) ?_
  simp
  refine .fresh 700 (c_l20Open code) (by omega) (by simp) rfl (by simp) ?_
  rintro _ ⟨code', rfl, hc⟩
  simp [rdB]
  refine .lend (b := rdB (codeD code') 0) (d_l20Rewriter code' (by omega) 0 14 (by omega) (by omega) (by omega)) (by simp [rdB]) (by simp) rfl (by simp) ?_
  rintro _ _ ⟨q, rfl, h1, h2, r, rfl, hr⟩
  simp [rdB, Rw.d]
  refine .one (sch [.pur 0, .pur 1, .eff 2 [0], .eff 3 [], .pur 4]) (by kernel_rfl) ?_
  simp
  refine .lend (b := rdB (codeD code') q) (d_l20Long code' (by omega) q 14 (by omega) (by omega) (by omega)) (by simp [rdB]) (by simp) rfl (by simp) ?_
  rintro _ _ ⟨q2, rfl, h3, h4, s, rfl, hs⟩
  simp [rdB]
  exact ⟨r, s, ⟨⟨rfl, rfl, rfl⟩, rfl⟩, hr, hs⟩

set_option maxRecDepth 100000 in
theorem c_FnRewriteText (code : List UInt8) (hl : code.length ≤ 9223372036854775807) : DCalls Try.prog 6 [.d (.list (codeD code))] fun y => y = .bool true := by
  refine dcalls_intro Ty.mixed Try.func6 rfl rfl rfl [] (by kernel_rfl) (by simp) ?_
  simp [codeD_len2]
  intro h20
  refine .tdat (c_DrawRewriteText code) rfl (by simp) ?_
  rintro _ ⟨r, s, rfl, hsm, hs⟩
  have hf := hsm.fine
  have hq : (quietRw r).fine := ⟨hf.out, fun x hx => by simp [quietRw] at hx; simp [hx.2], hf.next, hf.len⟩
  have hfl := hsm.fin
  have hx1 := rewrite_le r s hs
  simp [Rw.d]
  refine .dval (c_RewriteText r s hf (by omega)) rfl (by simp [Rw.d]) rfl ?_
  simp
  refine .dval (c_sRewriteText r s hf (by omega)) rfl (by simp [Rw.d]) rfl ?_
  simp
  refine .dval (c_sRewriterValid r hf) rfl (by simp [Rw.d]) rfl ?_
  simp
  refine .flat (fun _ => c_sTextValid s (by omega)) rfl (by simp) rfl (by simp) ?_
  simp
  refine ⟨fun hno => ?_, fun hv ht => ?_⟩
  · have e : rewrite r s = [] := by rcases hno with hno | hno <;> simp [rewrite, hno]
    simp [e]
    refine .flat (fun _ => c_alive) rfl (by simp) rfl (by simp) ?_
    simp
  · refine .cutAt Unit (fun _ => [(4, sA s), (5, sA (rewrite r s)), (6, .ptr 600 0)]) (fun _ => [(600, .bx [.d (.list (r.next.map intsD)), .d (.list (r.out.map ssD)), .sl 1 4400 0 r.fin.length]), (4400, .ar 1 (List.replicate r.fin.length (sD [])))]) [600, 4400] (schA [.pur 0, .pur 1, .pur 2, .pur 3, .pur 4, .pur 5, .pur 6] (.alt 7 [0, 1, 2, 3] (sch [.pur 8, .eff 9 [0, 1, 2, 3, 4, 5, 6, 8], .eff 10 []]) 9 [0, 1, 2, 3, 4, 5, 6] (sch [.eff 7 [0, 1, 2, 3], .pur 8, .eff 10 []]))) (by kernel_rfl) ?_ ?_
    · simp
      omega
    intro _
    simp
    obtain ⟨k, hk, hk2⟩ : ∃ k : Nat, IntKind.i64.wrap ((s.length : Int) / 2) = (k : Int) ∧ k ≤ s.length := ⟨s.length / 2, by rw [wrap64 (by omega) (by omega)]; omega, by omega⟩
    obtain ⟨z, hz⟩ := quiet_pre hv ht k
    have hlen := rewrite_len hv ht
    have hy1 := rewrite_le (quietRw r) (s.take k) (by simp; omega)
    have hzl := congrArg List.length hz
    rw [List.length_append] at hzl
    refine .one (sch [.pur 0, .pur 1, .pur 2, .pur 3, .pur 4, .pur 5, .eff 6 [], .pur 7]) (by kernel_rfl) ?_
    simp [hk]
    refine ⟨by omega, ?_⟩
    have ha : [AV.d (D.agg [D.list (r.next.map intsD), D.list (r.out.map ssD), D.list (((List.replicate r.fin.length (sD [])).drop 0).take r.fin.length)]), sA (s.take k)] = [AV.d (quietRw r).d, sA (s.take k)] := by
      simp [quietRw, Rw.d]
    refine .dvalE (c_RewriteText (quietRw r) (s.take k) hq (by simp; omega)) rfl ha (by simp) rfl ?_
    simp [hk]
    rw [wrap64 (n := (s.length : Int) + 1) (by omega) (by omega), wrap64 (by omega) (by omega)]
    refine ⟨⟨by omega, by omega⟩, ?_⟩
    rw [hz, List.take_left]
end Go.Fw
