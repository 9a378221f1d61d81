/- Laws about rewriters that are drawn. -/
import Derived.Test.YtpecepipllbghaaLk
set_option linter.unusedSimpArgs false
set_option linter.unusedVariables false
namespace Go.Fw
open Go Go.Proofs

theorem okRw_short {r : Rw} (h : okRw r = true) : okRw ⟨r.next, r.out, r.fin.drop 1⟩ = false := by
  obtain ⟨n1, n2, n3, n4⟩ := okRw_len h
  have : (List.drop 1 r.fin).length ≠ r.next.length := by simp; omega
  simp only [okRw]
  rw [decide_eq_false (p := (List.drop 1 r.fin).length = r.next.length) this]
  simp

/-! ### A rewriter that writes nothing at the end -/

def quietRw (r : Rw) : Rw := ⟨r.next, r.out, List.replicate r.fin.length []⟩
theorem quietRw_ok {r : Rw} (h : okRw r = true) : okRw (quietRw r) = true := by
  obtain ⟨n1, n2, n3, n4⟩ := okRw_len h
  simp only [okRw, quietRw, Bool.and_eq_true, decide_eq_true_eq, List.all_eq_true, List.mem_range] at h ⊢
  refine ⟨⟨⟨h.1.1.1, decide_eq_true h.1.1.2⟩, by simp; omega⟩, fun k hk => ?_⟩
  have := h.2 k hk
  have e : (List.replicate r.fin.length ([] : List UInt8)).getD k [] = [] := by
    simp [List.getD_eq_getElem?_getD, List.getElem?_replicate]; split <;> rfl
  rw [e]
  simp only [rowOk, Bool.and_eq_true] at this ⊢
  exact ⟨⟨⟨this.1.1.1, by decide⟩, this.1.2⟩, this.2⟩
theorem quietRw_run (r : Rw) (f : Int) (s : List UInt8) : runRw (quietRw r) f s = runRw r f s := rfl
theorem runRw_pre (r : Rw) (f : Int) (a b : List UInt8) : ∃ z, (runRw r f (a ++ b)).2 = (runRw r f a).2 ++ z := by
  induction b using snocInd with
  | nil => exact ⟨[], by simp⟩
  | snoc b x ih =>
    obtain ⟨z, hz⟩ := ih
    have e : runRw r f (a ++ (b ++ [x])) = stepRw r (runRw r f (a ++ b)) x := by
      unfold runRw; rw [← List.append_assoc, List.foldl_append]; rfl
    rw [e]
    exact ⟨_, by show (runRw r f (a ++ b)).2 ++ _ = _; rw [hz, List.append_assoc]⟩
theorem textOk_take {s : List UInt8} (h : textOk s = true) (k : Nat) : textOk (s.take k) = true := by
  simp only [textOk, lettersOk, Bool.and_eq_true, List.all_eq_true, decide_eq_true_eq] at h ⊢
  exact ⟨fun x hx => h.1 x (List.mem_of_mem_take hx), by simp; omega⟩
theorem quiet_pre {r : Rw} {s : List UInt8} (hr : okRw r = true) (hs : textOk s = true) (k : Nat) : ∃ z, rewrite r s = rewrite (quietRw r) (s.take k) ++ z := by
  obtain ⟨z, hz⟩ := runRw_pre r 0 (s.take k) (s.drop k)
  rw [List.take_append_drop] at hz
  have e : (quietRw r).fin.getD (runRw r 0 (s.take k)).1.toNat [] = [] := by
    simp [quietRw, List.getD_eq_getElem?_getD, List.getElem?_replicate]; split <;> rfl
  unfold rewrite
  rw [hr, hs, quietRw_ok hr, textOk_take hs k, quietRw_run, e, hz]
  simp
theorem rewrite_len {r : Rw} {s : List UInt8} (hr : okRw r = true) (hs : textOk s = true) : (rewrite r s).length ≤ 4 * (s.length + 1) := by
  obtain ⟨n1, n2, n3, n4⟩ := okRw_len hr
  have ha : s.all isL = true := by simp [textOk, lettersOk] at hs; simpa using hs.1
  have h := runRw_ok hr (f := 0) (by omega) ha
  have g := letters_len (okRw_row hr (k := (runRw r 0 s).1.toNat) (by omega)).2.2.1
  unfold rewrite
  rw [hr, hs]
  simp only [Bool.and_self, if_true, List.length_append]
  omega
theorem rewrite_le (r : Rw) (s : List UInt8) (hs : s.length ≤ 200) : (rewrite r s).length ≤ 804 := by
  cases hr : okRw r && textOk s with
  | false => simp [rewrite, hr]
  | true =>
    simp only [Bool.and_eq_true] at hr
    have := rewrite_len hr.1 hr.2
    omega

end Go.Fw
