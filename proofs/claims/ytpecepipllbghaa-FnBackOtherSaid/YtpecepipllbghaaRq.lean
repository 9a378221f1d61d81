/- The other words: the automaton with the other marks. -/
import Derived.Test.YtpecepipllbghaaOp
import Derived.Test.YtpecepipllbghaaOf
set_option linter.unusedSimpArgs false
set_option linter.unusedVariables false
namespace Go.Fw
open Go Go.Proofs
set_option linter.unusedSectionVars false
set_option linter.unnecessarySimpa false

def Df.compl (a : Df) : Df := ⟨a.next, a.ends.map fun b => !b⟩
theorem compl_ok {a : Df} (h : okDf a = true) : okDf a.compl = true := by
  simp only [okDf, Df.compl, Bool.and_eq_true, decide_eq_true_eq, List.length_map] at h ⊢
  exact h
theorem compl_fin {a : Df} (h : okDf a = true) {q : Int} (hq : a.st q) : a.compl.fin q = !a.fin q := by
  obtain ⟨n1, n2, n3⟩ := okDf_len h
  have h1 := hq.1
  have h2 := hq.2
  have hl : q.toNat < a.ends.length := by omega
  simp [Df.fin, Df.compl, List.getD_eq_getElem?_getD, hl]
theorem compl_lang {a : Df} (h : okDf a = true) : ∀ (w : List Int) {q : Int}, a.st q → l3 w → a.compl.lang q w = !a.lang q w
  | [], q, hq, _ => compl_fin h hq
  | c :: w, q, hq, hw => by
    rw [l3_cons] at hw
    exact compl_lang h w (q := a.go q c) (go_st h hq hw.1) hw.2
theorem compl_canon {m : Df} (h : Canon m) : Canon m.compl := by
  refine ⟨compl_ok h.ok, h.order, fun q r hq hr hs => h.apart q r hq hr fun w hw => ?_⟩
  have := hs w hw
  rw [compl_lang h.ok w hq hw, compl_lang h.ok w hr hw] at this
  exact Bool.not_inj this

/-- The smallest automaton for the other words. -/
def OtherIs (a x : Df) : Prop := (okDf a = true ∧ IsMin a.compl x) ∨ (okDf a = false ∧ x = ⟨[], []⟩)
theorem OtherIs.uniq {a x y : Df} (h : OtherIs a x) (h' : OtherIs a y) : x = y := by
  rcases h with ⟨h1, h2⟩ | ⟨h1, rfl⟩ <;> rcases h' with ⟨g1, g2⟩ | ⟨g1, rfl⟩
  · exact h2.uniq g2 (Same.refl _)
  · rw [h1] at g1; cases g1
  · rw [h1] at g1; cases g1
  · rfl
theorem OtherIs.lang {a x : Df} (ha : okDf a = true) (h : OtherIs a x) : Canon x ∧ Same (x.lang 0) (fun w => !a.lang 0 w) := by
  rcases h with ⟨_, h2⟩ | ⟨h1, _⟩
  · exact ⟨h2.1, h2.2.trans fun w hw => compl_lang ha w (st0 ha) hw⟩
  · rw [ha] at h1; cases h1
theorem OtherIs.fine {a x : Df} (h : OtherIs a x) : x.fine := by
  rcases h with ⟨_, h2⟩ | ⟨_, rfl⟩
  · exact fine_of_okDf h2.1.ok
  · exact ⟨by simp, by simp, by simp⟩
/-- As many states as the smallest automaton. -/
theorem OtherIs.size {a x m : Df} (ha : okDf a = true) (h : OtherIs a x) (hm : IsMin a m) : x = m.compl := by
  obtain ⟨h1, h2⟩ := h.lang ha
  refine h1.uniq (compl_canon hm.1) (h2.trans fun w hw => ?_)
  rw [compl_lang hm.1.ok w (st0 hm.1.ok) hw, hm.2 w hw]
theorem OtherIs.twice {a x y m : Df} (ha : okDf a = true) (h : OtherIs a x) (h' : OtherIs x y) (hm : IsMin a m) : y = m := by
  obtain ⟨h1, h2⟩ := h.lang ha
  obtain ⟨g1, g2⟩ := h'.lang h1.ok
  refine g1.uniq hm.1 (g2.trans fun w hw => ?_)
  have e := h2 w hw
  have e2 := hm.2 w hw
  show (!x.lang 0 w) = _
  rw [e, e2]; simp

set_option maxRecDepth 100000 in
theorem c_other (a : Df) (h : okDf a = true) : DCalls Try.prog 90 [.d a.d] fun y => y = a.compl.d := by
  refine dcalls_intro Ty.mixed Try.func90 rfl rfl rfl [1] (by kernel_rfl) (by simp) ?_
  obtain ⟨n1, n2, n3⟩ := okDf_len h
  simp [Df.d]
  refine LoopVC.wk (Wk.adoptBx 300 1 901 1 (cs := [.d (rowsD a.next), .nl]) (by simp) rfl (by simp)) ?_
  refine LoopVC.at { i : Nat // i ≤ a.ends.length } (fun i => [(1, dpA a), (2, .ptr 200 0), (3, .ptr 300 0), (10, .d (bsD a.ends)), (11, iA a.ends.length), (12, iA i.1)]) (fun i => [(200, .bx [.nl, .nl]), (300, .bx [.d (rowsD a.next), .sl 1 901 0 i.1]), (901, .ar 1 ((a.ends.take i.1).map fun b => bD (!b)))]) [200, 300, 901] (fun i => a.ends.length - i.1) ⟨0, by omega⟩ (by simp) (by simp) ?_
  rintro ⟨i, hi⟩
  rcases Nat.lt_or_ge i a.ends.length with h' | h'
  · obtain ⟨x, b1⟩ : ∃ x, a.ends[i]? = some x := ⟨_, List.getElem?_eq_getElem h'⟩
    have b2 : ∀ h, a.ends[i]'h = x := fun h => (List.getElem?_eq_some_iff.1 b1).2
    have hm : min i a.ends.length = i := by omega
    simp [h', b1, b2, hm]
    refine ⟨by omega, i + 1, .mk ?_ ?_, by omega, by omega⟩
    · simp; exact wrap64 (by omega) (by omega)
    · simp [List.take_add_one, b1]
  · have : i = a.ends.length := by omega
    subst this
    simp [Df.compl, Df.d]
    rw [List.take_of_length_le (by simp)]; rfl
theorem c_DfaOther (a : Df) (hf : a.fine) : DCalls Try.prog 37 [.d a.d] fun r => ∃ x : Df, r = x.d ∧ OtherIs a x := by
  refine dcalls_intro Ty.mixed Try.func37 rfl rfl rfl [1] (by kernel_rfl) (by simp) ?_
  simp [Df.d]
  refine .dval (c_DfaValid a hf) rfl (by simp [Df.d]) rfl ?_
  simp
  refine ⟨fun hno => ⟨⟨[], []⟩, ⟨rfl, rfl⟩, .inr ⟨hno, rfl⟩⟩, fun hok => ?_⟩
  refine .ddat (c_other a hok) rfl (by simp [Df.d]) ?_
  rintro _ rfl
  have ho := compl_ok hok
  have hO : ∀ x, IsMin a.compl x → OtherIs a x := fun x hx => .inl ⟨hok, hx⟩
  generalize a.compl = A at *
  simp [Df.d]
  refine .ddat (c_minimize A ho) rfl (by simp [Df.d]) ?_
  rintro _ ⟨x, rfl, hx⟩
  simp [Df.d]
  exact ⟨x, ⟨rfl, rfl⟩, hO x hx⟩
end Go.Fw
