/- Chains of rewriters: the laws in plain Lean. -/
import Derived.Test.YtfiipgebdcbknaaMo
set_option linter.unusedSimpArgs false
set_option linter.unusedVariables false
namespace Go.Fw
open Go Go.Proofs
set_option linter.unnecessarySimpa false

theorem fine_of_ok {r : Rw} (h : okRw r = true) : r.fine := by
  obtain ⟨n1, n2, n3, n4⟩ := okRw_len h
  refine ⟨fun xs hx => ?_, fun x hx => ?_, fun x hx => ?_, by omega⟩
  · obtain ⟨k, hk, rfl⟩ := List.mem_iff_getElem.1 hx
    have hr := okRw_row h (k := k) (by omega)
    rw [← (getD_row (xs := r.out) (i := k) [] hk).2 hk] at hr
    refine ⟨by omega, fun x hx => ?_⟩
    have := (isOut_l (hr.2.2.2.2 x hx)).2
    omega
  · obtain ⟨k, hk, rfl⟩ := List.mem_iff_getElem.1 hx
    have hr := okRw_row h (k := k) (by omega)
    rw [← (getD_row (xs := r.fin) (i := k) [] hk).2 hk] at hr
    have := (isOut_l hr.2.2.1).2
    omega
  · obtain ⟨k, hk, rfl⟩ := List.mem_iff_getElem.1 hx
    have hr := okRw_row h (k := k) (by omega)
    rw [← (getD_row (xs := r.next) (i := k) [] hk).2 hk] at hr
    omega
theorem zeroRw_fine : zeroRw.fine := ⟨by simp [zeroRw], by simp [zeroRw], by simp [zeroRw], by simp [zeroRw]⟩
theorem zeroRw_no : okRw zeroRw = false := by decide
theorem ChainIs.fine {a b R : Rw} {ok : Bool} (h : ChainIs a b R ok) : R.fine := by
  rcases h with ⟨_, rfl, _⟩ | ⟨_, ⟨k, _, _, ⟨g, rfl, _⟩ | ⟨_, rfl, _⟩⟩ | ⟨_, _, rfl, _⟩⟩
  · exact zeroRw_fine
  · exact fine_of_ok g
  · exact zeroRw_fine
  · exact zeroRw_fine
theorem ChainIs.no {a b R : Rw} (h : ChainIs a b R false) : R = zeroRw := by
  rcases h with ⟨_, rfl, _⟩ | ⟨_, ⟨k, _, _, ⟨g, rfl, e⟩ | ⟨_, rfl, _⟩⟩ | ⟨_, _, rfl, _⟩⟩
  · rfl
  · cases e
  · rfl
  · rfl
theorem ChainIs.cases {a b R : Rw} {ok : Bool} (h : ChainIs a b R ok) : R = zeroRw ∨ okRw R = true := by
  cases ok with
  | false => exact .inl h.no
  | true => exact .inr h.good.2.2.1
theorem textOk_of {s : List UInt8} : textOk s = true ↔ s.all isL = true ∧ s.length ≤ 30 := by
  simp only [textOk, lettersOk, Bool.and_eq_true, decide_eq_true_eq]
  constructor
  · rintro ⟨h1, h2⟩; exact ⟨h1, by omega⟩
  · rintro ⟨h1, h2⟩; exact ⟨h1, by omega⟩
theorem rewrite_ok {r : Rw} {s : List UInt8} (h : okRw r = true) (hs : textOk s = true) : rewrite r s = r.text 0 s := by rw [rewrite_text, h, hs]; rfl
theorem rewrite_no {r : Rw} {s : List UInt8} (hs : textOk s = false) : rewrite r s = [] := by rw [rewrite_text, hs]; simp
theorem chain_law {a b R : Rw} (h : ChainIs a b R true) {s : List UInt8} (hs : textOk s = true) (hm : (rewrite a s).length ≤ 30) : rewrite R s = rewrite b (rewrite a s) := by
  obtain ⟨ha, hb, hR, _, e⟩ := h.good
  have hl := (textOk_of.1 hs).1
  rw [rewrite_ok hR hs, e s hl]
  rw [rewrite_ok ha hs] at hm ⊢
  rw [rewrite_ok hb (textOk_of.2 ⟨text_letters ha (st0Rw ha) hl, hm⟩)]
theorem chain_three {a b c x y p q : Rw} (hx : ChainIs a b x true) (hy : ChainIs b c y true) (hp : ChainIs x c p true) (hq : ChainIs a y q true) (s : List UInt8) : rewrite p s = rewrite q s := by
  cases hs : textOk s with
  | false => rw [rewrite_no hs, rewrite_no hs]
  | true =>
    have hl := (textOk_of.1 hs).1
    have ha := hx.good.1
    rw [rewrite_ok hp.good.2.2.1 hs, rewrite_ok hq.good.2.2.1 hs, hp.good.2.2.2.2 s hl, hq.good.2.2.2.2 s hl, hx.good.2.2.2.2 s hl, hy.good.2.2.2.2 _ (text_letters ha (st0Rw ha) hl)]
theorem chain_copy_r {r R : Rw} (h : ChainIs r copyRw R true) (s : List UInt8) : rewrite R s = rewrite r s := by
  cases hs : textOk s with
  | false => rw [rewrite_no hs, rewrite_no hs]
  | true => rw [rewrite_ok h.good.2.2.1 hs, rewrite_ok h.good.1 hs, h.copy_rt (textOk_of.1 hs).1]
theorem chain_copy_l {r R : Rw} (h : ChainIs copyRw r R true) (s : List UInt8) : rewrite R s = rewrite r s := by
  cases hs : textOk s with
  | false => rw [rewrite_no hs, rewrite_no hs]
  | true => rw [rewrite_ok h.good.2.2.1 hs, rewrite_ok h.good.2.1 hs, h.copy_lt (textOk_of.1 hs).1]
/-- What is written for a pair is short. -/
theorem pair_lens {a b : Rw} (ha : okRw a = true) (hb : okRw b = true) {s : Pr} (hs : okPr a b s) : (∀ c, 0 ≤ c ∧ c < 3 → (runRw b s.b (a.o s.a c)).2.length ≤ 16) ∧ (finC a b s).length ≤ 20 := by
  refine ⟨fun c hc => ?_, ?_⟩
  · have h1 := isOut_l (okRw_o ha hs.1 hc)
    have := (runRw_letters hb hs.2 h1.1).2.2
    omega
  · have h1 := isOut_l (okRw_f ha hs.1)
    have h2 := runRw_letters hb hs.2 h1.1
    have h3 := (isOut_l (okRw_f hb h2.1)).2
    unfold finC Rw.text
    rw [List.length_append]
    omega
theorem chain_fineL {a b : Rw} (ha : okRw a = true) (hb : okRw b = true) {L : List Pr} (hok : ∀ s ∈ L, okPr a b s) (hl : L.length ≤ 1000) : (chainRw a b L).fine := by
  refine ⟨fun xs hx => ?_, fun x hx => ?_, fun x hx => ?_, by rw [chain_len]; omega⟩
  · simp only [chainRw, List.mem_map] at hx
    obtain ⟨s, hs, rfl⟩ := hx
    have := (pair_lens ha hb (hok s hs)).1
    refine ⟨by simp [outC], fun x hx => ?_⟩
    simp only [outC, List.mem_cons, List.not_mem_nil, or_false] at hx
    have h0 := this 0 (by omega)
    have h1 := this 1 (by omega)
    have h2 := this 2 (by omega)
    rcases hx with rfl | rfl | rfl <;> omega
  · simp only [chainRw, List.mem_map] at hx
    obtain ⟨s, hs, rfl⟩ := hx
    have := (pair_lens ha hb (hok s hs)).2
    omega
  · simp only [chainRw, List.mem_map] at hx
    obtain ⟨s, hs, rfl⟩ := hx
    simp [rowL, suc]
end Go.Fw
