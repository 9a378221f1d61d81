/- Chains with the rewriter that copies, in plain Lean. -/
import Derived.Test.YtfiipgebdcbknaaMn
import Derived.Test.YtfiipgebdcbknaaLk
set_option linter.unusedSimpArgs false
set_option linter.unusedVariables false
namespace Go.Fw
open Go Go.Proofs
set_option linter.unnecessarySimpa false

theorem chain_ok {a b : Rw} {L : List Pr} (hL : Whole (nxC a b) ⟨0, 0⟩ L) (h12 : L.length ≤ 12) (ho : ∀ s ∈ L, ∀ c, 0 ≤ c ∧ c < 3 → isOut (runRw b s.b (a.o s.a c)).2 = true) (hf : ∀ s ∈ L, isOut (finC a b s) = true) : okRw (chainRw a b L) = true := by
  have hpos : 0 < L.length := by
    rcases Nat.eq_zero_or_pos L.length with h | h
    · have := hL.head; rw [List.getElem?_eq_none (by omega)] at this; cases this
    · exact h
  simp only [okRw, Bool.and_eq_true, decide_eq_true_eq, List.all_eq_true, List.mem_range, chain_len]
  refine ⟨⟨⟨by simp [inR]; omega, by simp [chainRw]⟩, by simp [chainRw]⟩, fun k hk => ?_⟩
  obtain ⟨s, hs⟩ : ∃ s, L[k]? = some s := ⟨_, List.getElem?_eq_getElem hk⟩
  have hm := List.mem_of_getElem? hs
  have e1 : (chainRw a b L).next.getD k [] = rowL (nxC a b) L s := by simp [chainRw, hs]
  have e2 : (chainRw a b L).out.getD k [] = outC a b s := by simp [chainRw, hs]
  have e3 : (chainRw a b L).fin.getD k [] = finC a b s := by simp [chainRw, hs]
  rw [e1, e2, e3]
  simp only [rowOk, Bool.and_eq_true, List.all_eq_true, decide_eq_true_eq]
  refine ⟨⟨⟨⟨by simp [rowL, suc], by simp [outC]⟩, hf s hm⟩, fun t ht => ?_⟩, fun t ht => ?_⟩
  · simp only [rowL, List.mem_map] at ht
    obtain ⟨u, hu, rfl⟩ := ht
    have := List.idxOf_lt_length_of_mem (hL.suc s hm u hu)
    simp [inR]; omega
  · simp only [outC, List.mem_cons, List.not_mem_nil, or_false] at ht
    rcases ht with rfl | rfl | rfl
    · exact ho s hm 0 (by omega)
    · exact ho s hm 1 (by omega)
    · exact ho s hm 2 (by omega)

theorem copy_f (q : Int) : copyRw.f q = [] := by
  unfold Rw.f copyRw
  generalize q.toNat = n
  cases n with
  | zero => rfl
  | succ n => rfl
theorem copy_st {q : Int} (h : copyRw.st q) : q = 0 := by
  obtain ⟨h1, h2⟩ := h
  have : copyRw.next.length = 1 := rfl
  omega
theorem copy_text {s : List UInt8} (h : s.all isL = true) : copyRw.text 0 s = s := by
  rw [Rw.text, copyRw_run h, copy_f]; simp
/-- Behind, and before. -/
theorem ChainIs.copy_r {r R : Rw} {ok : Bool} (h : ChainIs r copyRw R ok) : ok = okRw r := by
  rcases h with ⟨v, rfl, rfl⟩ | ⟨⟨ha, hb⟩, h⟩
  · cases hr : okRw r with
    | false => rfl
    | true => exact absurd ⟨hr, copyRw_ok⟩ v
  · rw [ha]
    obtain ⟨n1, n2, _, _⟩ := okRw_len ha
    have hb1 : ∀ k, (metK (nxC r copyRw) ⟨0, 0⟩ k).length ≤ r.next.length * 1 := fun k => pairs_bound (metK_nodup k) (met_okPr ha hb k)
    rcases h with ⟨k, h1, h2, h3⟩ | ⟨k, h1, _, _⟩
    · rcases h3 with ⟨g, rfl, rfl⟩ | ⟨g, rfl, rfl⟩
      · rfl
      · have hok := met_okPr ha hb k
        rw [chain_ok (metK_whole h1) h2 (fun s hs c hc => ?_) (fun s hs => ?_)] at g
        · cases g
        · rw [copy_st (hok s hs).2, copyRw_run (isOut_l (okRw_o ha (hok s hs).1 hc)).1]
          exact okRw_o ha (hok s hs).1 hc
        · unfold finC
          rw [copy_st (hok s hs).2, copy_text (isOut_l (okRw_f ha (hok s hs).1)).1]
          exact okRw_f ha (hok s hs).1
    · have := hb1 k; omega
theorem copy_o : copyRw.o 0 0 = [97] ∧ copyRw.o 0 1 = [98] ∧ copyRw.o 0 2 = [99] := ⟨rfl, rfl, rfl⟩
theorem run_one (r : Rw) (q : Int) (b : UInt8) : runRw r q [b] = (r.n q (ltr b), r.o q (ltr b)) := by rw [runRw_cons, runRw_nil]; simp
theorem ChainIs.copy_l {r R : Rw} {ok : Bool} (h : ChainIs copyRw r R ok) : ok = okRw r := by
  rcases h with ⟨v, rfl, rfl⟩ | ⟨⟨ha, hb⟩, h⟩
  · cases hr : okRw r with
    | false => rfl
    | true => exact absurd ⟨copyRw_ok, hr⟩ v
  · rw [hb]
    obtain ⟨n1, n2, _, _⟩ := okRw_len hb
    have hb1 : ∀ k, (metK (nxC copyRw r) ⟨0, 0⟩ k).length ≤ 1 * r.next.length := fun k => pairs_bound (metK_nodup k) (met_okPr ha hb k)
    rcases h with ⟨k, h1, h2, h3⟩ | ⟨k, h1, _, _⟩
    · rcases h3 with ⟨g, rfl, rfl⟩ | ⟨g, rfl, rfl⟩
      · rfl
      · have hok := met_okPr ha hb k
        rw [chain_ok (metK_whole h1) h2 (fun s hs c hc => ?_) (fun s hs => ?_)] at g
        · cases g
        · rw [copy_st (hok s hs).1]
          obtain ⟨o0, o1, o2⟩ := copy_o
          rcases letter3 hc with h | h | h <;> subst h
          · rw [o0, run_one]; exact okRw_o hb (hok s hs).2 (by decide)
          · rw [o1, run_one]; exact okRw_o hb (hok s hs).2 (by decide)
          · rw [o2, run_one]; exact okRw_o hb (hok s hs).2 (by decide)
        · unfold finC
          rw [copy_f, text_nil]
          exact okRw_f hb (hok s hs).2
    · have := hb1 k; omega
theorem ChainIs.copy_rt {r R : Rw} (h : ChainIs r copyRw R true) {t : List UInt8} (ht : t.all isL = true) : R.text 0 t = r.text 0 t := by
  obtain ⟨ha, hb, _, _, e⟩ := h.good
  rw [e t ht, copy_text (text_letters ha (st0Rw ha) ht)]
theorem ChainIs.copy_lt {r R : Rw} (h : ChainIs copyRw r R true) {t : List UInt8} (ht : t.all isL = true) : R.text 0 t = r.text 0 t := by
  obtain ⟨ha, hb, _, _, e⟩ := h.good
  rw [e t ht, copy_text ht]
end Go.Fw
