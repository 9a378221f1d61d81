/- The framework, part Chn. -/
import Derived.Test.YteenfgdemklhcaaMn
import Derived.Test.YteenfgdemklhcaaLk
set_option linter.unusedSimpArgs false
set_option linter.unusedVariables false
/- Chains with the rewriter that copies, in plain Lean. -/
namespace Go.Fw
open Go Go.Proofs
set_option linter.unnecessarySimpa false

theorem chain_ok {a b : Rw} {L : List Pr} (hL : Whole (nxC a b) ⟨0, 0⟩ L) (h12 : L.length ≤ 12) (ho : ∀ s ∈ L, ∀ c, 0 ≤ c ∧ c < 3 → isOut (runRw b s.b (a.o s.a c)).2 = true) (hf : ∀ s ∈ L, isOut (finC a b s) = true) : okRw (chainRw a b L) = true := by
  have hpos : 0 < L.length := by
    rcases Nat.eq_zero_or_pos L.length with h | h
    · have := hL.head; rw [List.getElem?_eq_none (by omega)] at this; cases this
    · exact h
  simp only [okRw, Bool.and_eq_true, decide_eq_true_eq, List.all_eq_true, List.mem_range, chain_len]
  refine ⟨⟨⟨by simp [inR]; omega, by simp [chainRw]⟩, by simp [chainRw]⟩, fun k hk => ?_⟩
  obtain ⟨s, hs⟩ : ∃ s, L[k]? = some s := ⟨_, List.getElem?_eq_getElem hk⟩
  have hm := List.mem_of_getElem? hs
  have e1 : (chainRw a b L).next.getD k [] = rowL (nxC a b) L s := by simp [chainRw, hs]
  have e2 : (chainRw a b L).out.getD k [] = outC a b s := by simp [chainRw, hs]
  have e3 : (chainRw a b L).fin.getD k [] = finC a b s := by simp [chainRw, hs]
  rw [e1, e2, e3]
  simp only [rowOk, Bool.and_eq_true, List.all_eq_true, decide_eq_true_eq]
  refine ⟨⟨⟨⟨by simp [rowL, suc], by simp [outC]⟩, hf s hm⟩, fun t ht => ?_⟩, fun t ht => ?_⟩
  · simp only [rowL, List.mem_map] at ht
    obtain ⟨u, hu, rfl⟩ := ht
    have := List.idxOf_lt_length_of_mem (hL.suc s hm u hu)
    simp [inR]; omega
  · simp only [outC, List.mem_cons, List.not_mem_nil, or_false] at ht
    rcases ht with rfl | rfl | rfl
    · exact ho s hm 0 (by omega)
    · exact ho s hm 1 (by omega)
    · exact ho s hm 2 (by omega)

theorem copy_f (q : Int) : copyRw.f q = [] := by
  unfold Rw.f copyRw
  generalize q.toNat = n
  cases n with
  | zero => rfl
  | succ n => rfl
theorem copy_st {q : Int} (h : copyRw.st q) : q = 0 := by
  obtain ⟨h1, h2⟩ := h
  have : copyRw.next.length = 1 := rfl
  omega
theorem copy_text {s : List UInt8} (h : s.all isL = true) : copyRw.text 0 s = s := by
  rw [Rw.text, copyRw_run h, copy_f]; simp
/-- Behind, and before. -/
theorem ChainIs.copy_r {r R : Rw} {ok : Bool} (h : ChainIs r copyRw R ok) : ok = okRw r := by
  rcases h with ⟨v, rfl, rfl⟩ | ⟨⟨ha, hb⟩, h⟩
  · cases hr : okRw r with
    | false => rfl
    | true => exact absurd ⟨hr, copyRw_ok⟩ v
  · rw [ha]
    obtain ⟨n1, n2, _, _⟩ := okRw_len ha
    have hb1 : ∀ k, (metK (nxC r copyRw) ⟨0, 0⟩ k).length ≤ r.next.length * 1 := fun k => pairs_bound (metK_nodup k) (met_okPr ha hb k)
    rcases h with ⟨k, h1, h2, h3⟩ | ⟨k, h1, _, _⟩
    · rcases h3 with ⟨g, rfl, rfl⟩ | ⟨g, rfl, rfl⟩
      · rfl
      · have hok := met_okPr ha hb k
        rw [chain_ok (metK_whole h1) h2 (fun s hs c hc => ?_) (fun s hs => ?_)] at g
        · cases g
        · rw [copy_st (hok s hs).2, copyRw_run (isOut_l (okRw_o ha (hok s hs).1 hc)).1]
          exact okRw_o ha (hok s hs).1 hc
        · unfold finC
          rw [copy_st (hok s hs).2, copy_text (isOut_l (okRw_f ha (hok s hs).1)).1]
          exact okRw_f ha (hok s hs).1
    · have := hb1 k; omega
theorem copy_o : copyRw.o 0 0 = [97] ∧ copyRw.o 0 1 = [98] ∧ copyRw.o 0 2 = [99] := ⟨rfl, rfl, rfl⟩
theorem run_one (r : Rw) (q : Int) (b : UInt8) : runRw r q [b] = (r.n q (ltr b), r.o q (ltr b)) := by rw [runRw_cons, runRw_nil]; simp
theorem ChainIs.copy_l {r R : Rw} {ok : Bool} (h : ChainIs copyRw r R ok) : ok = okRw r := by
  rcases h with ⟨v, rfl, rfl⟩ | ⟨⟨ha, hb⟩, h⟩
  · cases hr : okRw r with
    | false => rfl
    | true => exact absurd ⟨copyRw_ok, hr⟩ v
  · rw [hb]
    obtain ⟨n1, n2, _, _⟩ := okRw_len hb
    have hb1 : ∀ k, (metK (nxC copyRw r) ⟨0, 0⟩ k).length ≤ 1 * r.next.length := fun k => pairs_bound (metK_nodup k) (met_okPr ha hb k)
    rcases h with ⟨k, h1, h2, h3⟩ | ⟨k, h1, _, _⟩
    · rcases h3 with ⟨g, rfl, rfl⟩ | ⟨g, rfl, rfl⟩
      · rfl
      · have hok := met_okPr ha hb k
        rw [chain_ok (metK_whole h1) h2 (fun s hs c hc => ?_) (fun s hs => ?_)] at g
        · cases g
        · rw [copy_st (hok s hs).1]
          obtain ⟨o0, o1, o2⟩ := copy_o
          rcases letter3 hc with h | h | h <;> subst h
          · rw [o0, run_one]; exact okRw_o hb (hok s hs).2 (by decide)
          · rw [o1, run_one]; exact okRw_o hb (hok s hs).2 (by decide)
          · rw [o2, run_one]; exact okRw_o hb (hok s hs).2 (by decide)
        · unfold finC
          rw [copy_f, text_nil]
          exact okRw_f hb (hok s hs).2
    · have := hb1 k; omega
theorem ChainIs.copy_rt {r R : Rw} (h : ChainIs r copyRw R true) {t : List UInt8} (ht : t.all isL = true) : R.text 0 t = r.text 0 t := by
  obtain ⟨ha, hb, _, _, e⟩ := h.good
  rw [e t ht, copy_text (text_letters ha (st0Rw ha) ht)]
theorem ChainIs.copy_lt {r R : Rw} (h : ChainIs copyRw r R true) {t : List UInt8} (ht : t.all isL = true) : R.text 0 t = r.text 0 t := by
  obtain ⟨ha, hb, _, _, e⟩ := h.good
  rw [e t ht, copy_text ht]
end Go.Fw

/- Chains of rewriters: the laws in plain Lean. -/
namespace Go.Fw
open Go Go.Proofs
set_option linter.unnecessarySimpa false

theorem fine_of_ok {r : Rw} (h : okRw r = true) : r.fine := by
  obtain ⟨n1, n2, n3, n4⟩ := okRw_len h
  refine ⟨fun xs hx => ?_, fun x hx => ?_, fun x hx => ?_, by omega⟩
  · obtain ⟨k, hk, rfl⟩ := List.mem_iff_getElem.1 hx
    have hr := okRw_row h (k := k) (by omega)
    rw [← (getD_row (xs := r.out) (i := k) [] hk).2 hk] at hr
    refine ⟨by omega, fun x hx => ?_⟩
    have := (isOut_l (hr.2.2.2.2 x hx)).2
    omega
  · obtain ⟨k, hk, rfl⟩ := List.mem_iff_getElem.1 hx
    have hr := okRw_row h (k := k) (by omega)
    rw [← (getD_row (xs := r.fin) (i := k) [] hk).2 hk] at hr
    have := (isOut_l hr.2.2.1).2
    omega
  · obtain ⟨k, hk, rfl⟩ := List.mem_iff_getElem.1 hx
    have hr := okRw_row h (k := k) (by omega)
    rw [← (getD_row (xs := r.next) (i := k) [] hk).2 hk] at hr
    omega
theorem zeroRw_fine : zeroRw.fine := ⟨by simp [zeroRw], by simp [zeroRw], by simp [zeroRw], by simp [zeroRw]⟩
theorem zeroRw_no : okRw zeroRw = false := by decide
theorem ChainIs.fine {a b R : Rw} {ok : Bool} (h : ChainIs a b R ok) : R.fine := by
  rcases h with ⟨_, rfl, _⟩ | ⟨_, ⟨k, _, _, ⟨g, rfl, _⟩ | ⟨_, rfl, _⟩⟩ | ⟨_, _, rfl, _⟩⟩
  · exact zeroRw_fine
  · exact fine_of_ok g
  · exact zeroRw_fine
  · exact zeroRw_fine
theorem ChainIs.no {a b R : Rw} (h : ChainIs a b R false) : R = zeroRw := by
  rcases h with ⟨_, rfl, _⟩ | ⟨_, ⟨k, _, _, ⟨g, rfl, e⟩ | ⟨_, rfl, _⟩⟩ | ⟨_, _, rfl, _⟩⟩
  · rfl
  · cases e
  · rfl
  · rfl
theorem ChainIs.cases {a b R : Rw} {ok : Bool} (h : ChainIs a b R ok) : R = zeroRw ∨ okRw R = true := by
  cases ok with
  | false => exact .inl h.no
  | true => exact .inr h.good.2.2.1
theorem textOk_of {s : List UInt8} : textOk s = true ↔ s.all isL = true ∧ s.length ≤ 30 := by
  simp only [textOk, lettersOk, Bool.and_eq_true, decide_eq_true_eq]
  constructor
  · rintro ⟨h1, h2⟩; exact ⟨h1, by omega⟩
  · rintro ⟨h1, h2⟩; exact ⟨h1, by omega⟩
theorem rewrite_ok {r : Rw} {s : List UInt8} (h : okRw r = true) (hs : textOk s = true) : rewrite r s = r.text 0 s := by rw [rewrite_text, h, hs]; rfl
theorem rewrite_no {r : Rw} {s : List UInt8} (hs : textOk s = false) : rewrite r s = [] := by rw [rewrite_text, hs]; simp
theorem chain_law {a b R : Rw} (h : ChainIs a b R true) {s : List UInt8} (hs : textOk s = true) (hm : (rewrite a s).length ≤ 30) : rewrite R s = rewrite b (rewrite a s) := by
  obtain ⟨ha, hb, hR, _, e⟩ := h.good
  have hl := (textOk_of.1 hs).1
  rw [rewrite_ok hR hs, e s hl]
  rw [rewrite_ok ha hs] at hm ⊢
  rw [rewrite_ok hb (textOk_of.2 ⟨text_letters ha (st0Rw ha) hl, hm⟩)]
theorem chain_three {a b c x y p q : Rw} (hx : ChainIs a b x true) (hy : ChainIs b c y true) (hp : ChainIs x c p true) (hq : ChainIs a y q true) (s : List UInt8) : rewrite p s = rewrite q s := by
  cases hs : textOk s with
  | false => rw [rewrite_no hs, rewrite_no hs]
  | true =>
    have hl := (textOk_of.1 hs).1
    have ha := hx.good.1
    rw [rewrite_ok hp.good.2.2.1 hs, rewrite_ok hq.good.2.2.1 hs, hp.good.2.2.2.2 s hl, hq.good.2.2.2.2 s hl, hx.good.2.2.2.2 s hl, hy.good.2.2.2.2 _ (text_letters ha (st0Rw ha) hl)]
theorem chain_copy_r {r R : Rw} (h : ChainIs r copyRw R true) (s : List UInt8) : rewrite R s = rewrite r s := by
  cases hs : textOk s with
  | false => rw [rewrite_no hs, rewrite_no hs]
  | true => rw [rewrite_ok h.good.2.2.1 hs, rewrite_ok h.good.1 hs, h.copy_rt (textOk_of.1 hs).1]
theorem chain_copy_l {r R : Rw} (h : ChainIs copyRw r R true) (s : List UInt8) : rewrite R s = rewrite r s := by
  cases hs : textOk s with
  | false => rw [rewrite_no hs, rewrite_no hs]
  | true => rw [rewrite_ok h.good.2.2.1 hs, rewrite_ok h.good.2.1 hs, h.copy_lt (textOk_of.1 hs).1]
/-- What is written for a pair is short. -/
theorem pair_lens {a b : Rw} (ha : okRw a = true) (hb : okRw b = true) {s : Pr} (hs : okPr a b s) : (∀ c, 0 ≤ c ∧ c < 3 → (runRw b s.b (a.o s.a c)).2.length ≤ 16) ∧ (finC a b s).length ≤ 20 := by
  refine ⟨fun c hc => ?_, ?_⟩
  · have h1 := isOut_l (okRw_o ha hs.1 hc)
    have := (runRw_letters hb hs.2 h1.1).2.2
    omega
  · have h1 := isOut_l (okRw_f ha hs.1)
    have h2 := runRw_letters hb hs.2 h1.1
    have h3 := (isOut_l (okRw_f hb h2.1)).2
    unfold finC Rw.text
    rw [List.length_append]
    omega
theorem chain_fineL {a b : Rw} (ha : okRw a = true) (hb : okRw b = true) {L : List Pr} (hok : ∀ s ∈ L, okPr a b s) (hl : L.length ≤ 1000) : (chainRw a b L).fine := by
  refine ⟨fun xs hx => ?_, fun x hx => ?_, fun x hx => ?_, by rw [chain_len]; omega⟩
  · simp only [chainRw, List.mem_map] at hx
    obtain ⟨s, hs, rfl⟩ := hx
    have := (pair_lens ha hb (hok s hs)).1
    refine ⟨by simp [outC], fun x hx => ?_⟩
    simp only [outC, List.mem_cons, List.not_mem_nil, or_false] at hx
    have h0 := this 0 (by omega)
    have h1 := this 1 (by omega)
    have h2 := this 2 (by omega)
    rcases hx with rfl | rfl | rfl <;> omega
  · simp only [chainRw, List.mem_map] at hx
    obtain ⟨s, hs, rfl⟩ := hx
    have := (pair_lens ha hb (hok s hs)).2
    omega
  · simp only [chainRw, List.mem_map] at hx
    obtain ⟨s, hs, rfl⟩ := hx
    simp [rowL, suc]
end Go.Fw

/- One rewriter behind the other, as the program finds it. -/
namespace Go.Fw
open Go Go.Proofs
set_option linter.unusedSectionVars false
set_option linter.unnecessarySimpa false

abbrev rwP (r : Rw) : AV := .dp [.d (.list (r.next.map intsD)), .d (.list (r.out.map ssD)), .d (ssD r.fin)]

set_option maxRecDepth 100000 in
theorem c_chain1 (a b : Rw) (s : Pr) (c : Int) (ha : okRw a = true) (hb : okRw b = true) (hs : okPr a b s) (hc : 0 ≤ c ∧ c < 3) :
    DCalls Try.prog 47 [.d (pD s), iA c, rwP b, rwP a] fun y => y = pD (nxC a b s c) := by
  obtain ⟨⟨s1, s2⟩, s3, s4⟩ := hs
  obtain ⟨n1, n2, n3, n4⟩ := okRw_len ha
  have hol := isOut_l (okRw_o ha ⟨s1, s2⟩ hc)
  have hk : s.a.toNat < a.next.length := by omega
  obtain ⟨g1, g2, g3, g4, g5⟩ := okRw_row ha hk
  have a1 := getD_row (xs := a.next) (i := s.a.toNat) [] hk
  have a2 := getD_row (xs := a.out) (i := s.a.toNat) [] (by omega)
  have a3 := getD_row (xs := a.next.getD s.a.toNat []) (i := c.toNat) 0 (by omega)
  have a4 := getD_row (xs := a.out.getD s.a.toNat []) (i := c.toNat) [] (by omega)
  have ho : a.o s.a c = (a.out.getD s.a.toNat []).getD c.toNat [] := rfl
  have hn : a.n s.a c = (a.next.getD s.a.toNat []).getD c.toNat 0 := rfl
  rw [← hn] at a3
  rw [← ho] at a4
  have hx : nxC a b s c = ⟨a.n s.a c, (runRw b s.b (a.o s.a c)).1⟩ := rfl
  rw [hx]
  refine dcalls_intro Ty.mixed Try.func47 rfl rfl rfl [4] (by kernel_rfl) (by simp) ?_
  have hrun := c_rwRun b s.b (a.o s.a c) hb ⟨s3, s4⟩ hol.1 (by omega)
  generalize a.n s.a c = nv at *
  generalize a.o s.a c = ov at *
  generalize a.next.getD s.a.toNat [] = nx at *
  generalize a.out.getD s.a.toNat [] = ox at *
  have l2 : c.toNat < 3 := by omega
  simp [pD]
  refine .one (sch [.pur 0, .pur 1, .pur 2, .pur 3, .pur 4, .pur 5, .pur 6, .pur 7, .pur 8, .pur 9, .pur 10, .pur 11, .eff 12 [], .pur 13, .pur 14, .pur 15, .pur 16, .pur 17]) (by kernel_rfl) ?_
  simp [s1, s2, n3, a1, a2, a3, a4, g1, g2, hc, l2]
  refine .tdat hrun rfl (by simp [Rw.d]) ?_
  rintro _ rfl
  simp [s1, s2, n3, a1, a2, a3, a4, g1, g2, hc, l2]
theorem c_chain2 (s : Pr) : DCalls Try.prog 49 [.d (pD s)] fun y => y = .bool false := by
  refine dcalls_intro Ty.mixed Try.func49 rfl rfl rfl [1] (by kernel_rfl) (by simp) ?_
  simp [pD]
end Go.Fw

/- One rewriter behind the other, as the program finds it: the whole. -/
namespace Go.Fw
open Go Go.Proofs
set_option linter.unusedSectionVars false
set_option linter.unnecessarySimpa false

theorem outC_take (a b : Rw) (s : Pr) {c : Nat} (hc : c < 3) : (outC a b s).take (c + 1) = (outC a b s).take c ++ [(runRw b s.b (a.o s.a c)).2] := by
  match c, hc with
  | 0, _ => rfl
  | 1, _ => rfl
  | 2, _ => rfl
def ChainR (a b : Rw) (r : List D) : Prop := ∃ R ok, r = [R.d, .bool ok] ∧ ChainIs a b R ok
theorem chainR_no {a b : Rw} (h : ChainIs a b zeroRw false) : ChainR a b [.agg [.list [], .list [], .list []], .bool false] := ⟨zeroRw, false, rfl, h⟩
set_option maxRecDepth 100000 in
theorem c_ChainRewriters (a b : Rw) (hfa : a.fine) (hfb : b.fine) : TCalls Try.prog 16 [.d a.d, .d b.d] (ChainR a b) := by
  refine tcalls_intro Ty.mixed Try.func16 rfl rfl rfl [2, 3] (by kernel_rfl) (by simp) ?_
  simp [Rw.d]
  refine .dval (c_RewriterValid a hfa.out hfa.fin hfa.next hfa.len) rfl (by simp [Rw.d]) rfl ?_
  simp
  refine .flat (fun _ => c_RewriterValid b hfb.out hfb.fin hfb.next hfb.len) rfl (by simp [Rw.d]) rfl (by simp) ?_
  simp
  refine ⟨fun hno => chainR_no (.inl ⟨?_, rfl, rfl⟩), fun ha hb => ?_⟩
  · rintro ⟨h1, h2⟩
    rcases hno with h | h
    · rw [h1] at h; cases h
    · rw [h2] at h; cases h
  have hex := c_exploredPair ⟨0, 0⟩ 12 (by omega) (by omega) (nxC a b) (fun _ => false) (okPr a b) ⟨st0Rw ha, st0Rw hb⟩ (fun s c hs hc => okPr_step ha hb hs hc)
    (cloS Try.prog 47 [] [rwP b, rwP a]) (cloS Try.prog 49 [] [])
    (fun s c hs hc K hK => ⟨_, c_chain1 a b s c ha hb hs hc, by rintro r rfl; rfl, by rintro r rfl; exact hK⟩)
    (fun s hs K hK => ⟨_, c_chain2 s, by rintro r rfl; rfl, by rintro r rfl; exact hK⟩)
  refine .tdat hex rfl (by simp [Rw.d, pD]) ?_
  rintro _ (⟨k, e1, e2, rfl⟩ | ⟨k, e1, rfl⟩)
  · have hw := metK_whole e1
    have hok := met_okPr ha hb k
    have hC1 : okRw (chainRw a b (metK (nxC a b) ⟨0, 0⟩ k)) = true → ChainIs a b (chainRw a b (metK (nxC a b) ⟨0, 0⟩ k)) true := fun h => .inr ⟨⟨ha, hb⟩, .inl ⟨k, e1, e2, .inl ⟨h, rfl, rfl⟩⟩⟩
    have hC2 : okRw (chainRw a b (metK (nxC a b) ⟨0, 0⟩ k)) = false → ChainIs a b zeroRw false := fun h => .inr ⟨⟨ha, hb⟩, .inl ⟨k, e1, e2, .inr ⟨h, rfl, rfl⟩⟩⟩
    have hnx : (autoL (nxC a b) (fun _ => false) (metK (nxC a b) ⟨0, 0⟩ k)).next = (chainRw a b (metK (nxC a b) ⟨0, 0⟩ k)).next := rfl
    clear hex
    generalize metK (nxC a b) ⟨0, 0⟩ k = L at *
    simp [Df.d]
    rw [hnx]
    generalize hNX : (chainRw a b L).next = NX
    refine LoopVC.wk (Wk.adoptBx 900 1 2301 1 (cs := [.d (.list (NX.map intsD)), .nl, .nl]) (by simp) rfl (by simp)) ?_
    refine LoopVC.wk (Wk.adoptBx 900 2 2302 1 (cs := [.d (.list (NX.map intsD)), .sl 1 2301 0 0, .nl]) (by simp) rfl (by simp)) ?_
    refine LoopVC.at { j : Nat // j ≤ L.length } (fun j => [(2, rwP a), (3, rwP b), (4, .ptr 400 0), (9, .ptr 900 0), (40, .d (.list (L.map pD))), (41, iA L.length), (42, iA j.1)])
      (fun j => [(400, .bx [.nl, .nl, .nl]), (900, .bx [.d (.list (NX.map intsD)), .sl 1 2301 0 j.1, .sl 1 2302 0 j.1]), (2301, .ar 1 ((L.take j.1).map fun s => ssD (outC a b s))), (2302, .ar 1 ((L.take j.1).map fun s => sD (finC a b s)))]) [400, 900, 2301, 2302] (fun j => L.length - j.1) ⟨0, by simp⟩ (by simp) (by simp) ?_
    rintro ⟨j, hj⟩
    rcases Nat.lt_or_ge j L.length with hjL | hjL
    · obtain ⟨s, hsj⟩ : ∃ s, L[j]? = some s := ⟨_, List.getElem?_eq_getElem hjL⟩
      have hps := hok s (List.mem_of_getElem? hsj)
      have htk : L.take (j + 1) = L.take j ++ [s] := by rw [take_snoc hjL]; simp [List.getElem?_eq_getElem hjL] at hsj; rw [hsj]
      obtain ⟨hj1, hsk⟩ := List.getElem?_eq_some_iff.1 hsj
      simp [show (j : Int) < L.length by omega, hj1, hsk, pD]
      refine LoopVC.wk (Wk.adoptSl 12 4301 1 (by simp) (by simp)) ?_
      refine LoopVC.at { c : Nat // c ≤ 3 } (fun c => [(2, rwP a), (3, rwP b), (4, .ptr 400 0), (9, .ptr 900 0), (11, .ptr 1100 0), (12, .sl 1 4301 0 c.1), (40, .d (.list (L.map pD))), (41, iA L.length), (42, iA j), (46, iA c.1)])
        (fun c => [(400, .bx [.nl, .nl, .nl]), (900, .bx [.d (.list (NX.map intsD)), .sl 1 2301 0 j, .sl 1 2302 0 j]), (1100, .bx [iA s.a, iA s.b]), (2301, .ar 1 ((L.take j).map fun s => ssD (outC a b s))), (2302, .ar 1 ((L.take j).map fun s => sD (finC a b s))), (4301, .ar 1 (((outC a b s).take c.1).map sD))]) [400, 900, 1100, 2301, 2302, 4301] (fun c => 3 - c.1) ⟨0, by simp⟩ (by simp) (by simp [pD]) ?_
      rintro ⟨c, hc⟩
      obtain ⟨⟨s1, s2⟩, s3, s4⟩ := hps
      obtain ⟨n1, n2, n3, n4⟩ := okRw_len ha
      obtain ⟨m1, m2, m3, m4⟩ := okRw_len hb
      have hk : s.a.toNat < a.next.length := by omega
      obtain ⟨g1, g2, g3, g4, g5⟩ := okRw_row ha hk
      rcases Nat.lt_or_ge c 3 with hc3 | hc3
      · have hol := isOut_l (okRw_o ha (q := s.a) ⟨s1, s2⟩ (c := c) (by omega))
        have hrun := c_rwRun b s.b (a.o s.a c) hb ⟨s3, s4⟩ hol.1 (by omega)
        have hlen := (runRw_letters hb (q := s.b) ⟨s3, s4⟩ hol.1).2.2
        have hot := outC_take a b s hc3
        have a2 := getD_row (xs := a.out) (i := s.a.toNat) [] (by omega)
        have a4 := getD_row (xs := a.out.getD s.a.toNat []) (i := c) [] (by omega)
        have ho : a.o s.a c = (a.out.getD s.a.toNat []).getD c [] := rfl
        rw [← ho] at a4
        have htl : ((outC a b s).take c).length = c := by simp [outC]; omega
        generalize a.o s.a c = ov at *
        generalize a.out.getD s.a.toNat [] = ox at *
        simp [show (c : Int) < 3 by omega]
        refine .one (sch [.pur 0, .pur 1, .pur 2, .pur 3, .pur 4, .pur 5, .pur 6, .pur 7, .pur 8, .pur 9, .pur 10, .pur 11, .eff 12 [], .pur 13, .pur 14, .pur 15, .pur 16, .pur 17]) (by kernel_rfl) ?_
        have l3 : (c : Int) < 3 := by omega
        simp [s1, s2, n3, a2, a4, g2, hc3, l3]
        refine .tdat hrun rfl (by simp [Rw.d]) ?_
        rintro _ rfl
        simp [htl]
        have hol3 : (outC a b s).length = 3 := rfl
        have hotD : ((outC a b s).map sD).take (c + 1) = ((outC a b s).map sD).take c ++ [sD (runRw b s.b ov).2] := by
          rw [← List.map_take, hot]; simp
        refine ⟨⟨by omega, by omega, by omega⟩, c + 1, .mk ?_ ?_, hc3, by omega⟩
        · simp; exact wrap64 (by omega) (by omega)
        · simp [hotD]
      · have : c = 3 := by omega
        subst this
        have hol := isOut_l (okRw_f ha (q := s.a) ⟨s1, s2⟩)
        have hrun := c_rwRun b s.b (a.f s.a) hb ⟨s3, s4⟩ hol.1 (by omega)
        have hlet := runRw_letters hb (q := s.b) ⟨s3, s4⟩ hol.1
        have a5 := getD_row (xs := a.fin) (i := s.a.toNat) [] (by omega)
        have hf : a.f s.a = a.fin.getD s.a.toNat [] := rfl
        rw [← hf] at a5
        have hfc : finC a b s = (runRw b s.b (a.f s.a)).2 ++ b.f (runRw b s.b (a.f s.a)).1 := rfl
        have hb5 := isOut_l (okRw_f hb hlet.1)
        generalize a.f s.a = fv at *
        generalize runRw b s.b fv = rr at *
        obtain ⟨r1, r2⟩ := rr
        simp only at hlet hfc hb5
        obtain ⟨⟨t1, t2⟩, t3, t4⟩ := hlet
        have b5 := getD_row (xs := b.fin) (i := r1.toNat) [] (by omega)
        have hbf : b.f r1 = b.fin.getD r1.toNat [] := rfl
        rw [← hbf] at b5
        generalize b.f r1 = bv at *
        have ho3 : (outC a b s).take 3 = outC a b s := rfl
        have hol3 : (outC a b s).length = 3 := rfl
        simp
        refine .one (sch [.pur 0, .pur 1, .pur 2, .pur 3, .pur 4, .pur 5, .pur 6, .pur 7, .pur 8, .eff 9 [], .pur 10, .pur 11, .pur 12, .pur 13, .pur 14]) (by kernel_rfl) ?_
        simp [s1, s2, n4, a5]
        refine .tdat hrun rfl (by simp [Rw.d]) ?_
        rintro _ rfl
        simp [hol3]
        have htkD : ∀ {β : Type} (f : Pr → β), (L.map f).take (j + 1) = (L.map f).take j ++ [f s] := fun f => by
          rw [← List.map_take, htk]; simp
        refine ⟨⟨by omega, by omega, by omega⟩, ?_⟩
        refine .one (sch [.pur 0, .pur 1, .pur 2, .pur 3, .pur 4, .pur 5, .pur 6, .pur 7, .pur 8, .eff 9 [0, 1], .eff 10 [], .pur 11, .eff 12 []]) (by kernel_rfl) ?_
        simp [t1, t2, m4, b5]
        refine ⟨by omega, ⟨by omega, by omega, by omega⟩, j + 1, .mk ?_ ?_, hjL, by omega⟩
        · simp; exact wrap64 (by omega) (by omega)
        · simp [htkD, hfc]
          rfl
    · have : j = L.length := by omega
      subst this
      simp
      have hfl := chain_fineL ha hb hok (by omega)
      refine .dvalE (c_RewriterValid (chainRw a b L) hfl.out hfl.fin hfl.next hfl.len) rfl (by simp [Rw.d, ← hNX, chainRw, takeM]) (by simp) rfl ?_
      cases hv : okRw (chainRw a b L) with
      | false =>
        simp
        exact chainR_no (hC2 hv)
      | true =>
        simp
        exact ⟨_, true, by simp [Rw.d, ← hNX, chainRw, takeM], hC1 hv⟩
  · simp [Df.d]
    exact chainR_no (.inr ⟨⟨ha, hb⟩, .inr ⟨k, e1, rfl, rfl⟩⟩)
end Go.Fw
