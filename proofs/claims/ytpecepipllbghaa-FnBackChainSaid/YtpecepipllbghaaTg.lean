/- A language taken back by a rewriter, as the program finds it. -/
import Derived.Test.YtpecepipllbghaaOp
import Derived.Test.YtpecepipllbghaaOr
import Derived.Test.YtpecepipllbghaaMn
import Derived.Test.YtpecepipllbghaaRc
set_option linter.unusedSimpArgs false
set_option linter.unusedVariables false
namespace Go.Fw
open Go Go.Proofs
set_option linter.unusedSectionVars false
set_option linter.unnecessarySimpa false

section
variable {S : Type} [DecidableEq S] {nx : S → Int → S} {s0 : S}
theorem metK_over {k1 k2 m : Nat} (h1 : (metK nx s0 k1).length ≤ k1) (h2 : (metK nx s0 k1).length ≤ m) (h3 : m < (metK nx s0 k2).length) : False := by
  have : (metK nx s0 k2).length ≤ (metK nx s0 k1).length := by
    rcases Nat.le_total k1 k2 with h | h
    · rw [metK_stable h1 h]; exact Nat.le_refl _
    · exact (metK_prefix h).length_le
  omega
end
/-- The smallest automaton of a system of states, if there are not more than 40. -/
def SmallIs {S : Type} [DecidableEq S] (nx : S → Int → S) (s0 : S) (fin : S → Bool) (x : Df) (ok : Bool) : Prop :=
  (ok = true ∧ (∃ k, (metK nx s0 k).length ≤ k ∧ (metK nx s0 k).length ≤ 40) ∧ Canon x ∧ Same (x.lang 0) (langS nx fin s0)) ∨ (ok = false ∧ x = ⟨[], []⟩ ∧ ∃ k, 40 < (metK nx s0 k).length)
theorem SmallIs.uniq {S : Type} [DecidableEq S] {nx : S → Int → S} {s0 : S} {fin : S → Bool} {x y : Df} {ok ok' : Bool} (h : SmallIs nx s0 fin x ok) (h' : SmallIs nx s0 fin y ok') : x = y ∧ ok = ok' := by
  rcases h with ⟨rfl, ⟨k, h1, h2⟩, h3, h4⟩ | ⟨rfl, rfl, k, h1⟩ <;> rcases h' with ⟨rfl, ⟨k', g1, g2⟩, g3, g4⟩ | ⟨rfl, rfl, k', g1⟩
  · exact ⟨h3.uniq g3 (h4.trans g4.symm), rfl⟩
  · exact (metK_over h1 h2 g1).elim
  · exact (metK_over g1 g2 h1).elim
  · exact ⟨rfl, rfl⟩
theorem SmallIs.of_min {S : Type} [DecidableEq S] {nx : S → Int → S} {s0 : S} {fin : S → Bool} {k : Nat} {x : Df} (h1 : (metK nx s0 k).length ≤ k) (h2 : (metK nx s0 k).length ≤ 40) (hx : IsMin (autoL nx fin (metK nx s0 k)) x) : SmallIs nx s0 fin x true :=
  .inl ⟨rfl, ⟨k, h1, h2⟩, hx.1, hx.2.trans (AtL.same fin (metK_whole h1) ⟨by omega, (metK_whole h1).head⟩)⟩

/-! ### Pairs of a rewriter's and an automaton's states -/

def nxB (r : Rw) (d : Df) (s : Pr) (c : Int) : Pr := ⟨r.n s.a c, d.run s.b (r.o s.a c)⟩
def finB (r : Rw) (d : Df) (s : Pr) : Bool := d.fin (d.run s.b (r.f s.a))
def okB (r : Rw) (d : Df) (s : Pr) : Prop := r.st s.a ∧ d.st s.b
theorem okB_step {r : Rw} {d : Df} (hr : okRw r = true) (hd : okDf d = true) {s : Pr} {c : Int} (hs : okB r d s) (hc : 0 ≤ c ∧ c < 3) : okB r d (nxB r d s c) :=
  ⟨okRw_n hr hs.1 hc, run_st hd hs.2 (isOut_l (okRw_o hr hs.1 hc)).1⟩
theorem okB_zero {r : Rw} {d : Df} (hr : okRw r = true) (hd : okDf d = true) : okB r d ⟨0, 0⟩ := ⟨st0Rw hr, st0 hd⟩
theorem met_okB {r : Rw} {d : Df} (hr : okRw r = true) (hd : okDf d = true) (k : Nat) : ∀ s ∈ metK (nxB r d) ⟨0, 0⟩ k, okB r d s :=
  metK_ind (p := okB r d) (okB_zero hr hd) (fun _ h => ⟨okB_step hr hd h (by omega), okB_step hr hd h (by omega), okB_step hr hd h (by omega)⟩) k
theorem lang_nxB (r : Rw) (d : Df) : ∀ (w : List UInt8) (s : Pr), langS (nxB r d) (finB r d) s (w.map ltr) = d.fin (d.run s.b (r.text s.a w))
  | [], s => by rw [text_nil]; rfl
  | b :: w, s => by
    rw [text_cons, run_app]
    exact lang_nxB r d w (nxB r d s (ltr b))

/-- The language taken back. -/
def BackIs (r : Rw) (d x : Df) (ok : Bool) : Prop := (okRw r = true ∧ okDf d = true) ∧ SmallIs (nxB r d) ⟨0, 0⟩ (finB r d) x ok ∨ ¬ (okRw r = true ∧ okDf d = true) ∧ x = ⟨[], []⟩ ∧ ok = false
def BackR (r : Rw) (d : Df) (q : List D) : Prop := ∃ (x : Df) (ok : Bool), q = [x.d, .bool ok] ∧ BackIs r d x ok
theorem BackIs.uniq {r : Rw} {d x y : Df} {ok ok' : Bool} (h : BackIs r d x ok) (h' : BackIs r d y ok') : x = y ∧ ok = ok' := by
  rcases h with ⟨h1, h2⟩ | ⟨h1, rfl, rfl⟩ <;> rcases h' with ⟨g1, g2⟩ | ⟨g1, rfl, rfl⟩
  · exact SmallIs.uniq h2 g2
  · exact absurd h1 g1
  · exact absurd g1 h1
  · exact ⟨rfl, rfl⟩
theorem BackIs.cases {r : Rw} {d x : Df} {ok : Bool} (h : BackIs r d x ok) : (ok = true ∧ okRw r = true ∧ okDf d = true ∧ Canon x ∧ ∀ w : List UInt8, w.all isL = true → x.acc w = d.acc (r.text 0 w)) ∨ (ok = false ∧ x = ⟨[], []⟩) := by
  rcases h with ⟨⟨h1, h2⟩, ⟨h3, _, h4, h5⟩ | ⟨h3, h4, _⟩⟩ | ⟨_, h2, h3⟩
  · refine .inl ⟨h3, h1, h2, h4, fun w hw => ?_⟩
    rw [acc_lang, h5 _ (l3_ltr hw), lang_nxB]; rfl
  · exact .inr ⟨h3, h4⟩
  · exact .inr ⟨h3, h2⟩
theorem BackIs.fine {r : Rw} {d x : Df} {ok : Bool} (h : BackIs r d x ok) : x.fine := by
  rcases h.cases with ⟨_, _, _, h, _⟩ | ⟨_, rfl⟩
  · exact fine_of_okDf h.ok
  · exact ⟨by simp, by simp, by simp⟩
theorem BackIs.slim {r : Rw} {d x : Df} {ok : Bool} (h : BackIs r d x ok) : x.slim := by
  rcases h.cases with ⟨_, _, _, h, _⟩ | ⟨_, rfl⟩
  · exact slim_of h.ok
  · exact slim_nil

abbrev rwQ (r : Rw) : AV := .dp [.d (.list (r.next.map intsD)), .d (.list (r.out.map ssD)), .d (ssD r.fin)]
set_option maxRecDepth 100000 in
theorem c_back1 (r : Rw) (d : Df) (s : Pr) (c : Int) (hr : okRw r = true) (hd : okDf d = true) (hs : okB r d s) (hc : 0 ≤ c ∧ c < 3) :
    DCalls Try.prog 86 [.d (pD s), iA c, rwQ r, dpA d] fun y => y = pD (nxB r d s c) := by
  have hs' := hs
  obtain ⟨⟨s1, s2⟩, s3, s4⟩ := hs
  obtain ⟨n1, n2, n3, n4⟩ := okRw_len hr
  have hol := isOut_l (okRw_o hr ⟨s1, s2⟩ hc)
  have hk : s.a.toNat < r.next.length := by omega
  obtain ⟨g1, g2, g3, g4, g5⟩ := okRw_row hr hk
  have a1 := getD_row (xs := r.next) (i := s.a.toNat) [] hk
  have a2 := getD_row (xs := r.out) (i := s.a.toNat) [] (by omega)
  have a3 := getD_row (xs := r.next.getD s.a.toNat []) (i := c.toNat) 0 (by omega)
  have a4 := getD_row (xs := r.out.getD s.a.toNat []) (i := c.toNat) [] (by omega)
  have ho : r.o s.a c = (r.out.getD s.a.toNat []).getD c.toNat [] := rfl
  have hn : r.n s.a c = (r.next.getD s.a.toNat []).getD c.toNat 0 := rfl
  rw [← hn] at a3
  rw [← ho] at a4
  have hx : nxB r d s c = ⟨r.n s.a c, d.run s.b (r.o s.a c)⟩ := rfl
  rw [hx]
  refine dcalls_intro Ty.mixed Try.func86 rfl rfl rfl [4] (by kernel_rfl) (by simp) ?_
  have hrun := c_dfRun d s.b (r.o s.a c) hd ⟨s3, s4⟩ hol.1 (by omega)
  generalize r.n s.a c = nv at *
  generalize r.o s.a c = ov at *
  generalize r.next.getD s.a.toNat [] = nx at *
  generalize r.out.getD s.a.toNat [] = ox at *
  have l2 : c.toNat < 3 := by omega
  simp [pD]
  refine .one (sch [.pur 0, .pur 1, .pur 2, .pur 3, .pur 4, .pur 5, .pur 6, .pur 7, .pur 8, .pur 9, .pur 10, .pur 11, .pur 12, .pur 13, .pur 14, .pur 15, .pur 16, .pur 17, .pur 18, .pur 19, .pur 20, .eff 21 [0, 1, 2, 3, 4, 5, 6, 7, 8], .pur 22, .eff 23 []]) (by kernel_rfl) ?_
  simp [s1, s2, n3, a1, a2, a3, a4, g1, g2, hc, l2]
  refine .dval hrun rfl (by simp [Df.d]) rfl ?_
  simp [s1, s2, n3, a1, a2, a3, a4, g1, g2, hc, l2]
set_option maxRecDepth 100000 in
theorem c_back2 (r : Rw) (d : Df) (s : Pr) (hr : okRw r = true) (hd : okDf d = true) (hs : okB r d s) :
    DCalls Try.prog 87 [.d (pD s), dpA d, rwQ r] fun y => y = .bool (finB r d s) := by
  obtain ⟨⟨s1, s2⟩, s3, s4⟩ := hs
  obtain ⟨n1, n2, n3, n4⟩ := okRw_len hr
  have hol := isOut_l (okRw_f hr (q := s.a) ⟨s1, s2⟩)
  have hk : s.a.toNat < r.next.length := by omega
  have a2 := getD_row (xs := r.fin) (i := s.a.toNat) [] (by omega)
  have hf : r.f s.a = r.fin.getD s.a.toNat [] := rfl
  rw [← hf] at a2
  have hst := run_st hd (q := s.b) ⟨s3, s4⟩ hol.1
  have b1 := fin_row hd hst
  have t1 := hst.1
  have t2 := hst.2
  have hx : finB r d s = d.fin (d.run s.b (r.f s.a)) := rfl
  rw [hx]
  refine dcalls_intro Ty.mixed Try.func87 rfl rfl rfl [3] (by kernel_rfl) (by simp) ?_
  have hrun := c_dfRun d s.b (r.f s.a) hd ⟨s3, s4⟩ hol.1 (by omega)
  generalize d.run s.b (r.f s.a) = t at *
  generalize r.f s.a = ov at *
  simp [pD]
  refine .one (sch [.pur 0, .pur 1, .pur 2, .pur 3, .pur 4, .pur 5, .pur 6, .pur 7, .pur 8, .pur 9, .pur 10, .eff 11 [0, 1], .pur 12, .pur 13, .pur 14]) (by kernel_rfl) ?_
  have hkf : s.a.toNat < r.fin.length := by omega
  simp [s1, s2, n4, a2, hkf]
  refine .dval hrun rfl (by simp [Df.d]) rfl ?_
  simp [t1, t2, b1]

set_option maxHeartbeats 800000 in
set_option maxRecDepth 100000 in
theorem c_RewriteBack (r : Rw) (d : Df) (hrf : r.fine) (hdf : d.fine) : TCalls Try.prog 35 [.d r.d, .d d.d] (BackR r d) := by
  refine tcalls_intro Ty.mixed Try.func35 rfl rfl rfl [2, 3] (by kernel_rfl) (by simp) ?_
  simp [Df.d, Rw.d]
  refine .dval (c_RewriterValid r hrf.out hrf.fin hrf.next hrf.len) rfl (by simp [Rw.d]) rfl ?_
  simp
  refine .flat (fun _ => c_DfaValid d hdf) rfl (by simp [Df.d]) rfl (by simp) ?_
  simp
  refine ⟨fun hno => ⟨⟨[], []⟩, false, rfl, .inr ⟨fun ⟨h1, h2⟩ => by rw [h1, h2] at hno; simp at hno, rfl, rfl⟩⟩, fun h1 h2 => ?_⟩
  have hex := c_exploredPair ⟨0, 0⟩ 40 (by omega) (by omega) (nxB r d) (finB r d) (okB r d) (okB_zero h1 h2) (fun s c hs hc => okB_step h1 h2 hs hc)
    (cloS Try.prog 86 [] [rwQ r, dpA d]) (cloS Try.prog 87 [] [dpA d, rwQ r])
    (fun s c hs hc K hK => ⟨_, c_back1 r d s c h1 h2 hs hc, by rintro r rfl; rfl, by rintro r rfl; exact hK⟩)
    (fun s hs K hK => ⟨_, c_back2 r d s h1 h2 hs, by rintro r rfl; rfl, by rintro r rfl; exact hK⟩)
  refine .tdat hex rfl (by simp [pD]) ?_
  rintro _ (⟨k, e1, e2, rfl⟩ | ⟨k, e1, rfl⟩)
  · have hok := autoL_ok (finB r d) (metK_whole e1) e2
    have hS := fun x (hx : IsMin (autoL (nxB r d) (finB r d) (metK (nxB r d) ⟨0, 0⟩ k)) x) => SmallIs.of_min e1 e2 hx
    generalize autoL (nxB r d) (finB r d) (metK (nxB r d) ⟨0, 0⟩ k) = A at *
    simp [Df.d]
    refine .ddat (c_minimize A hok) rfl (by simp [Df.d]) ?_
    rintro _ ⟨x, rfl, hx⟩
    simp [Df.d]
    exact ⟨x, true, rfl, .inl ⟨⟨h1, h2⟩, hS x hx⟩⟩
  · simp [Df.d]
    exact ⟨⟨[], []⟩, false, rfl, .inl ⟨⟨h1, h2⟩, .inr ⟨rfl, rfl, k, e1⟩⟩⟩
end Go.Fw
