/- The framework, part Vbk. -/
import Derived.Test.YteenfgdemklhcaaOp
import Derived.Test.YteenfgdemklhcaaOr
import Derived.Test.YteenfgdemklhcaaMn
import Derived.Test.YteenfgdemklhcaaRc
import Derived.Test.YteenfgdemklhcaaVdf
import Derived.Test.YteenfgdemklhcaaOh
import Derived.Test.YteenfgdemklhcaaVrw
set_option linter.unusedSimpArgs false
set_option linter.unusedVariables false
/- A language taken back by a rewriter, as the program finds it. -/
namespace Go.Fw
open Go Go.Proofs
set_option linter.unusedSectionVars false
set_option linter.unnecessarySimpa false

section
variable {S : Type} [DecidableEq S] {nx : S → Int → S} {s0 : S}
theorem metK_over {k1 k2 m : Nat} (h1 : (metK nx s0 k1).length ≤ k1) (h2 : (metK nx s0 k1).length ≤ m) (h3 : m < (metK nx s0 k2).length) : False := by
  have : (metK nx s0 k2).length ≤ (metK nx s0 k1).length := by
    rcases Nat.le_total k1 k2 with h | h
    · rw [metK_stable h1 h]; exact Nat.le_refl _
    · exact (metK_prefix h).length_le
  omega
end
/-- The smallest automaton of a system of states, if there are not more than 40. -/
def SmallIs {S : Type} [DecidableEq S] (nx : S → Int → S) (s0 : S) (fin : S → Bool) (x : Df) (ok : Bool) : Prop :=
  (ok = true ∧ (∃ k, (metK nx s0 k).length ≤ k ∧ (metK nx s0 k).length ≤ 40) ∧ Canon x ∧ Same (x.lang 0) (langS nx fin s0)) ∨ (ok = false ∧ x = ⟨[], []⟩ ∧ ∃ k, 40 < (metK nx s0 k).length)
theorem SmallIs.uniq {S : Type} [DecidableEq S] {nx : S → Int → S} {s0 : S} {fin : S → Bool} {x y : Df} {ok ok' : Bool} (h : SmallIs nx s0 fin x ok) (h' : SmallIs nx s0 fin y ok') : x = y ∧ ok = ok' := by
  rcases h with ⟨rfl, ⟨k, h1, h2⟩, h3, h4⟩ | ⟨rfl, rfl, k, h1⟩ <;> rcases h' with ⟨rfl, ⟨k', g1, g2⟩, g3, g4⟩ | ⟨rfl, rfl, k', g1⟩
  · exact ⟨h3.uniq g3 (h4.trans g4.symm), rfl⟩
  · exact (metK_over h1 h2 g1).elim
  · exact (metK_over g1 g2 h1).elim
  · exact ⟨rfl, rfl⟩
theorem SmallIs.of_min {S : Type} [DecidableEq S] {nx : S → Int → S} {s0 : S} {fin : S → Bool} {k : Nat} {x : Df} (h1 : (metK nx s0 k).length ≤ k) (h2 : (metK nx s0 k).length ≤ 40) (hx : IsMin (autoL nx fin (metK nx s0 k)) x) : SmallIs nx s0 fin x true :=
  .inl ⟨rfl, ⟨k, h1, h2⟩, hx.1, hx.2.trans (AtL.same fin (metK_whole h1) ⟨by omega, (metK_whole h1).head⟩)⟩

/-! ### Pairs of a rewriter's and an automaton's states -/

def nxB (r : Rw) (d : Df) (s : Pr) (c : Int) : Pr := ⟨r.n s.a c, d.run s.b (r.o s.a c)⟩
def finB (r : Rw) (d : Df) (s : Pr) : Bool := d.fin (d.run s.b (r.f s.a))
def okB (r : Rw) (d : Df) (s : Pr) : Prop := r.st s.a ∧ d.st s.b
theorem okB_step {r : Rw} {d : Df} (hr : okRw r = true) (hd : okDf d = true) {s : Pr} {c : Int} (hs : okB r d s) (hc : 0 ≤ c ∧ c < 3) : okB r d (nxB r d s c) :=
  ⟨okRw_n hr hs.1 hc, run_st hd hs.2 (isOut_l (okRw_o hr hs.1 hc)).1⟩
theorem okB_zero {r : Rw} {d : Df} (hr : okRw r = true) (hd : okDf d = true) : okB r d ⟨0, 0⟩ := ⟨st0Rw hr, st0 hd⟩
theorem met_okB {r : Rw} {d : Df} (hr : okRw r = true) (hd : okDf d = true) (k : Nat) : ∀ s ∈ metK (nxB r d) ⟨0, 0⟩ k, okB r d s :=
  metK_ind (p := okB r d) (okB_zero hr hd) (fun _ h => ⟨okB_step hr hd h (by omega), okB_step hr hd h (by omega), okB_step hr hd h (by omega)⟩) k
theorem lang_nxB (r : Rw) (d : Df) : ∀ (w : List UInt8) (s : Pr), langS (nxB r d) (finB r d) s (w.map ltr) = d.fin (d.run s.b (r.text s.a w))
  | [], s => by rw [text_nil]; rfl
  | b :: w, s => by
    rw [text_cons, run_app]
    exact lang_nxB r d w (nxB r d s (ltr b))

/-- The language taken back. -/
def BackIs (r : Rw) (d x : Df) (ok : Bool) : Prop := (okRw r = true ∧ okDf d = true) ∧ SmallIs (nxB r d) ⟨0, 0⟩ (finB r d) x ok ∨ ¬ (okRw r = true ∧ okDf d = true) ∧ x = ⟨[], []⟩ ∧ ok = false
def BackR (r : Rw) (d : Df) (q : List D) : Prop := ∃ (x : Df) (ok : Bool), q = [x.d, .bool ok] ∧ BackIs r d x ok
theorem BackIs.uniq {r : Rw} {d x y : Df} {ok ok' : Bool} (h : BackIs r d x ok) (h' : BackIs r d y ok') : x = y ∧ ok = ok' := by
  rcases h with ⟨h1, h2⟩ | ⟨h1, rfl, rfl⟩ <;> rcases h' with ⟨g1, g2⟩ | ⟨g1, rfl, rfl⟩
  · exact SmallIs.uniq h2 g2
  · exact absurd h1 g1
  · exact absurd g1 h1
  · exact ⟨rfl, rfl⟩
theorem BackIs.cases {r : Rw} {d x : Df} {ok : Bool} (h : BackIs r d x ok) : (ok = true ∧ okRw r = true ∧ okDf d = true ∧ Canon x ∧ ∀ w : List UInt8, w.all isL = true → x.acc w = d.acc (r.text 0 w)) ∨ (ok = false ∧ x = ⟨[], []⟩) := by
  rcases h with ⟨⟨h1, h2⟩, ⟨h3, _, h4, h5⟩ | ⟨h3, h4, _⟩⟩ | ⟨_, h2, h3⟩
  · refine .inl ⟨h3, h1, h2, h4, fun w hw => ?_⟩
    rw [acc_lang, h5 _ (l3_ltr hw), lang_nxB]; rfl
  · exact .inr ⟨h3, h4⟩
  · exact .inr ⟨h3, h2⟩
theorem BackIs.fine {r : Rw} {d x : Df} {ok : Bool} (h : BackIs r d x ok) : x.fine := by
  rcases h.cases with ⟨_, _, _, h, _⟩ | ⟨_, rfl⟩
  · exact fine_of_okDf h.ok
  · exact ⟨by simp, by simp, by simp⟩
theorem BackIs.slim {r : Rw} {d x : Df} {ok : Bool} (h : BackIs r d x ok) : x.slim := by
  rcases h.cases with ⟨_, _, _, h, _⟩ | ⟨_, rfl⟩
  · exact slim_of h.ok
  · exact slim_nil

abbrev rwQ (r : Rw) : AV := .dp [.d (.list (r.next.map intsD)), .d (.list (r.out.map ssD)), .d (ssD r.fin)]
set_option maxRecDepth 100000 in
theorem c_back1 (r : Rw) (d : Df) (s : Pr) (c : Int) (hr : okRw r = true) (hd : okDf d = true) (hs : okB r d s) (hc : 0 ≤ c ∧ c < 3) :
    DCalls Try.prog 59 [.d (pD s), iA c, rwQ r, dpA d] fun y => y = pD (nxB r d s c) := by
  have hs' := hs
  obtain ⟨⟨s1, s2⟩, s3, s4⟩ := hs
  obtain ⟨n1, n2, n3, n4⟩ := okRw_len hr
  have hol := isOut_l (okRw_o hr ⟨s1, s2⟩ hc)
  have hk : s.a.toNat < r.next.length := by omega
  obtain ⟨g1, g2, g3, g4, g5⟩ := okRw_row hr hk
  have a1 := getD_row (xs := r.next) (i := s.a.toNat) [] hk
  have a2 := getD_row (xs := r.out) (i := s.a.toNat) [] (by omega)
  have a3 := getD_row (xs := r.next.getD s.a.toNat []) (i := c.toNat) 0 (by omega)
  have a4 := getD_row (xs := r.out.getD s.a.toNat []) (i := c.toNat) [] (by omega)
  have ho : r.o s.a c = (r.out.getD s.a.toNat []).getD c.toNat [] := rfl
  have hn : r.n s.a c = (r.next.getD s.a.toNat []).getD c.toNat 0 := rfl
  rw [← hn] at a3
  rw [← ho] at a4
  have hx : nxB r d s c = ⟨r.n s.a c, d.run s.b (r.o s.a c)⟩ := rfl
  rw [hx]
  refine dcalls_intro Ty.mixed Try.func59 rfl rfl rfl [4] (by kernel_rfl) (by simp) ?_
  have hrun := c_dfRun d s.b (r.o s.a c) hd ⟨s3, s4⟩ hol.1 (by omega)
  generalize r.n s.a c = nv at *
  generalize r.o s.a c = ov at *
  generalize r.next.getD s.a.toNat [] = nx at *
  generalize r.out.getD s.a.toNat [] = ox at *
  have l2 : c.toNat < 3 := by omega
  simp [pD]
  refine .one (sch [.pur 0, .pur 1, .pur 2, .pur 3, .pur 4, .pur 5, .pur 6, .pur 7, .pur 8, .pur 9, .pur 10, .pur 11, .pur 12, .pur 13, .pur 14, .pur 15, .pur 16, .pur 17, .pur 18, .pur 19, .pur 20, .eff 21 [0, 1, 2, 3, 4, 5, 6, 7, 8], .pur 22, .eff 23 []]) (by kernel_rfl) ?_
  simp [s1, s2, n3, a1, a2, a3, a4, g1, g2, hc, l2]
  refine .dval hrun rfl (by simp [Df.d]) rfl ?_
  simp [s1, s2, n3, a1, a2, a3, a4, g1, g2, hc, l2]
set_option maxRecDepth 100000 in
theorem c_back2 (r : Rw) (d : Df) (s : Pr) (hr : okRw r = true) (hd : okDf d = true) (hs : okB r d s) :
    DCalls Try.prog 60 [.d (pD s), dpA d, rwQ r] fun y => y = .bool (finB r d s) := by
  obtain ⟨⟨s1, s2⟩, s3, s4⟩ := hs
  obtain ⟨n1, n2, n3, n4⟩ := okRw_len hr
  have hol := isOut_l (okRw_f hr (q := s.a) ⟨s1, s2⟩)
  have hk : s.a.toNat < r.next.length := by omega
  have a2 := getD_row (xs := r.fin) (i := s.a.toNat) [] (by omega)
  have hf : r.f s.a = r.fin.getD s.a.toNat [] := rfl
  rw [← hf] at a2
  have hst := run_st hd (q := s.b) ⟨s3, s4⟩ hol.1
  have b1 := fin_row hd hst
  have t1 := hst.1
  have t2 := hst.2
  have hx : finB r d s = d.fin (d.run s.b (r.f s.a)) := rfl
  rw [hx]
  refine dcalls_intro Ty.mixed Try.func60 rfl rfl rfl [3] (by kernel_rfl) (by simp) ?_
  have hrun := c_dfRun d s.b (r.f s.a) hd ⟨s3, s4⟩ hol.1 (by omega)
  generalize d.run s.b (r.f s.a) = t at *
  generalize r.f s.a = ov at *
  simp [pD]
  refine .one (sch [.pur 0, .pur 1, .pur 2, .pur 3, .pur 4, .pur 5, .pur 6, .pur 7, .pur 8, .pur 9, .pur 10, .eff 11 [0, 1], .pur 12, .pur 13, .pur 14]) (by kernel_rfl) ?_
  have hkf : s.a.toNat < r.fin.length := by omega
  simp [s1, s2, n4, a2, hkf]
  refine .dval hrun rfl (by simp [Df.d]) rfl ?_
  simp [t1, t2, b1]

set_option maxHeartbeats 800000 in
set_option maxRecDepth 100000 in
theorem c_RewriteBack (r : Rw) (d : Df) (hrf : r.fine) (hdf : d.fine) : TCalls Try.prog 21 [.d r.d, .d d.d] (BackR r d) := by
  refine tcalls_intro Ty.mixed Try.func21 rfl rfl rfl [2, 3] (by kernel_rfl) (by simp) ?_
  simp [Df.d, Rw.d]
  refine .dval (c_RewriterValid r hrf.out hrf.fin hrf.next hrf.len) rfl (by simp [Rw.d]) rfl ?_
  simp
  refine .flat (fun _ => c_DfaValid d hdf) rfl (by simp [Df.d]) rfl (by simp) ?_
  simp
  refine ⟨fun hno => ⟨⟨[], []⟩, false, rfl, .inr ⟨fun ⟨h1, h2⟩ => by rw [h1, h2] at hno; simp at hno, rfl, rfl⟩⟩, fun h1 h2 => ?_⟩
  have hex := c_exploredPair ⟨0, 0⟩ 40 (by omega) (by omega) (nxB r d) (finB r d) (okB r d) (okB_zero h1 h2) (fun s c hs hc => okB_step h1 h2 hs hc)
    (cloS Try.prog 59 [] [rwQ r, dpA d]) (cloS Try.prog 60 [] [dpA d, rwQ r])
    (fun s c hs hc K hK => ⟨_, c_back1 r d s c h1 h2 hs hc, by rintro r rfl; rfl, by rintro r rfl; exact hK⟩)
    (fun s hs K hK => ⟨_, c_back2 r d s h1 h2 hs, by rintro r rfl; rfl, by rintro r rfl; exact hK⟩)
  refine .tdat hex rfl (by simp [pD]) ?_
  rintro _ (⟨k, e1, e2, rfl⟩ | ⟨k, e1, rfl⟩)
  · have hok := autoL_ok (finB r d) (metK_whole e1) e2
    have hS := fun x (hx : IsMin (autoL (nxB r d) (finB r d) (metK (nxB r d) ⟨0, 0⟩ k)) x) => SmallIs.of_min e1 e2 hx
    generalize autoL (nxB r d) (finB r d) (metK (nxB r d) ⟨0, 0⟩ k) = A at *
    simp [Df.d]
    refine .ddat (c_minimize A hok) rfl (by simp [Df.d]) ?_
    rintro _ ⟨x, rfl, hx⟩
    simp [Df.d]
    exact ⟨x, true, rfl, .inl ⟨⟨h1, h2⟩, hS x hx⟩⟩
  · simp [Df.d]
    exact ⟨⟨[], []⟩, false, rfl, .inl ⟨⟨h1, h2⟩, .inr ⟨rfl, rfl, k, e1⟩⟩⟩
end Go.Fw

/- A language taken back by a rewriter, in rows of the caller's own. -/
namespace Go.Fw
open Go Go.Proofs
set_option linter.unusedSectionVars false
set_option linter.unnecessarySimpa false

set_option maxHeartbeats 800000 in
set_option maxRecDepth 100000 in
theorem f_RewriteBack (r : Rw) (d : Df) (hrf : r.fine) (hdf : d.fine) : FCalls Try.prog 21 [.d r.d, .d d.d] fun x res =>
    (∃ (y : Df) (m : Nat), BackIs r d y true ∧ y.next.length ≤ 2000 ∧ y.ends.length = y.next.length ∧ x = .tp [dfAV 3000000000 3000000001 y, .d (.bool true)] ∧ res = dfR 3000000000 3000000001 3000000002 y m) ∨
    (x = .tp [.ag [.nl, .nl], .d (.bool false)] ∧ res = [] ∧ BackIs r d ⟨[], []⟩ false) := by
  refine gcalls_intro Ty.mixed Try.func21 rfl rfl rfl [2, 3] (by kernel_rfl) (by simp) ?_
  simp [Df.d, Rw.d]
  refine .dval (c_RewriterValid r hrf.out hrf.fin hrf.next hrf.len) rfl (by simp [Rw.d]) rfl ?_
  simp
  refine .flat (fun _ => c_DfaValid d hdf) rfl (by simp [Df.d]) rfl (by simp) ?_
  simp
  refine ⟨fun hno => ⟨[], ⟨rfl, .inr ⟨fun ⟨h1, h2⟩ => by rw [h1, h2] at hno; simp at hno, rfl, rfl⟩⟩, by simp⟩, fun h1 h2 => ?_⟩
  have hex := c_exploredPair ⟨0, 0⟩ 40 (by omega) (by omega) (nxB r d) (finB r d) (okB r d) (okB_zero h1 h2) (fun s c hs hc => okB_step h1 h2 hs hc)
    (cloS Try.prog 59 [] [rwQ r, dpA d]) (cloS Try.prog 60 [] [dpA d, rwQ r])
    (fun s c hs hc K hK => ⟨_, c_back1 r d s c h1 h2 hs hc, by rintro r rfl; rfl, by rintro r rfl; exact hK⟩)
    (fun s hs K hK => ⟨_, c_back2 r d s h1 h2 hs, by rintro r rfl; rfl, by rintro r rfl; exact hK⟩)
  refine .tdat hex rfl (by simp [pD]) ?_
  rintro _ (⟨k, e1, e2, rfl⟩ | ⟨k, e1, rfl⟩)
  · have hok := autoL_ok (finB r d) (metK_whole e1) e2
    have hS := fun x (hx : IsMin (autoL (nxB r d) (finB r d) (metK (nxB r d) ⟨0, 0⟩ k)) x) => SmallIs.of_min e1 e2 hx
    generalize autoL (nxB r d) (finB r d) (metK (nxB r d) ⟨0, 0⟩ k) = A at *
    simp [Df.d]
    refine .freshG 3000000000 (f_minimize A hok) rfl (by simp [Df.d]) (by simp) (by omega) ?_
    rintro _ _ ⟨y, m, hy, yl, ye, rfl, rfl⟩
    have hok1 := dfOk 2000000000 2000000001 2000000003 y (by omega) (by omega)
    have hok2 := dfOk 3000000000 3000000001 3000000002 y (by omega) (by omega)
    refine ⟨⟨hok1.nodup, hok1.rng, fun j hj => ?_⟩, ?_⟩
    · rw [dfR, famR_len] at hj
      simp [rowsI] at hj ⊢
      omega
    rw [df_back hok1 (by omega), dfR, hok1.newS]
    simp [-retXP_is, dfAV]
    refine retXP_fam (r := m) trivial hok2 (.inl ⟨y, .inl ⟨⟨h1, h2⟩, hS y hy⟩, yl, ye, rfl, m, rfl⟩) ?_ ?_ ?_ ?_
    · simp
    · simp
    · intro i x hx
      simp [famS_atN hx]
    · have k0 := hok2.k0 (r := m)
      have k1 := hok2.k1 (r := m) (q := (3000000001, .ar 1 (y.ends.map bD))) (by simp)
      simp [k0, k1]
  · simp [Df.d]
    exact ⟨[], ⟨rfl, .inl ⟨⟨h1, h2⟩, .inr ⟨rfl, rfl, k, e1⟩⟩⟩, by simp⟩
end Go.Fw

/- A language taken back by a rewriter, as the reference finds it. -/
namespace Go.Fw
open Go Go.Proofs
set_option linter.unusedSectionVars false
set_option linter.unnecessarySimpa false

set_option maxRecDepth 100000 in
set_option maxHeartbeats 1600000 in
theorem c_sRewriteBack (r : Rw) (d : Df) (hrf : r.fine) (hdf : d.fine) : TCalls Try.prog 20 [.d r.d, .d d.d] (BackR r d) := by
  refine tcalls_intro Ty.mixed Try.func20 rfl rfl rfl [2, 3] (by kernel_rfl) (by simp) ?_
  simp [Df.d, Rw.d]
  refine .dval (c_sRewriterValid r hrf) rfl (by simp [Rw.d]) rfl ?_
  simp
  refine .flat (fun _ => c_sDfaValid d hdf) rfl (by simp [Df.d]) rfl (by simp) ?_
  simp
  refine ⟨fun hno => ⟨⟨[], []⟩, false, rfl, .inr ⟨fun ⟨h1, h2⟩ => by rw [h1, h2] at hno; simp at hno, rfl, rfl⟩⟩, fun h1 h2 => ?_⟩
  obtain ⟨n1, n2, n3, n4⟩ := okRw_len h1
  obtain ⟨m1, m2, m3⟩ := okDf_len h2
  refine ⟨rfl, ?_⟩
  refine LoopVC.wk (Wk.adoptBx 700 0 901 1 (cs := [.nl, .nl]) (by simp) rfl (by simp)) ?_
  refine LoopVC.wk (Wk.adoptBx 700 1 902 1 (cs := [.sl 1 901 0 0, .nl]) (by simp) rfl (by simp)) ?_
  have hmet := met_okB h1 h2
  have hnxd : ∀ s c, nxB r d s c = ⟨r.n s.a c, d.run s.b (r.o s.a c)⟩ := fun _ _ => rfl
  have hfnd : ∀ s, finB r d s = d.fin (d.run s.b (r.f s.a)) := fun _ => rfl
  have hA : ∀ k, (metK (nxB r d) ⟨0, 0⟩ k).length ≤ k → (metK (nxB r d) ⟨0, 0⟩ k).length ≤ 40 → okDf (autoL (nxB r d) (finB r d) (metK (nxB r d) ⟨0, 0⟩ k)) = true ∧ ∀ x, IsMin (autoL (nxB r d) (finB r d) (metK (nxB r d) ⟨0, 0⟩ k)) x → BackR r d [x.d, .bool true] := fun k e1 e2 => ⟨autoL_ok _ (metK_whole e1) e2, fun x hx => ⟨x, true, rfl, .inl ⟨⟨h1, h2⟩, SmallIs.of_min e1 e2 hx⟩⟩⟩
  have hB : ∀ k, 40 < (metK (nxB r d) ⟨0, 0⟩ k).length → BackR r d [(Df.mk [] []).d, .bool false] := fun k e => ⟨⟨[], []⟩, false, rfl, .inl ⟨⟨h1, h2⟩, .inr ⟨rfl, rfl, k, e⟩⟩⟩
  generalize hnx : nxB r d = nx at hmet hnxd hA hB
  generalize hfn : finB r d = fn at hA hfnd
  refine LoopVC.at { k : Nat // k ≤ (metK nx ⟨0, 0⟩ k).length ∧ (metK nx ⟨0, 0⟩ k).length ≤ 43 ∧ k ≤ 40 } (fun k => [(2, rwQ r), (3, dpA d), (4, .ptr 400 0), (6, .sl 1 2500 0 (metK nx ⟨0, 0⟩ k.1).length), (7, .ptr 700 0), (8, iA k.1)])
    (fun k => [(400, .bx [.nl, .nl]), (700, .bx [.sl 1 901 0 k.1, .sl 1 902 0 k.1]), (901, .ar 1 (((metK nx ⟨0, 0⟩ k.1).take k.1).map fun s => intsD (rowL nx (metK nx ⟨0, 0⟩ k.1) s))), (902, .ar 1 (((metK nx ⟨0, 0⟩ k.1).take k.1).map fun s => bD (fn s))), (2500, .ar 1 ((metK nx ⟨0, 0⟩ k.1).map pR))]) [400, 700, 901, 902, 2500] (fun k => 44 - k.1) ⟨0, by simp [metK]⟩ (by simp [metK]) (by simp [metK]) ?_
  rintro ⟨k, hk1, hk2, hk40⟩
  have hstep : ∀ s, (metK nx ⟨0, 0⟩ k)[k]? = some s → metK nx ⟨0, 0⟩ (k + 1) = meets (metK nx ⟨0, 0⟩ k) (suc nx s) := fun s hs => by simp only [metK, hs]
  have hmem := hmet k
  have hnd := metK_nodup (nx := nx) (s0 := (⟨0, 0⟩ : Pr)) k
  rcases Nat.lt_or_ge k (metK nx ⟨0, 0⟩ k).length with hkl | hkl
  · simp [show (k : Int) < (metK nx ⟨0, 0⟩ k).length by omega]
    refine ⟨fun hbig => hB k (by omega), fun hlm => ?_⟩
    obtain ⟨s, hsk⟩ : ∃ s, (metK nx ⟨0, 0⟩ k)[k]? = some s := ⟨_, List.getElem?_eq_getElem hkl⟩
    have hms := hstep s hsk
    have hps := hmem s (List.mem_of_getElem? hsk)
    refine LoopVC.at { c : Nat // c ≤ 3 } (fun c => [(2, rwQ r), (3, dpA d), (4, .ptr 400 0), (6, .sl 1 2500 0 (meets (metK nx ⟨0, 0⟩ k) ((suc nx s).take c.1)).length), (7, .ptr 700 0), (8, iA k), (9, .sl 1 3700 0 c.1), (10, iA c.1)])
      (fun c => [(400, .bx [.nl, .nl]), (700, .bx [.sl 1 901 0 k, .sl 1 902 0 k]), (901, .ar 1 (((metK nx ⟨0, 0⟩ k).take k).map fun s => intsD (rowL nx (metK nx ⟨0, 0⟩ k) s))), (902, .ar 1 (((metK nx ⟨0, 0⟩ k).take k).map fun s => bD (fn s))), (2500, .ar 1 ((meets (metK nx ⟨0, 0⟩ k) ((suc nx s).take c.1)).map pR)), (3700, .ar 1 ((rowG nx (metK nx ⟨0, 0⟩ k) s c.1).map iD))]) [400, 700, 901, 902, 2500, 3700] (fun c => 3 - c.1) ⟨0, by simp⟩ (by simp [meets]) (by simp [meets, rowG]) ?_
    rintro ⟨c, hc⟩
    obtain ⟨⟨s1, s2⟩, s3, s4⟩ := hps
    have hk : s.a.toNat < r.next.length := by omega
    obtain ⟨g1, g2, g3, g4, g5⟩ := okRw_row h1 hk
    have hpc : metK nx ⟨0, 0⟩ k <+: meets (metK nx ⟨0, 0⟩ k) ((suc nx s).take c) := meets_prefix _ _
    have hskc : (meets (metK nx ⟨0, 0⟩ k) ((suc nx s).take c))[k]? = some s := by
      obtain ⟨rr, hr⟩ := hpc
      rw [← hr, List.getElem?_append_left hkl]; exact hsk
    obtain ⟨hkM, hskM⟩ := List.getElem?_eq_some_iff.1 hskc
    have hml := meets_len ((suc nx s).take c) (metK nx ⟨0, 0⟩ k)
    have htl : ((suc nx s).take c).length = c := by simp [suc]; omega
    have hndM : (meets (metK nx ⟨0, 0⟩ k) ((suc nx s).take c)).Nodup := nodup_meets _ hnd
    have hrg := rowG_len (nx := nx) (L := metK nx ⟨0, 0⟩ k) (s := s) hc
    rcases Nat.lt_or_ge c 3 with hc3 | hc3
    · have hsn : meets (metK nx ⟨0, 0⟩ k) ((suc nx s).take (c + 1)) = meet (meets (metK nx ⟨0, 0⟩ k) ((suc nx s).take c)) (nx s c) := by rw [suc_take hc3, meets_snoc]
      have hrs := rowG_succ (nx := nx) (L := metK nx ⟨0, 0⟩ k) (s := s) hc3
      have hol := isOut_l (okRw_o h1 (q := s.a) (c := (c : Int)) ⟨s1, s2⟩ (by omega))
      have a1 := getD_row (xs := r.next) (i := s.a.toNat) [] hk
      have a2 := getD_row (xs := r.out) (i := s.a.toNat) [] (by omega)
      have a3 := getD_row (xs := r.next.getD s.a.toNat []) (i := c) 0 (by omega)
      have a4 := getD_row (xs := r.out.getD s.a.toNat []) (i := c) [] (by omega)
      have ho : r.o s.a c = (r.out.getD s.a.toNat []).getD c [] := by simp [Rw.o]
      have hn : r.n s.a c = (r.next.getD s.a.toNat []).getD c 0 := by simp [Rw.n]
      have hxe := hnxd s c
      rw [← hn] at a3
      rw [← ho] at a4
      rw [hsn] at hrs
      have hrun := c_l7Run d s.b (r.o s.a c) h2 ⟨s3, s4⟩ hol.1 (by omega)
      generalize r.n s.a c = nv at *
      generalize r.o s.a c = wv at *
      generalize d.run s.b wv = ov at *
      generalize r.next.getD s.a.toNat [] = nr at *
      generalize r.out.getD s.a.toNat [] = ox at *
      have l3 : (c : Int) < 3 := by omega
      simp [l3]
      refine .one (sch [.pur 0, .pur 1, .pur 2, .pur 3, .pur 4, .pur 5, .pur 6, .pur 7, .pur 8, .pur 9, .pur 10, .pur 11, .pur 12, .pur 13]) (by kernel_rfl) ?_
      simp [hkM, hskM, s1, s2, s3, s4, n3, a1, a2, a3, g1, g2, hc3, l3]
      refine .one (sch [.pur 0, .pur 1, .pur 2, .pur 3, .pur 4, .pur 5, .pur 6, .pur 7, .pur 8, .pur 9, .pur 10, .pur 11, .pur 12, .pur 13, .pur 14, .pur 15, .pur 16, .pur 17, .pur 18, .pur 19, .eff 20 [], .pur 21]) (by kernel_rfl) ?_
      simp [hkM, hskM, s1, s2, s3, s4, n3, a1, a2, a4, g1, g2, hc3, l3]
      refine .dval hrun rfl (by simp [Df.d]) rfl ?_
      simp
      refine LoopVC.at { j : Nat // j ≤ (meets (metK nx ⟨0, 0⟩ k) ((suc nx s).take c)).length } (fun j => [(2, rwQ r), (3, dpA d), (4, .ptr 400 0), (6, .sl 1 2500 0 (meets (metK nx ⟨0, 0⟩ k) ((suc nx s).take c)).length), (7, .ptr 700 0), (8, iA k), (9, .sl 1 3700 0 c), (10, iA c), (11, iA nv), (12, iA ov), (13, iA (fnd (meets (metK nx ⟨0, 0⟩ k) ((suc nx s).take c)) (nx s c) j.1)), (14, iA j.1)])
        (fun j => [(400, .bx [.nl, .nl]), (700, .bx [.sl 1 901 0 k, .sl 1 902 0 k]), (901, .ar 1 (((metK nx ⟨0, 0⟩ k).take k).map fun s => intsD (rowL nx (metK nx ⟨0, 0⟩ k) s))), (902, .ar 1 (((metK nx ⟨0, 0⟩ k).take k).map fun s => bD (fn s))), (2500, .ar 1 ((meets (metK nx ⟨0, 0⟩ k) ((suc nx s).take c)).map pR)), (3700, .ar 1 ((rowG nx (metK nx ⟨0, 0⟩ k) s c).map iD))]) [400, 700, 901, 902, 2500, 3700] (fun j => (meets (metK nx ⟨0, 0⟩ k) ((suc nx s).take c)).length - j.1) ⟨0, by simp⟩ (by simp [fnd]) (by simp) ?_
      rintro ⟨j, hj⟩
      rcases Nat.lt_or_ge j (meets (metK nx ⟨0, 0⟩ k) ((suc nx s).take c)).length with hjM | hjM
      · have hfs := fnd_succ hndM (s := nx s c) hjM
        have hcmp : (meets (metK nx ⟨0, 0⟩ k) ((suc nx s).take c))[j] = nx s c ↔ ((meets (metK nx ⟨0, 0⟩ k) ((suc nx s).take c))[j].a = nv ∧ (meets (metK nx ⟨0, 0⟩ k) ((suc nx s).take c))[j].b = ov) := by
          rw [hxe]
          constructor
          · intro e; rw [e]; exact ⟨rfl, rfl⟩
          · rintro ⟨e1, e2⟩; cases hq : (meets (metK nx ⟨0, 0⟩ k) ((suc nx s).take c))[j]; rw [hq] at e1 e2; simp at e1 e2; rw [e1, e2]
        have hj18 : j ≤ 46 := by omega
        simp [hjM]
        refine ⟨fun e1 e2 => ?_, fun hno => ?_⟩
        · rw [if_pos (hcmp.2 ⟨e1, e2⟩)] at hfs
          refine ⟨j + 1, .mk (by simp [hfs]; exact wrap64 (by omega) (by omega)) (by simp), hjM, by omega⟩
        · rw [if_neg (fun h => hno (hcmp.1 h).1 (hcmp.1 h).2)] at hfs
          refine ⟨j + 1, .mk (by simp [hfs]; exact wrap64 (by omega) (by omega)) (by simp), hjM, by omega⟩
      · have hjM' : j = (meets (metK nx ⟨0, 0⟩ k) ((suc nx s).take c)).length := by omega
        subst hjM'
        have hfe : fnd (meets (metK nx ⟨0, 0⟩ k) ((suc nx s).take c)) (nx s c) (meets (metK nx ⟨0, 0⟩ k) ((suc nx s).take c)).length = if nx s c ∈ (meets (metK nx ⟨0, 0⟩ k) ((suc nx s).take c)) then ((meets (metK nx ⟨0, 0⟩ k) ((suc nx s).take c)).idxOf (nx s c) : Int) else -1 := by
          unfold fnd; rw [List.take_length]
        by_cases hin : nx s c ∈ (meets (metK nx ⟨0, 0⟩ k) ((suc nx s).take c))
        · have hmt : meet (meets (metK nx ⟨0, 0⟩ k) ((suc nx s).take c)) (nx s c) = (meets (metK nx ⟨0, 0⟩ k) ((suc nx s).take c)) := by unfold meet; rw [if_pos hin]
          rw [hmt] at hrs hsn
          rw [hfe, if_pos hin]
          simp [hrg, show ¬ (((meets (metK nx ⟨0, 0⟩ k) ((suc nx s).take c)).idxOf (nx s c) : Int) < 0) by omega]
          refine ⟨⟨by omega, by omega⟩, c + 1, .mk ?_ ?_, hc3, by omega⟩
          · simp [hsn]; exact wrap64 (by omega) (by omega)
          · simp [hsn, hrs]
        · have hmt : meet (meets (metK nx ⟨0, 0⟩ k) ((suc nx s).take c)) (nx s c) = (meets (metK nx ⟨0, 0⟩ k) ((suc nx s).take c)) ++ [nx s c] := by unfold meet; rw [if_neg hin]
          rw [hmt] at hrs hsn
          have hix : ((meets (metK nx ⟨0, 0⟩ k) ((suc nx s).take c)) ++ [nx s c]).idxOf (nx s c) = (meets (metK nx ⟨0, 0⟩ k) ((suc nx s).take c)).length := by rw [List.idxOf_append, if_neg hin]; simp
          rw [hix] at hrs
          rw [hfe, if_neg hin]
          simp [hrg]
          refine ⟨rfl, ⟨by omega, by omega⟩, ⟨by omega, by omega⟩, c + 1, .mk ?_ ?_, hc3, by omega⟩
          · simp [hsn]; exact wrap64 (by omega) (by omega)
          · simp [hsn, hrs, hxe]
    · have : c = 3 := by omega
      subst this
      have ht3 : (suc nx s).take 3 = suc nx s := by simp [suc]
      obtain ⟨hn1, hn2⟩ := metK_next hsk
      have hrd : rowG nx (metK nx ⟨0, 0⟩ k) s 3 = rowL nx (metK nx ⟨0, 0⟩ (k + 1)) s := by rw [rowG_done, hms]
      have hsl : (suc nx s).length = 3 := by simp [suc]
      have hof := isOut_l (okRw_f h1 (q := s.a) ⟨s1, s2⟩)
      have hkf : s.a.toNat < r.fin.length := by omega
      have a5 := getD_row (xs := r.fin) (i := s.a.toNat) [] hkf
      have hf5 : r.f s.a = r.fin.getD s.a.toNat [] := rfl
      rw [← hf5] at a5
      have hst := run_st h2 (q := s.b) ⟨s3, s4⟩ hof.1
      have b5 := fin_row h2 hst
      have t1 := hst.1
      have t2 := hst.2
      have hfs := hfnd s
      have hrun := c_l7Run d s.b (r.f s.a) h2 ⟨s3, s4⟩ hof.1 (by omega)
      rw [ht3] at hskc
      obtain ⟨hkM', hskM'⟩ := List.getElem?_eq_some_iff.1 hskc
      generalize d.run s.b (r.f s.a) = tq at *
      generalize r.f s.a = fv at *
      simp [ht3, hrg]
      refine ⟨by omega, ?_⟩
      refine .one (sch [.pur 0, .pur 1, .pur 2, .pur 3, .pur 4, .pur 5, .pur 6, .pur 7, .pur 8, .pur 9, .pur 10, .pur 11, .pur 12, .pur 13, .pur 14, .pur 15, .pur 16, .pur 17, .pur 18, .pur 19, .pur 20, .eff 21 [0, 1, 2, 3], .pur 22, .pur 23, .eff 24 [0, 1], .eff 25 [], .pur 26, .eff 27 []]) (by kernel_rfl) ?_
      simp [hkM', hskM', s1, s2, s3, s4, n4, a5, hkf]
      refine .dval hrun rfl (by simp [Df.d]) rfl ?_
      have hn2D : ((metK nx ⟨0, 0⟩ k).take k).map (fun s => intsD (rowL nx (metK nx ⟨0, 0⟩ k) s)) ++ [intsD (rowL nx (metK nx ⟨0, 0⟩ (k + 1)) s)] = ((metK nx ⟨0, 0⟩ (k + 1)).take (k + 1)).map fun s => intsD (rowL nx (metK nx ⟨0, 0⟩ (k + 1)) s) := by
        have := congrArg (List.map intsD) hn2
        simpa [Function.comp_def] using this
      have hn1D : ∀ (f : Pr → D), ((metK nx ⟨0, 0⟩ k).take k).map f ++ [f s] = ((metK nx ⟨0, 0⟩ (k + 1)).take (k + 1)).map f := fun f => by rw [hn1]; simp
      have htr : List.take 3 ((rowG nx (metK nx ⟨0, 0⟩ k) s 3).map iD) = (rowL nx (metK nx ⟨0, 0⟩ (k + 1)) s).map iD := by
        rw [List.take_of_length_le (by rw [List.length_map, hrg]; exact Nat.le_refl _), hrd]
      have htr2 : List.take 3 (List.take 3 ((rowG nx (metK nx ⟨0, 0⟩ k) s 3).map iD)) = (rowL nx (metK nx ⟨0, 0⟩ (k + 1)) s).map iD := by
        rw [htr, List.take_of_length_le (by simp [rowL, suc])]
      have hn1a := hn1D fun s => bD (fn s)
      simp only [List.map_take] at hn2D hn1a
      have hml3 := meets_len (suc nx s) (metK nx ⟨0, 0⟩ k)
      have hk1l : k + 1 ≤ (metK nx ⟨0, 0⟩ (k + 1)).length := by
        rw [hms]
        have := (meets_prefix (suc nx s) (metK nx ⟨0, 0⟩ k)).length_le
        have h3 := congrArg List.length hn1
        rw [List.length_take, List.length_append, List.length_take] at h3
        simp at h3
        rw [hms] at h3
        omega
      have hk2l : (metK nx ⟨0, 0⟩ (k + 1)).length ≤ 43 := by rw [hms]; omega
      have hk44 : 44 - (k + 1) < 44 - k := by omega
      have hkl44 : k ≤ 43 := by omega
      have hwk : IntKind.i64.wrap ((k : Int) + 1) = ((k + 1 : Nat) : Int) := by rw [wrap64 (by omega) (by omega)]; omega
      rw [hms] at hn2D hn1a htr htr2
      rw [hfs] at hn1a
      simp [t1, t2, b5]
      refine ⟨⟨by omega, by omega, by omega⟩, k + 1, .mk ?_ ?_, ⟨hk1l, hk2l, by omega⟩, hk44⟩
      · simp [hms, hwk]
      · simp [htr, htr2, hn2D, hn1a, hms]
  · simp [show ¬ (k : Int) < (metK nx ⟨0, 0⟩ k).length by omega]
    have htk : (metK nx ⟨0, 0⟩ k).take k = metK nx ⟨0, 0⟩ k := List.take_of_length_le hkl
    have hres : D.agg [D.list ((metK nx ⟨0, 0⟩ k).map fun s => intsD (rowL nx (metK nx ⟨0, 0⟩ k) s)), D.list ((metK nx ⟨0, 0⟩ k).map fun s => bD (fn s))] = (autoL nx fn (metK nx ⟨0, 0⟩ k)).d := by
      simp only [autoL, Df.d, rowL, rowsD, bsD, List.map_map]; rfl
    have htt : ∀ {β : Type} (f : Pr → β), List.take k (List.take k (List.map f (metK nx ⟨0, 0⟩ k))) = (metK nx ⟨0, 0⟩ k).map f := fun f => by
      rw [List.take_take, Nat.min_self, ← List.map_take, htk]
    have hml4 : (metK nx ⟨0, 0⟩ k).length ≤ 40 ∨ 40 < (metK nx ⟨0, 0⟩ k).length := by omega
    obtain ⟨hok, hAx⟩ := hA k hkl (by omega)
    refine .ddropE (c_l10Small _ hok) rfl (by simp; rw [htt, htt, hres]) (by simp; omega) ?_
    rintro _ ⟨x, rfl, hx⟩
    have := hAx x hx
    simp [Df.d] at this ⊢
    exact this
end Go.Fw

/- What is exact of RewriteBack. -/
namespace Go.Fw
open Go Go.Proofs
set_option linter.unusedSectionVars false
set_option linter.unnecessarySimpa false

structure G9 where
  y : Df
  ok : Bool
theorem tp_back {x : AV} {v : D} {g : Nat → Nat} {base : Nat} {keys : List Nat} {res : List (Nat × Blk)} : (AV.tp [x, .d v]).back g base keys res = .tp [x.back g base keys res, .d v] := rfl
theorem totS_bound {n : Nat} : ∀ {L : List (List (List UInt8))}, (∀ x ∈ L, x.length ≤ n) → totS L ≤ L.length * n
  | [], _ => by simp [totS]
  | x :: t, h => by
    have h1 := h x (by simp)
    have h2 := totS_bound (L := t) fun y hy => h y (by simp [hy])
    have : totS (x :: t) = x.length + totS t := by simp [totS]
    rw [this, List.length_cons, Nat.add_mul]; omega
theorem Rw.small.tot {a : Rw} (h : a.small) : a.tot ≤ 2199024304128 := by
  have a3 := tot_bound h.row
  have a4 : a.next.length * 1048576 ≤ 1048576 * 1048576 := Nat.mul_le_mul_right _ h.next
  have a5 := totS_bound fun x hx => (h.orow x hx).1
  have a6 : a.out.length * 1048576 ≤ 1048576 * 1048576 := Nat.mul_le_mul_right _ h.out
  have a7 := h.fin
  unfold Rw.tot; omega
theorem BackIs.small {r : Rw} {d x : Df} {ok : Bool} (h : BackIs r d x ok) : x.small := by
  rcases h.cases with ⟨_, _, _, h, _⟩ | ⟨_, rfl⟩
  · exact small_of_okDf h.ok
  · exact small_nil
theorem rwOk (r : Rw) (h : r.small) : Fam2Ok 4000000000 5000000000 [(600, .ar 1 (r.fin.map sD))] 4000000001 (rowsI r.next) 5000000001 (rowsS r.out) := by
  have n1 := h.next
  have n2 := h.out
  have l1 := rowsI_len r.next
  have l2 := rowsS_len r.out
  refine ⟨⟨by omega, by omega, .inl (by omega), .inl (by omega)⟩, ⟨by omega, by omega, .inr (by omega), .inl (by omega), by omega⟩, fun q hq => ?_, by simp, by omega, by omega, by omega⟩
  simp only [List.mem_cons, List.not_mem_nil, or_false] at hq
  subst hq
  exact ⟨⟨by simp, by simp, .inl (by simp), .inl (by simp), by simp, by simp⟩, rfl⟩
theorem heapLe_famI {σ : AS} {used : List Nat} {L : List (List D)} {b : Nat} (h1 : ∀ i x, L[i]? = some x → σ.hp.heap (i + b) = some (.ar 1 x)) (h2 : ∀ j, b ≤ j → j < b + L.length → used.contains j = true ∨ outU used j = false) : heapLe σ used (famH b L) := by
  refine heapLe_fam _ _ fun i x hx => ⟨by rw [Nat.add_comm]; exact h1 i x hx, ?_⟩
  have := (List.getElem?_eq_some_iff.1 hx).1
  rcases h2 (b + i) (by omega) (by omega) with h | h
  · exact .inr h
  · simp only [outU, Bool.not_eq_false', Bool.or_eq_true, decide_eq_true_eq] at h
    exact h
set_option maxHeartbeats 4000000 in
set_option maxRecDepth 100000 in
theorem c_FnExactRewriteBack (r : Rw) (d : Df) (hr : r.fine) (hro : r.out.length ≤ 9223372036854775807) (hrf : r.fin.length ≤ 9223372036854775807) (hd : d.fine) : DCalls Try.prog 5 [.d r.d, .d d.d] fun y => y = .bool true := by
  refine dcalls_intro Ty.mixed Try.func5 rfl rfl rfl [2, 3] (by kernel_rfl) (by simp) ?_
  simp [Df.d, Rw.d]
  refine .ddat (c_szRewriter r 1048576 (by omega) hr hro hrf) rfl (by simp [Rw.d]) ?_
  rintro _ ⟨v, rfl, h1, h2, h3⟩
  simp
  intro hz
  have hrs := h3 hz
  refine .ddat (c_szDfa d v (by omega) hd) rfl (by simp [Df.d]) ?_
  rintro _ ⟨u, rfl, g1, g2, g3⟩
  simp
  intro hu
  have hds := g3 hu
  refine .cutAt { g : G9 // BackIs r d g.y g.ok } (fun g => [(2, rwQ r), (3, dpA d), (6, .ptr 600 0), (7, .d (.bool g.1.ok))]) (fun g => [(600, .bx [.d (rowsD g.1.y.next), .d (bsD g.1.y.ends)])]) [600]
    (schA [.pur 0, .pur 2] (.alt 1 [2] (schA [] (.alt 3 [] (schA [] (.alt 4 [] (sch [.pur 5, .pur 6, .pur 7, .eff 8 [0, 2, 5, 6, 7], .eff 9 [7], .pur 10]) 8 [0, 2] (sch [.eff 4 [], .pur 5, .pur 6, .pur 7, .eff 9 [7], .pur 10]))) 8 [0, 2] (sch [.eff 3 [], .eff 4 [], .pur 5, .pur 6, .pur 7, .eff 9 [7], .pur 10]))) 8 [0, 2] (sch [.eff 1 [2], .eff 3 [], .eff 4 [], .pur 5, .pur 6, .pur 7, .eff 9 [7], .pur 10]))) (by kernel_rfl) ?_ ?_
  · simp
    repeat' apply And.intro
    all_goals try rfl
    all_goals
      refine .ddat (c_toRewriter r hrs) rfl (by simp [Rw.d]) ?_
      rintro _ rfl
      simp
      repeat' apply And.intro
      all_goals try rfl
      all_goals
        refine .ddat (c_toDfa d hds) rfl (by simp [Df.d]) ?_
        rintro _ rfl
        simp [Rw.d, Df.d]
        repeat' apply And.intro
        all_goals try rfl
        all_goals
          refine .tdat (c_sRewriteBack r d hr hd) rfl (by simp [Df.d, Rw.d]) ?_
          rintro _ ⟨y, ok, rfl, hY⟩
          simp [Df.d]
          exact ⟨⟨y, ok⟩, by simp, hY, rfl, rfl⟩
  rintro ⟨⟨w, ok⟩, hw⟩
  simp only at hw
  simp
  have n1 := hrs.next
  have n2 := hrs.out
  have n3 := hrs.tot
  have n4 := hds.next
  have n5 := hds.ends
  have n6 := hds.tot
  have l1 := rowsI_len r.next
  have l2 := rowsS_len r.out
  have l3 := rowsI_len d.next
  have hokr := rwOk r hrs
  refine .freshG 7000000000 (f_toRewriter r hrs) rfl (by simp [Rw.d]) (by simp) (by omega) ?_
  rintro _ _ ⟨rfl, rfl⟩
  refine ⟨⟨hokr.nodup, hokr.rng, fun j hj => ?_⟩, ?_⟩
  · rw [rwR, fam2R_len] at hj
    simp at hj ⊢
    omega
  rw [rw_back hokr, rwR, hokr.newS]
  simp [rwAV]
  refine .freshG 6000000000 (f_toDfa d hds.next hds.row hds.ends) rfl (by simp [Df.d]) (by simp) (by omega) ?_
  rintro _ _ ⟨rfl, rfl⟩
  have hokx := dfOk 4000000000 600 4000000001 d (by omega) (by omega)
  refine ⟨⟨hokx.nodup, hokx.rng, fun j hj => ?_⟩, ?_⟩
  · rw [dfR, famR_len, rowsI_len] at hj
    simp at hj ⊢
    omega
  rw [df_back hokx (by omega), dfR, hokx.newS]
  simp [dfAV]
  have ef1 : ∀ (i : Nat) (x : List D), (rowsI r.next)[i]? = some x → ∀ (σ : AS) (o1 o2 b : Blk), (fam2S σ 7000000000 o1 o2 [b] (rowsI r.next ++ rowsS r.out)).hp.heap (i + 7000000003) = some (.ar 1 x) := fun i x hx σ o1 o2 b => fam2S_at1 hx (by simp only [List.length_cons, List.length_nil])
  have ef2 : ∀ (i : Nat) (x : List D), (rowsS r.out)[i]? = some x → ∀ (σ : AS) (o1 o2 b : Blk), (fam2S σ 7000000000 o1 o2 [b] (rowsI r.next ++ rowsS r.out)).hp.heap (i + (7000000003 + (rowsI r.next).length)) = some (.ar 1 x) := fun i x hx σ o1 o2 b => fam2S_at2 hx (by simp only [List.length_cons, List.length_nil])
  have eg : ∀ (i : Nat) (x : List D), (rowsI d.next)[i]? = some x → ∀ (σ : AS) (o b : Blk), (famS σ 6000000000 o [b] (rowsI d.next)).hp.heap (i + 6000000002) = some (.ar 1 x) := fun i x hx σ o b => famS_atN hx (by simp only [List.length_cons, List.length_nil])
  have hoffx : ∀ (j : Nat), 7000000000 ≤ j → ∀ (σ : AS) (o b : Blk), (famS σ 6000000000 o [b] (rowsI d.next)).hp.heap j = σ.hp.heap j := fun j hj σ o b => famS_high (by simp only [List.length_cons, List.length_nil]; omega)
  have ox0 := hoffx 7000000000 (by omega)
  have ox1 := hoffx 7000000001 (by omega)
  have ox2 := hoffx 7000000002 (by omega)
  refine .freshE 5000000000 (f_RewriteBack r d hr hd) (RwAt.view (O1 := 7000000000) (O2 := 7000000001) (F := 7000000002) (b1 := 7000000003) (b2 := (7000000003 + (rowsI r.next).length)) (r1 := 0) (r2 := 0) ⟨by simp [hoffx 7000000000 (by omega), hoffx 7000000001 (by omega), hoffx 7000000002 (by omega)], by simp [hoffx 7000000000 (by omega), hoffx 7000000001 (by omega), hoffx 7000000002 (by omega)], by simp [hoffx 7000000000 (by omega), hoffx 7000000001 (by omega), hoffx 7000000002 (by omega)], fun i x hx => by
      have e_hoffx := hoffx (i + 7000000003) (by omega)
      have hne : ∀ q : Nat, q < 5000000000 → ¬ i + 7000000003 = q := fun q h => by omega
      simp [e_hoffx, ef1 i x hx, hne], fun i x hx => by
      have e_hoffx := hoffx (i + (7000000003 + (rowsI r.next).length)) (by omega)
      have hne : ∀ q : Nat, q < 5000000000 → ¬ i + (7000000003 + (rowsI r.next).length) = q := fun q h => by omega
      simp [e_hoffx, ef2 i x hx, hne]⟩
    (DfAt.view (O := 6000000000) (E := 6000000001) (b := 6000000002) (r := 0) ⟨by simp, by simp, fun i x hx => by
      have hi : i < 1048576 := by have := (List.getElem?_eq_some_iff.1 hx).1; omega
      have hne : ∀ q : Nat, q < 5000000000 → ¬ i + 6000000002 = q := fun q h => by omega
      simp [eg i x hx, hne]⟩ (zs := []) rfl trivial)) (by omega) ?_
  rintro _ _ (⟨y, m, hy, yl, ye, rfl, rfl⟩ | ⟨rfl, rfl, hy⟩)
  · obtain ⟨rfl, rfl⟩ := hy.uniq hw
    have hys := hy.small
    have y3 := hys.tot
    have yrl := rowsI_len y.next
    have hoky := dfOk 3000000000 3000000001 3000000002 y (by omega) (by omega)
    refine ⟨⟨hoky.nodup, hoky.rng, fun j hj => ?_, by simp [dfAV, AV.flatR, AV.flat2, AV.flat1, D.flat, D.one], dfR_flat⟩, ?_⟩
    · rw [dfR, famR_len, rowsI_len] at hj
      simp at hj ⊢
      omega
    rw [tp_back, df_back hoky (by omega), dfR, hoky.newS]
    simp [dfAV]
    have ey : ∀ (i : Nat) (x : List D), (rowsI y.next)[i]? = some x → ∀ (σ : AS) (o b : Blk), (famS σ 5000000000 o [b] (rowsI y.next)).hp.heap (i + 5000000002) = some (.ar 1 x) := fun i x hx σ o b => famS_atN hx (by simp only [List.length_cons, List.length_nil])
    have hoffy : ∀ (j : Nat), 6000000000 ≤ j → ∀ (σ : AS) (o b : Blk), (famS σ 5000000000 o [b] (rowsI y.next)).hp.heap j = σ.hp.heap j := fun j hj σ o b => famS_high (by simp only [List.length_cons, List.length_nil]; omega)
    refine .dvalV (c_eqDfa y y hys) (DfAt.view (O := 5000000000) (E := 5000000001) (b := 5000000002) (r := m) ⟨by simp, by simp, fun i x hx => by
      have hi : i < 1048576 := by have := (List.getElem?_eq_some_iff.1 hx).1; omega
      have hne : ∀ q : Nat, q < 5000000000 → ¬ i + 5000000002 = q := fun q h => by omega
      simp [ey i x hx, hne]⟩ (zs := [.d y.d]) rfl ⟨trivial, trivial⟩) rfl ?_
    simp
    refine .one (sch [.pur 0, .pur 1, .eff 2 [0], .eff 3 [], .pur 4]) (by kernel_rfl) ?_
    simp
    refine .ddat (c_toRewriter r hrs) rfl (by simp [Rw.d]) ?_
    rintro _ rfl
    simp
    refine .dvalV (c_eqRewriter r r hrs) (RwAt.view (O1 := 7000000000) (O2 := 7000000001) (F := 7000000002) (b1 := 7000000003) (b2 := (7000000003 + (rowsI r.next).length)) (r1 := 0) (r2 := 0) ⟨by simp [hoffy 7000000000 (by omega), hoffy 7000000001 (by omega), hoffy 7000000002 (by omega), hoffx 7000000000 (by omega), hoffx 7000000001 (by omega), hoffx 7000000002 (by omega)], by simp [hoffy 7000000000 (by omega), hoffy 7000000001 (by omega), hoffy 7000000002 (by omega), hoffx 7000000000 (by omega), hoffx 7000000001 (by omega), hoffx 7000000002 (by omega)], by simp [hoffy 7000000000 (by omega), hoffy 7000000001 (by omega), hoffy 7000000002 (by omega), hoffx 7000000000 (by omega), hoffx 7000000001 (by omega), hoffx 7000000002 (by omega)], fun i x hx => by
      have e_hoffy := hoffy (i + 7000000003) (by omega)
      have e_hoffx := hoffx (i + 7000000003) (by omega)
      have hne : ∀ q : Nat, q < 5000000000 → ¬ i + 7000000003 = q := fun q h => by omega
      simp [e_hoffy, e_hoffx, ef1 i x hx, hne], fun i x hx => by
      have e_hoffy := hoffy (i + (7000000003 + (rowsI r.next).length)) (by omega)
      have e_hoffx := hoffx (i + (7000000003 + (rowsI r.next).length)) (by omega)
      have hne : ∀ q : Nat, q < 5000000000 → ¬ i + (7000000003 + (rowsI r.next).length) = q := fun q h => by omega
      simp [e_hoffy, e_hoffx, ef2 i x hx, hne]⟩ (zs := [.d r.d]) ⟨_, _, rfl, trivial, trivial⟩) rfl ?_
    simp
    refine .one (sch [.pur 0, .pur 1, .eff 2 [0], .eff 3 [], .pur 4]) (by kernel_rfl) ?_
    simp
    refine .ddat (c_toDfa d hds) rfl (by simp [Df.d]) ?_
    rintro _ rfl
    simp
    refine .dvalV (c_eqDfa d d hds) (DfAt.view (O := 6000000000) (E := 6000000001) (b := 6000000002) (r := 0) ⟨by simp [hoffy 6000000000 (by omega), hoffy 6000000001 (by omega)], by simp [hoffy 6000000000 (by omega), hoffy 6000000001 (by omega)], fun i x hx => by
      have hi : i < 1048576 := by have := (List.getElem?_eq_some_iff.1 hx).1; omega
      have e_hoffy := hoffy (i + 6000000002) (by omega)
      have hne : ∀ q : Nat, q < 5000000000 → ¬ i + 6000000002 = q := fun q h => by omega
      simp [e_hoffy, eg i x hx, hne]⟩ (zs := [.d d.d]) rfl ⟨trivial, trivial⟩) rfl ?_
    simp
    have hN : RwNum 7000000000 7000000001 7000000002 7000000003 (7000000003 + (rowsI r.next).length) r.next.length r.out.length := ⟨⟨by omega, .inl (by omega), .inl (by omega)⟩, ⟨by omega, .inl (by omega), .inl (by omega), by omega⟩, ⟨by omega, .inl (by omega), .inl (by omega), by omega, by omega⟩, ⟨by omega, by omega⟩, .inl (by omega)⟩
    refine .lendRw (a := r) (k := 1) (by omega) n1 n2 (by omega) hN (O1 := 7000000000) (O2 := 7000000001) (F := 7000000002) (b1 := 7000000003) (b2 := (7000000003 + (rowsI r.next).length)) (r1 := 0) (r2 := 0) ⟨by simp [hoffy 7000000000 (by omega), hoffy 7000000001 (by omega), hoffy 7000000002 (by omega), hoffx 7000000000 (by omega), hoffx 7000000001 (by omega), hoffx 7000000002 (by omega)], by simp [hoffy 7000000000 (by omega), hoffy 7000000001 (by omega), hoffy 7000000002 (by omega), hoffx 7000000000 (by omega), hoffx 7000000001 (by omega), hoffx 7000000002 (by omega)], by simp [hoffy 7000000000 (by omega), hoffy 7000000001 (by omega), hoffy 7000000002 (by omega), hoffx 7000000000 (by omega), hoffx 7000000001 (by omega), hoffx 7000000002 (by omega)], fun i x hx => by
      have e_hoffy := hoffy (i + 7000000003) (by omega)
      have e_hoffx := hoffx (i + 7000000003) (by omega)
      have hne : ∀ q : Nat, q < 5000000000 → ¬ i + 7000000003 = q := fun q h => by omega
      simp [e_hoffy, e_hoffx, ef1 i x hx, hne], fun i x hx => by
      have e_hoffy := hoffy (i + (7000000003 + (rowsI r.next).length)) (by omega)
      have e_hoffx := hoffx (i + (7000000003 + (rowsI r.next).length)) (by omega)
      have hne : ∀ q : Nat, q < 5000000000 → ¬ i + (7000000003 + (rowsI r.next).length) = q := fun q h => by omega
      simp [e_hoffy, e_hoffx, ef2 i x hx, hne]⟩ ?_
    have soR : ∀ (j : Nat), j < 7000000000 → ∀ hp : HP, (setRw hp 7000000000 7000000001 7000000002 7000000003 (7000000003 + (rowsI r.next).length) r 1 0 0).heap j = hp.heap j := fun j hj hp => setRw_off ⟨by omega, by omega, by omega, .inl (by omega), .inl (by omega)⟩
    have hkr : 1 + r.tot ≤ 2199024304129 ∧ 1 ≤ 1 + r.tot := by omega
    generalize 1 + r.tot = kr at *
    simp [soR]
    refine .lendDf (a := d) (k := kr) n4 (by omega) (by omega) (O := 6000000000) (E := 6000000001) (b := 6000000002) (r := 0) ⟨by simp [soR 6000000000 (by omega), soR 6000000001 (by omega), hoffy 6000000000 (by omega), hoffy 6000000001 (by omega)], by simp [soR 6000000000 (by omega), soR 6000000001 (by omega), hoffy 6000000000 (by omega), hoffy 6000000001 (by omega)], fun i x hx => by
      have hi : i < 1048576 := by have := (List.getElem?_eq_some_iff.1 hx).1; omega
      have e_soR := soR (i + 6000000002) (by omega)
      have e_hoffy := hoffy (i + 6000000002) (by omega)
      have hne : ∀ q : Nat, q < 5000000000 → ¬ i + 6000000002 = q := fun q h => by omega
      simp [e_soR, e_hoffy, eg i x hx, hne]⟩ ?_
    have soD : ∀ (j : Nat), j < 6000000000 → ∀ (hp : HP) (x z : Blk), (setAll hp ((6000000000, x) :: (6000000001, z) :: famH 6000000002 (rowsI (markDf d kr).next))).heap j = hp.heap j := fun j hj hp x z => setDf_off (by omega)
    have hkd : 1 ≤ kr + tot d.next + d.ends.length := by omega
    generalize kr + tot d.next + d.ends.length = kd at *
    simp [show ¬ (kd : Int) < 0 by omega, soD, soR]
    refine .flatV (c_eqDfa y y hys) rfl (DfAt.view (O := 5000000000) (E := 5000000001) (b := 5000000002) (r := m) ⟨by simp [soD 5000000000 (by omega), soD 5000000001 (by omega), soR 5000000000 (by omega), soR 5000000001 (by omega)], by simp [soD 5000000000 (by omega), soD 5000000001 (by omega), soR 5000000000 (by omega), soR 5000000001 (by omega)], fun i x hx => by
      have hi : i < 1048576 := by have := (List.getElem?_eq_some_iff.1 hx).1; omega
      have e_soD := soD (i + 5000000002) (by omega)
      have e_soR := soR (i + 5000000002) (by omega)
      have hne : ∀ q : Nat, q < 5000000000 → ¬ i + 5000000002 = q := fun q h => by omega
      simp [e_soD, e_soR, ey i x hx, hne]⟩ (zs := [.d y.d]) rfl ⟨trivial, trivial⟩) (by simp) rfl rfl ?_
    simp [soD, soR]
    refine .lendDf (a := y) (k := 1) (by omega) (by omega) (by omega) (O := 5000000000) (E := 5000000001) (b := 5000000002) (r := m) ⟨by simp [soD 5000000000 (by omega), soD 5000000001 (by omega), soR 5000000000 (by omega), soR 5000000001 (by omega)], by simp [soD 5000000000 (by omega), soD 5000000001 (by omega), soR 5000000000 (by omega), soR 5000000001 (by omega)], fun i x hx => by
      have hi : i < 1048576 := by have := (List.getElem?_eq_some_iff.1 hx).1; omega
      have e_soD := soD (i + 5000000002) (by omega)
      have e_soR := soR (i + 5000000002) (by omega)
      have hne : ∀ q : Nat, q < 5000000000 → ¬ i + 5000000002 = q := fun q h => by omega
      simp [e_soD, e_soR, ey i x hx, hne]⟩ ?_
    have soY : ∀ (j : Nat), j < 5000000000 → ∀ (hp : HP) (x z : Blk), (setAll hp ((5000000000, x) :: (5000000001, z) :: famH 5000000002 (rowsI (markDf y 1).next))).heap j = hp.heap j := fun j hj hp x z => setDf_off (by omega)
    have hheld := c_heldDfa y 1 (by omega) (by omega)
    have hky : 1 ≤ 1 + tot y.next + y.ends.length := by omega
    generalize 1 + tot y.next + y.ends.length = ky at *
    have hnn : ¬ (ky : Int) < 0 := by omega
    simp [soY, soD, soR]
    refine .dvalV hheld (DfAt.viewM (O := 5000000000) (E := 5000000001) (b := 5000000002) (r := m) ⟨by simp; exact (setDf_at (by omega)).o, by simp; exact (setDf_at (by omega)).e, fun i x hx => by simp; exact (setDf_at (by omega)).f i x hx⟩ (zs := [iA (1 : Nat)]) rfl ⟨trivial, trivial⟩) rfl ?_
    simp [soY, soD, soR, hnn]
    have hou : ∀ j, (5000000002 ≤ j ∧ j < 5000000002 + y.next.length) → outU (600 :: 1000 :: 1500 :: 5000000000 :: 5000000001 :: famU 5000000002 y.next.length) j = false := fun j hj => by
      simp only [outU, Bool.not_eq_false', Bool.or_eq_true, List.contains_iff_mem, List.mem_cons, famU_mem]
      exact .inr (.inr (.inr (.inr (.inr (.inr hj)))))
    refine .cutAt Unit (fun _ => [(6, .ptr 600 0), (7, .d (.bool true)), (10, .ptr 1000 0), (13, iA ky), (15, .ptr 1500 0), (16, .d (.bool true))]) (fun _ => (600, .bx [.d (rowsD y.next), .d (bsD y.ends)]) :: (1000, .bx [.sl 1 5000000000 0 y.next.length, .sl 1 5000000001 0 y.ends.length]) :: (1500, .bx [.d (rowsD y.next), .d (bsD y.ends)]) :: (5000000000, .bx (outY 5000000002 (rowsI (markDf y 1).next) m)) :: (5000000001, .ar 1 ((markDf y 1).ends.map bD)) :: famH 5000000002 (rowsI (markDf y 1).next)) (600 :: 1000 :: 1500 :: 5000000000 :: 5000000001 :: famU 5000000002 y.next.length) (schA [.pur 0, .pur 2] (.alt 1 [2] (schA [] (.alt 3 [] (schA [] (.alt 4 [] (sch [.pur 5, .pur 6, .pur 7, .eff 8 [0, 2, 5, 6, 7], .eff 9 [7], .pur 10]) 8 [0, 2] (sch [.eff 4 [], .pur 5, .pur 6, .pur 7, .eff 9 [7], .pur 10]))) 8 [0, 2] (sch [.eff 3 [], .eff 4 [], .pur 5, .pur 6, .pur 7, .eff 9 [7], .pur 10]))) 8 [0, 2] (sch [.eff 1 [2], .eff 3 [], .eff 4 [], .pur 5, .pur 6, .pur 7, .eff 9 [7], .pur 10]))) (by kernel_rfl) ?_ ?_
    · simp
      repeat' apply And.intro
      all_goals try rfl
      all_goals
        refine .ddat (c_toRewriter r hrs) rfl (by simp [Rw.d]) ?_
        rintro _ rfl
        simp
        repeat' apply And.intro
        all_goals try rfl
        all_goals
          refine .ddat (c_toDfa d hds) rfl (by simp [Df.d]) ?_
          rintro _ rfl
          simp [Rw.d, Df.d]
          repeat' apply And.intro
          all_goals try rfl
          all_goals
            refine .tdat (c_RewriteBack r d hr hd) rfl (by simp [Df.d, Rw.d]) ?_
            rintro _ ⟨y', ok', rfl, hY'⟩
            obtain ⟨rfl, rfl⟩ := hy.uniq hY'
            simp [Df.d, soY, soD, soR]
            repeat' apply And.intro
            · exact (setDf_at (by omega)).o
            · refine outY_kp fun i hi => ?_
              rw [markDf_rows] at hi
              exact hou _ ⟨by omega, by omega⟩
            · exact (setDf_at (by omega)).e
            · refine heapLe_famI (fun i x hx => ?_) (fun j h1 h2 => ?_)
              · have hne : ∀ q : Nat, q < 5000000000 → ¬ i + 5000000002 = q := fun q h => by omega
                simp [hne]
                exact (setDf_at (by omega)).f i x hx
              · rw [markDf_rows] at h2
                exact .inr (hou j ⟨h1, h2⟩)
    rintro ⟨⟩
    simp
    refine .dval (c_eqDfa y y hys) rfl (by simp) rfl ?_
    simp
    refine .dvalV hheld (DfAt.viewM (O := 5000000000) (E := 5000000001) (b := 5000000002) (r := m) ⟨by simp, by simp, fun i x hx => by
      have hne : ∀ q : Nat, q < 5000000002 → ¬ i + 5000000002 = q := fun q h => by omega
      simp [hne, famH_ati hx]⟩ (zs := [iA (1 : Nat)]) rfl ⟨trivial, trivial⟩) rfl ?_
    simp [hnn]
  · obtain ⟨rfl, rfl⟩ := hy.uniq hw
    refine ⟨⟨by simp, by simp, fun j hj => by simp at hj, rfl, rfl⟩, ?_⟩
    simp [newL, newBs, AV.kp, AV.kpL, AV.ren, AV.renL]
    refine .dval (c_eqDfa ⟨[], []⟩ ⟨[], []⟩ small_nil) rfl (by simp) rfl ?_
    simp
    refine .one (sch [.pur 0, .pur 1, .eff 2 [0], .eff 3 [], .pur 4]) (by kernel_rfl) ?_
    simp
    refine .ddat (c_toRewriter r hrs) rfl (by simp [Rw.d]) ?_
    rintro _ rfl
    simp
    refine .dvalV (c_eqRewriter r r hrs) (RwAt.view (O1 := 7000000000) (O2 := 7000000001) (F := 7000000002) (b1 := 7000000003) (b2 := (7000000003 + (rowsI r.next).length)) (r1 := 0) (r2 := 0) ⟨by simp [hoffx 7000000000 (by omega), hoffx 7000000001 (by omega), hoffx 7000000002 (by omega)], by simp [hoffx 7000000000 (by omega), hoffx 7000000001 (by omega), hoffx 7000000002 (by omega)], by simp [hoffx 7000000000 (by omega), hoffx 7000000001 (by omega), hoffx 7000000002 (by omega)], fun i x hx => by
      have e_hoffx := hoffx (i + 7000000003) (by omega)
      have hne : ∀ q : Nat, q < 5000000000 → ¬ i + 7000000003 = q := fun q h => by omega
      simp [e_hoffx, ef1 i x hx, hne], fun i x hx => by
      have e_hoffx := hoffx (i + (7000000003 + (rowsI r.next).length)) (by omega)
      have hne : ∀ q : Nat, q < 5000000000 → ¬ i + (7000000003 + (rowsI r.next).length) = q := fun q h => by omega
      simp [e_hoffx, ef2 i x hx, hne]⟩ (zs := [.d r.d]) ⟨_, _, rfl, trivial, trivial⟩) rfl ?_
    simp
    refine .one (sch [.pur 0, .pur 1, .eff 2 [0], .eff 3 [], .pur 4]) (by kernel_rfl) ?_
    simp
    refine .ddat (c_toDfa d hds) rfl (by simp [Df.d]) ?_
    rintro _ rfl
    simp
    refine .dvalV (c_eqDfa d d hds) (DfAt.view (O := 6000000000) (E := 6000000001) (b := 6000000002) (r := 0) ⟨by simp, by simp, fun i x hx => by
      have hi : i < 1048576 := by have := (List.getElem?_eq_some_iff.1 hx).1; omega
      have hne : ∀ q : Nat, q < 5000000000 → ¬ i + 6000000002 = q := fun q h => by omega
      simp [eg i x hx, hne]⟩ (zs := [.d d.d]) rfl ⟨trivial, trivial⟩) rfl ?_
    simp
    have hN : RwNum 7000000000 7000000001 7000000002 7000000003 (7000000003 + (rowsI r.next).length) r.next.length r.out.length := ⟨⟨by omega, .inl (by omega), .inl (by omega)⟩, ⟨by omega, .inl (by omega), .inl (by omega), by omega⟩, ⟨by omega, .inl (by omega), .inl (by omega), by omega, by omega⟩, ⟨by omega, by omega⟩, .inl (by omega)⟩
    refine .lendRw (a := r) (k := 1) (by omega) n1 n2 (by omega) hN (O1 := 7000000000) (O2 := 7000000001) (F := 7000000002) (b1 := 7000000003) (b2 := (7000000003 + (rowsI r.next).length)) (r1 := 0) (r2 := 0) ⟨by simp [hoffx 7000000000 (by omega), hoffx 7000000001 (by omega), hoffx 7000000002 (by omega)], by simp [hoffx 7000000000 (by omega), hoffx 7000000001 (by omega), hoffx 7000000002 (by omega)], by simp [hoffx 7000000000 (by omega), hoffx 7000000001 (by omega), hoffx 7000000002 (by omega)], fun i x hx => by
      have e_hoffx := hoffx (i + 7000000003) (by omega)
      have hne : ∀ q : Nat, q < 5000000000 → ¬ i + 7000000003 = q := fun q h => by omega
      simp [e_hoffx, ef1 i x hx, hne], fun i x hx => by
      have e_hoffx := hoffx (i + (7000000003 + (rowsI r.next).length)) (by omega)
      have hne : ∀ q : Nat, q < 5000000000 → ¬ i + (7000000003 + (rowsI r.next).length) = q := fun q h => by omega
      simp [e_hoffx, ef2 i x hx, hne]⟩ ?_
    have soR : ∀ (j : Nat), j < 7000000000 → ∀ hp : HP, (setRw hp 7000000000 7000000001 7000000002 7000000003 (7000000003 + (rowsI r.next).length) r 1 0 0).heap j = hp.heap j := fun j hj hp => setRw_off ⟨by omega, by omega, by omega, .inl (by omega), .inl (by omega)⟩
    have hkr : 1 + r.tot ≤ 2199024304129 ∧ 1 ≤ 1 + r.tot := by omega
    generalize 1 + r.tot = kr at *
    simp [soR]
    refine .lendDf (a := d) (k := kr) n4 (by omega) (by omega) (O := 6000000000) (E := 6000000001) (b := 6000000002) (r := 0) ⟨by simp [soR 6000000000 (by omega), soR 6000000001 (by omega)], by simp [soR 6000000000 (by omega), soR 6000000001 (by omega)], fun i x hx => by
      have hi : i < 1048576 := by have := (List.getElem?_eq_some_iff.1 hx).1; omega
      have e_soR := soR (i + 6000000002) (by omega)
      have hne : ∀ q : Nat, q < 5000000000 → ¬ i + 6000000002 = q := fun q h => by omega
      simp [e_soR, eg i x hx, hne]⟩ ?_
    have soD : ∀ (j : Nat), j < 6000000000 → ∀ (hp : HP) (x z : Blk), (setAll hp ((6000000000, x) :: (6000000001, z) :: famH 6000000002 (rowsI (markDf d kr).next))).heap j = hp.heap j := fun j hj hp x z => setDf_off (by omega)
    have hkd : 1 ≤ kr + tot d.next + d.ends.length := by omega
    generalize kr + tot d.next + d.ends.length = kd at *
    simp [show ¬ (kd : Int) < 0 by omega, soD, soR]
    refine .flat (fun _ => c_eqDfa ⟨[], []⟩ ⟨[], []⟩ small_nil) rfl (by simp) rfl rfl ?_
    simp [soD, soR]
    refine .dval (c_markDfa0 1) rfl (by simp) rfl ?_
    simp [soD, soR]
    refine .dval (c_heldDfa ⟨[], []⟩ 1 (by simp) (by simp [tot])) rfl (by simp) rfl ?_
    simp [soD, soR, tot]
    refine .cutAt Unit (fun _ => [(6, .ptr 600 0), (7, .d (.bool false)), (10, .ptr 1000 0), (13, iA 1), (15, .ptr 1500 0), (16, .d (.bool false))]) (fun _ => [(600, .bx [.d (rowsD []), .d (bsD [])]), (1000, .bx [.nl, .nl]), (1500, .bx [.d (rowsD []), .d (bsD [])])]) [600, 1000, 1500] (schA [.pur 0, .pur 2] (.alt 1 [2] (schA [] (.alt 3 [] (schA [] (.alt 4 [] (sch [.pur 5, .pur 6, .pur 7, .eff 8 [0, 2, 5, 6, 7], .eff 9 [7], .pur 10]) 8 [0, 2] (sch [.eff 4 [], .pur 5, .pur 6, .pur 7, .eff 9 [7], .pur 10]))) 8 [0, 2] (sch [.eff 3 [], .eff 4 [], .pur 5, .pur 6, .pur 7, .eff 9 [7], .pur 10]))) 8 [0, 2] (sch [.eff 1 [2], .eff 3 [], .eff 4 [], .pur 5, .pur 6, .pur 7, .eff 9 [7], .pur 10]))) (by kernel_rfl) ?_ ?_
    · simp
      repeat' apply And.intro
      all_goals try rfl
      all_goals
        refine .ddat (c_toRewriter r hrs) rfl (by simp [Rw.d]) ?_
        rintro _ rfl
        simp
        repeat' apply And.intro
        all_goals try rfl
        all_goals
          refine .ddat (c_toDfa d hds) rfl (by simp [Df.d]) ?_
          rintro _ rfl
          simp [Rw.d, Df.d]
          repeat' apply And.intro
          all_goals try rfl
          all_goals
            refine .tdat (c_RewriteBack r d hr hd) rfl (by simp [Df.d, Rw.d]) ?_
            rintro _ ⟨y', ok', rfl, hY'⟩
            obtain ⟨rfl, rfl⟩ := hy.uniq hY'
            simp [Df.d, soD, soR]
    rintro ⟨⟩
    simp
    refine .dval (c_eqDfa ⟨[], []⟩ ⟨[], []⟩ small_nil) rfl (by simp) rfl ?_
    simp
    refine .dval (c_heldDfa ⟨[], []⟩ 1 (by simp) (by simp [tot])) rfl (by simp) rfl ?_
    simp [tot]
end Go.Fw
