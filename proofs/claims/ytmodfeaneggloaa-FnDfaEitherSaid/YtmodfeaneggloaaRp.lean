/- Two automata side by side: the smallest automaton of their pairs, on both sides. -/
import Derived.Test.YtmodfeaneggloaaQg
import Derived.Test.YtmodfeaneggloaaOp
import Derived.Test.YtmodfeaneggloaaOf
import Derived.Test.YtmodfeaneggloaaRc
set_option linter.unusedSimpArgs false
set_option linter.unusedVariables false
namespace Go.Fw
open Go Go.Proofs
set_option linter.unusedSectionVars false
set_option linter.unnecessarySimpa false

section
variable {S : Type} [DecidableEq S] {nx : S → Int → S} {s0 : S}
theorem metK_over {k1 k2 m : Nat} (h1 : (metK nx s0 k1).length ≤ k1) (h2 : (metK nx s0 k1).length ≤ m) (h3 : m < (metK nx s0 k2).length) : False := by
  have : (metK nx s0 k2).length ≤ (metK nx s0 k1).length := by
    rcases Nat.le_total k1 k2 with h | h
    · rw [metK_stable h1 h]; exact Nat.le_refl _
    · exact (metK_prefix h).length_le
  omega
end

/-- The smallest automaton of a system of states, if there are not more than 40. -/
def SmallIs {S : Type} [DecidableEq S] (nx : S → Int → S) (s0 : S) (fin : S → Bool) (x : Df) (ok : Bool) : Prop :=
  (ok = true ∧ (∃ k, (metK nx s0 k).length ≤ k ∧ (metK nx s0 k).length ≤ 40) ∧ Canon x ∧ Same (x.lang 0) (langS nx fin s0)) ∨ (ok = false ∧ x = ⟨[], []⟩ ∧ ∃ k, 40 < (metK nx s0 k).length)
theorem SmallIs.uniq {S : Type} [DecidableEq S] {nx : S → Int → S} {s0 : S} {fin : S → Bool} {x y : Df} {ok ok' : Bool} (h : SmallIs nx s0 fin x ok) (h' : SmallIs nx s0 fin y ok') : x = y ∧ ok = ok' := by
  rcases h with ⟨rfl, ⟨k, h1, h2⟩, h3, h4⟩ | ⟨rfl, rfl, k, h1⟩ <;> rcases h' with ⟨rfl, ⟨k', g1, g2⟩, g3, g4⟩ | ⟨rfl, rfl, k', g1⟩
  · exact ⟨h3.uniq g3 (h4.trans g4.symm), rfl⟩
  · exact (metK_over h1 h2 g1).elim
  · exact (metK_over g1 g2 h1).elim
  · exact ⟨rfl, rfl⟩
theorem SmallIs.ok {S : Type} [DecidableEq S] {nx : S → Int → S} {s0 : S} {fin : S → Bool} {x : Df} {ok : Bool} (h : SmallIs nx s0 fin x ok) (ho : ok = true) : Canon x ∧ Same (x.lang 0) (langS nx fin s0) := by
  rcases h with ⟨_, _, h3, h4⟩ | ⟨h, _⟩
  · exact ⟨h3, h4⟩
  · rw [h] at ho; cases ho
theorem SmallIs.of_min {S : Type} [DecidableEq S] {nx : S → Int → S} {s0 : S} {fin : S → Bool} {k : Nat} {x : Df} (h1 : (metK nx s0 k).length ≤ k) (h2 : (metK nx s0 k).length ≤ 40) (hx : IsMin (autoL nx fin (metK nx s0 k)) x) : SmallIs nx s0 fin x true :=
  .inl ⟨rfl, ⟨k, h1, h2⟩, hx.1, hx.2.trans (AtL.same fin (metK_whole h1) ⟨by omega, (metK_whole h1).head⟩)⟩

abbrev SideIs (a b : Df) (g : Bool → Bool → Bool) : Df → Bool → Prop := SmallIs (nxP a b) ⟨0, 0⟩ (finG a b g)
theorem lang_nxP (a b : Df) (g : Bool → Bool → Bool) : ∀ (w : List Int) (s : Pr), langS (nxP a b) (finG a b g) s w = g (a.lang s.a w) (b.lang s.b w)
  | [], _ => rfl
  | c :: w, s => lang_nxP a b g w (nxP a b s c)
theorem SideIs.lang {a b : Df} {g : Bool → Bool → Bool} {x : Df} {ok : Bool} (h : SideIs a b g x ok) (ho : ok = true) : Canon x ∧ Same (x.lang 0) (fun w => g (a.lang 0 w) (b.lang 0 w)) :=
  ⟨(SmallIs.ok h ho).1, (SmallIs.ok h ho).2.trans fun w _ => lang_nxP a b g w ⟨0, 0⟩⟩
theorem SideIs.swap {a b : Df} {g : Bool → Bool → Bool} (hg : ∀ x y, g x y = g y x) {x y : Df} {ok ok' : Bool} (h : SideIs a b g x ok) (h' : SideIs b a g y ok') : x = y ∧ ok = ok' := by
  have hr : ∀ k, (metK (nxP a b) ⟨0, 0⟩ k).length = (metK (nxP b a) ⟨0, 0⟩ k).length := fun k =>
    (metK_rel (R := fun (s t : Pr) => t = ⟨s.b, s.a⟩) (nx := nxP a b) (nx' := nxP b a) (fun s t s' t' e e' => by
      subst e; subst e'
      constructor
      · rintro rfl; rfl
      · intro e; cases s; cases s'; simp at e; simp [e]) rfl (fun s t e => by subst e; exact ⟨rfl, rfl, rfl⟩) k).1
  have hl : SideIs a b g y ok' := by
    rcases h' with ⟨rfl, ⟨k, h1, h2⟩, h3, h4⟩ | ⟨rfl, rfl, k, h1⟩
    · refine .inl ⟨rfl, ⟨k, by rw [hr]; exact h1, by rw [hr]; exact h2⟩, h3, h4.trans fun w _ => ?_⟩
      rw [lang_nxP, lang_nxP]; exact hg _ _
    · exact .inr ⟨rfl, rfl, k, by rw [hr]; exact h1⟩
  exact SmallIs.uniq h hl

def SideR (a b : Df) (g : Bool → Bool → Bool) (r : List D) : Prop := ∃ (x : Df) (ok : Bool), r = [x.d, .bool ok] ∧ SideIs a b g x ok
/-- The same, for any automata. -/
def SidedIs (a b : Df) (g : Bool → Bool → Bool) (x : Df) (ok : Bool) : Prop := (okDf a = true ∧ okDf b = true) ∧ SideIs a b g x ok ∨ ¬ (okDf a = true ∧ okDf b = true) ∧ x = ⟨[], []⟩ ∧ ok = false
def SidedR (a b : Df) (g : Bool → Bool → Bool) (r : List D) : Prop := ∃ (x : Df) (ok : Bool), r = [x.d, .bool ok] ∧ SidedIs a b g x ok
theorem SidedIs.uniq {a b : Df} {g : Bool → Bool → Bool} {x y : Df} {ok ok' : Bool} (h : SidedIs a b g x ok) (h' : SidedIs a b g y ok') : x = y ∧ ok = ok' := by
  rcases h with ⟨h1, h2⟩ | ⟨h1, rfl, rfl⟩ <;> rcases h' with ⟨g1, g2⟩ | ⟨g1, rfl, rfl⟩
  · exact SmallIs.uniq h2 g2
  · exact absurd h1 g1
  · exact absurd g1 h1
  · exact ⟨rfl, rfl⟩
theorem SidedIs.swap {a b : Df} {g : Bool → Bool → Bool} (hg : ∀ x y, g x y = g y x) {x y : Df} {ok ok' : Bool} (h : SidedIs a b g x ok) (h' : SidedIs b a g y ok') : x = y ∧ ok = ok' := by
  rcases h with ⟨h1, h2⟩ | ⟨h1, rfl, rfl⟩ <;> rcases h' with ⟨g1, g2⟩ | ⟨g1, rfl, rfl⟩
  · exact SideIs.swap hg h2 g2
  · exact absurd h1.symm g1
  · exact absurd g1.symm h1
  · exact ⟨rfl, rfl⟩
theorem SidedIs.none {a b : Df} {g : Bool → Bool → Bool} {x : Df} {ok : Bool} (h : SidedIs a b g x ok) (ho : ok = false) : x = ⟨[], []⟩ := by
  rcases h with ⟨_, ⟨h, _⟩ | ⟨_, h, _⟩⟩ | ⟨_, h, _⟩
  · rw [ho] at h; cases h
  · exact h
  · exact h
theorem SidedIs.lang {a b : Df} {g : Bool → Bool → Bool} {x : Df} {ok : Bool} (h : SidedIs a b g x ok) (ho : ok = true) : okDf a = true ∧ okDf b = true ∧ Canon x ∧ Same (x.lang 0) (fun w => g (a.lang 0 w) (b.lang 0 w)) := by
  rcases h with ⟨h1, h2⟩ | ⟨_, _, h⟩
  · exact ⟨h1.1, h1.2, SideIs.lang h2 ho⟩
  · rw [ho] at h; cases h
theorem SidedIs.fine {a b : Df} {g : Bool → Bool → Bool} {x : Df} {ok : Bool} (h : SidedIs a b g x ok) : x.fine := by
  cases ok with
  | true => exact fine_of_okDf (h.lang rfl).2.2.1.ok
  | false => rw [h.none rfl]; exact ⟨by simp, by simp, by simp⟩
theorem SidedIs.slim {a b : Df} {g : Bool → Bool → Bool} {x : Df} {ok : Bool} (h : SidedIs a b g x ok) : x.slim := by
  cases ok with
  | true => exact slim_of (h.lang rfl).2.2.1.ok
  | false => rw [h.none rfl]; exact slim_nil
theorem SidedIs.acc {a b : Df} {g : Bool → Bool → Bool} {x : Df} {ok : Bool} (h : SidedIs a b g x ok) (ho : ok = true) {s : List UInt8} (hs : wordOk s = true) : accDf x s = g (accDf a s) (accDf b s) := by
  obtain ⟨h1, h2, h3, h4⟩ := h.lang ho
  rw [accDf_of h1 hs, accDf_of h2 hs, accDf_of h3.ok hs, acc_lang, acc_lang, acc_lang]
  exact h4 _ (l3_ltr (letters_all hs))
theorem accDf_bad (a : Df) {s : List UInt8} (hs : wordOk s = false) : accDf a s = false := accDf_no (by simp [hs])

def Prod40R (a b : Df) (g : Bool → Bool → Bool) (r : List D) : Prop :=
  (∃ k, (metK (nxP a b) ⟨0, 0⟩ k).length ≤ k ∧ (metK (nxP a b) ⟨0, 0⟩ k).length ≤ 40 ∧ r = [(autoL (nxP a b) (finG a b g) (metK (nxP a b) ⟨0, 0⟩ k)).d, .list ((metK (nxP a b) ⟨0, 0⟩ k).map pD), .bool true]) ∨
  (∃ k, 40 < (metK (nxP a b) ⟨0, 0⟩ k).length ∧ r = [(Df.mk [] []).d, .list [], .bool false])
set_option maxHeartbeats 800000 in
theorem c_product40 (a b : Df) (ha : okDf a = true) (hb : okDf b = true) (g : Bool → Bool → Bool) (SF : List D → (D → Prop) → Prop) (hSF : ∀ x y, ∀ K : D → Prop, K (.bool (g x y)) → SF [.bool x, .bool y] K) :
    TCalls Try.prog 124 [.d a.d, .d b.d, iA 40, .clo SF] (Prod40R a b g) := by
  refine tcalls_intro Ty.mixed Try.func124 rfl rfl rfl [4, 5, 7] (by kernel_rfl) (by simp) ?_
  have hex := c_exploredPair ⟨0, 0⟩ 40 (by omega) (by omega) (nxP a b) (finG a b g) (okP a b) ⟨st0 ha, st0 hb⟩ (fun s c hs hc => okP_step ha hb hs hc)
    (cloS Try.prog 132 [] [.dp [.d (rowsD a.next), .d (bsD a.ends)], .dp [.d (rowsD b.next), .d (bsD b.ends)]]) (cloS Try.prog 133 [] [.dp [.clo SF], .dp [.d (rowsD a.next), .d (bsD a.ends)], .dp [.d (rowsD b.next), .d (bsD b.ends)]])
    (fun s c hs hc K hK => ⟨_, c_pr1 ha hb hs hc, by rintro r rfl; rfl, by rintro r rfl; exact hK⟩)
    (fun s hs K hK => ⟨_, c_pr2 ha hb g SF hSF hs, by rintro r rfl; rfl, by rintro r rfl; exact hK⟩)
  simp [Df.d]
  refine .tdat hex rfl (by simp [pD]) ?_
  rintro _ (⟨k, e1, e2, rfl⟩ | ⟨k, e1, rfl⟩)
  · simp [Df.d]
    exact .inl ⟨k, e1, e2, rfl⟩
  · simp [Df.d]
    exact .inr ⟨k, e1, rfl⟩

theorem c_sideBySide (a b : Df) (ha : okDf a = true) (hb : okDf b = true) (g : Bool → Bool → Bool) (SF : List D → (D → Prop) → Prop) (hSF : ∀ x y, ∀ K : D → Prop, K (.bool (g x y)) → SF [.bool x, .bool y] K) :
    TCalls Try.prog 109 [.d a.d, .d b.d, .clo SF] (SideR a b g) := by
  refine tcalls_intro Ty.mixed Try.func109 rfl rfl rfl [3] (by kernel_rfl) (by simp) ?_
  simp [Df.d]
  refine .tdat (c_product40 a b ha hb g SF hSF) rfl (by simp [Df.d]) ?_
  rintro _ (⟨k, e1, e2, rfl⟩ | ⟨k, e1, rfl⟩)
  · have hok := autoL_ok (finG a b g) (metK_whole e1) e2
    have hS := fun x (hx : IsMin (autoL (nxP a b) (finG a b g) (metK (nxP a b) ⟨0, 0⟩ k)) x) => SmallIs.of_min e1 e2 hx
    generalize autoL (nxP a b) (finG a b g) (metK (nxP a b) ⟨0, 0⟩ k) = A at *
    simp [Df.d]
    refine .ddat (c_minimize A hok) rfl (by simp [Df.d]) ?_
    rintro _ ⟨x, rfl, hx⟩
    simp [Df.d]
    exact ⟨x, true, rfl, hS x hx⟩
  · simp [Df.d]
    exact ⟨⟨[], []⟩, false, rfl, .inr ⟨rfl, rfl, k, e1⟩⟩

theorem c_sided (a b : Df) (ha : a.fine) (hb : b.fine) (g : Bool → Bool → Bool) (SF : List D → (D → Prop) → Prop) (hSF : ∀ x y, ∀ K : D → Prop, K (.bool (g x y)) → SF [.bool x, .bool y] K) :
    TCalls Try.prog 80 [.d a.d, .d b.d, .clo SF] (SidedR a b g) := by
  refine tcalls_intro Ty.mixed Try.func80 rfl rfl rfl [3] (by kernel_rfl) (by simp) ?_
  simp [Df.d]
  refine .dval (c_DfaValid a ha) rfl (by simp [Df.d]) rfl ?_
  simp
  refine .flat (fun _ => c_DfaValid b hb) rfl (by simp [Df.d]) rfl (by simp) ?_
  simp
  refine ⟨fun hno => ⟨⟨[], []⟩, false, rfl, .inr ⟨fun ⟨h1, h2⟩ => by rw [h1, h2] at hno; simp at hno, rfl, rfl⟩⟩, fun h1 h2 => ?_⟩
  refine .tdat (c_sideBySide a b h1 h2 g SF hSF) rfl (by simp [Df.d]) ?_
  rintro _ ⟨x, ok, rfl, hx⟩
  simp [Df.d]
  exact ⟨x, ok, rfl, .inl ⟨⟨h1, h2⟩, hx⟩⟩

theorem c_DfaBoth1 (x y : Bool) : DCalls Try.prog 81 [.d (.bool x), .d (.bool y)] fun r => r = .bool (x && y) := by
  refine dcalls_intro Ty.mixed Try.func81 rfl rfl rfl [] (by kernel_rfl) (by simp) ?_
  simp
  try (cases x <;> cases y <;> rfl)
theorem c_DfaBoth (a b : Df) (ha : a.fine) (hb : b.fine) : TCalls Try.prog 38 [.d a.d, .d b.d] (SidedR a b fun x y => x && y) := by
  refine tcalls_intro Ty.mixed Try.func38 rfl rfl rfl [2, 3] (by kernel_rfl) (by simp) ?_
  simp [Df.d]
  have hp := c_sided a b ha hb (fun x y => x && y) (cloS Try.prog 81 [] []) (fun x y K hK => ⟨_, c_DfaBoth1 x y, by rintro r rfl; rfl, by rintro r rfl; exact hK⟩)
  refine .tdat hp rfl (by simp [Df.d]) ?_
  rintro _ ⟨x, ok, rfl, hx⟩
  simp [Df.d]
  exact ⟨x, ok, rfl, hx⟩

theorem c_DfaEither1 (x y : Bool) : DCalls Try.prog 87 [.d (.bool x), .d (.bool y)] fun r => r = .bool (x || y) := by
  refine dcalls_intro Ty.mixed Try.func87 rfl rfl rfl [] (by kernel_rfl) (by simp) ?_
  simp
  try (cases x <;> cases y <;> rfl)
theorem c_DfaEither (a b : Df) (ha : a.fine) (hb : b.fine) : TCalls Try.prog 50 [.d a.d, .d b.d] (SidedR a b fun x y => x || y) := by
  refine tcalls_intro Ty.mixed Try.func50 rfl rfl rfl [2, 3] (by kernel_rfl) (by simp) ?_
  simp [Df.d]
  have hp := c_sided a b ha hb (fun x y => x || y) (cloS Try.prog 87 [] []) (fun x y K hK => ⟨_, c_DfaEither1 x y, by rintro r rfl; rfl, by rintro r rfl; exact hK⟩)
  refine .tdat hp rfl (by simp [Df.d]) ?_
  rintro _ ⟨x, ok, rfl, hx⟩
  simp [Df.d]
  exact ⟨x, ok, rfl, hx⟩

theorem c_DfaLess1 (x y : Bool) : DCalls Try.prog 86 [.d (.bool x), .d (.bool y)] fun r => r = .bool (x && !y) := by
  refine dcalls_intro Ty.mixed Try.func86 rfl rfl rfl [] (by kernel_rfl) (by simp) ?_
  simp
  try (cases x <;> cases y <;> rfl)
theorem c_DfaLess (a b : Df) (ha : a.fine) (hb : b.fine) : TCalls Try.prog 47 [.d a.d, .d b.d] (SidedR a b fun x y => x && !y) := by
  refine tcalls_intro Ty.mixed Try.func47 rfl rfl rfl [2, 3] (by kernel_rfl) (by simp) ?_
  simp [Df.d]
  have hp := c_sided a b ha hb (fun x y => x && !y) (cloS Try.prog 86 [] []) (fun x y K hK => ⟨_, c_DfaLess1 x y, by rintro r rfl; rfl, by rintro r rfl; exact hK⟩)
  refine .tdat hp rfl (by simp [Df.d]) ?_
  rintro _ ⟨x, ok, rfl, hx⟩
  simp [Df.d]
  exact ⟨x, ok, rfl, hx⟩

theorem c_DfaApart1 (x y : Bool) : DCalls Try.prog 88 [.d (.bool x), .d (.bool y)] fun r => r = .bool (x != y) := by
  refine dcalls_intro Ty.mixed Try.func88 rfl rfl rfl [] (by kernel_rfl) (by simp) ?_
  simp
  try (cases x <;> cases y <;> rfl)
theorem c_DfaApart (a b : Df) (ha : a.fine) (hb : b.fine) : TCalls Try.prog 53 [.d a.d, .d b.d] (SidedR a b fun x y => x != y) := by
  refine tcalls_intro Ty.mixed Try.func53 rfl rfl rfl [2, 3] (by kernel_rfl) (by simp) ?_
  simp [Df.d]
  have hp := c_sided a b ha hb (fun x y => x != y) (cloS Try.prog 88 [] []) (fun x y K hK => ⟨_, c_DfaApart1 x y, by rintro r rfl; rfl, by rintro r rfl; exact hK⟩)
  refine .tdat hp rfl (by simp [Df.d]) ?_
  rintro _ ⟨x, ok, rfl, hx⟩
  simp [Df.d]
  exact ⟨x, ok, rfl, hx⟩

theorem c_l15Pair (a b : Df) (m : Int) (g : Bool → Bool → Bool) (ha : a.fine) (hb : b.fine) (hm : m = 0 ∨ m = 1 ∨ m = 2 ∨ m = 3) (hg : ∀ x y, modeB m x y = g x y) : TCalls Try.prog 82 [.d a.d, .d b.d, iA m] (SidedR a b g) := by
  refine tcalls_intro Ty.mixed Try.func82 rfl rfl rfl [3] (by kernel_rfl) (by simp) ?_
  simp [Df.d]
  refine .dval (c_sDfaValid a ha) rfl (by simp [Df.d]) rfl ?_
  simp
  refine .flat (fun _ => c_sDfaValid b hb) rfl (by simp [Df.d]) rfl (by simp) ?_
  simp
  refine ⟨fun hno => ⟨⟨[], []⟩, false, rfl, .inr ⟨fun ⟨h1, h2⟩ => by rw [h1, h2] at hno; simp at hno, rfl, rfl⟩⟩, fun h1 h2 => ?_⟩
  have hfin : finM a b m = finG a b g := by funext s; exact hg _ _
  refine .tdat (c_l11Pair a b m h1 h2 hm) rfl (by simp [Df.d]) ?_
  rintro _ ⟨x, ok, rfl, hx1, hx2⟩
  cases ok with
  | false =>
    obtain ⟨k, hk⟩ := hx2 rfl
    simp [Df.d]
    exact ⟨⟨[], []⟩, false, rfl, .inl ⟨⟨h1, h2⟩, .inr ⟨rfl, rfl, k, hk⟩⟩⟩
  | true =>
    obtain ⟨k, e1, e2, rfl⟩ := hx1 rfl
    rw [hfin]
    have hok := autoL_ok (finG a b g) (metK_whole e1) e2
    have hS := fun x (hx : IsMin (autoL (nxP a b) (finG a b g) (metK (nxP a b) ⟨0, 0⟩ k)) x) => SmallIs.of_min e1 e2 hx
    generalize autoL (nxP a b) (finG a b g) (metK (nxP a b) ⟨0, 0⟩ k) = A at *
    simp [Df.d]
    refine .ddat (c_l10Small A hok) rfl (by simp [Df.d]) ?_
    rintro _ ⟨x, rfl, hx⟩
    simp [Df.d]
    exact ⟨x, true, rfl, .inl ⟨⟨h1, h2⟩, hS x hx⟩⟩
theorem c_sDfaBoth (a b : Df) (ha : a.fine) (hb : b.fine) : TCalls Try.prog 39 [.d a.d, .d b.d] (SidedR a b fun x y => x && y) := by
  refine tcalls_intro Ty.mixed Try.func39 rfl rfl rfl [] (by kernel_rfl) (by simp) ?_
  simp [Df.d]
  refine .tdat (c_l15Pair a b 0 (fun x y => x && y) ha hb (by omega) (by intro x y; cases x <;> cases y <;> rfl)) rfl (by simp [Df.d]) ?_
  rintro _ ⟨x, ok, rfl, hx⟩
  simp [Df.d]
  exact ⟨x, ok, rfl, hx⟩
theorem c_sDfaEither (a b : Df) (ha : a.fine) (hb : b.fine) : TCalls Try.prog 51 [.d a.d, .d b.d] (SidedR a b fun x y => x || y) := by
  refine tcalls_intro Ty.mixed Try.func51 rfl rfl rfl [] (by kernel_rfl) (by simp) ?_
  simp [Df.d]
  refine .tdat (c_l15Pair a b 1 (fun x y => x || y) ha hb (by omega) (by intro x y; cases x <;> cases y <;> rfl)) rfl (by simp [Df.d]) ?_
  rintro _ ⟨x, ok, rfl, hx⟩
  simp [Df.d]
  exact ⟨x, ok, rfl, hx⟩
theorem c_sDfaLess (a b : Df) (ha : a.fine) (hb : b.fine) : TCalls Try.prog 48 [.d a.d, .d b.d] (SidedR a b fun x y => x && !y) := by
  refine tcalls_intro Ty.mixed Try.func48 rfl rfl rfl [] (by kernel_rfl) (by simp) ?_
  simp [Df.d]
  refine .tdat (c_l15Pair a b 2 (fun x y => x && !y) ha hb (by omega) (by intro x y; cases x <;> cases y <;> rfl)) rfl (by simp [Df.d]) ?_
  rintro _ ⟨x, ok, rfl, hx⟩
  simp [Df.d]
  exact ⟨x, ok, rfl, hx⟩
theorem c_sDfaApart (a b : Df) (ha : a.fine) (hb : b.fine) : TCalls Try.prog 54 [.d a.d, .d b.d] (SidedR a b fun x y => x != y) := by
  refine tcalls_intro Ty.mixed Try.func54 rfl rfl rfl [] (by kernel_rfl) (by simp) ?_
  simp [Df.d]
  refine .tdat (c_l15Pair a b 3 (fun x y => x != y) ha hb (by omega) (by intro x y; cases x <;> cases y <;> rfl)) rfl (by simp [Df.d]) ?_
  rintro _ ⟨x, ok, rfl, hx⟩
  simp [Df.d]
  exact ⟨x, ok, rfl, hx⟩
end Go.Fw
