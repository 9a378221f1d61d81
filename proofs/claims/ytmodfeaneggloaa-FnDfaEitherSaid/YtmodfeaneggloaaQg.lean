/- Two automata side by side, as the program runs them. -/
import Derived.Test.YtmodfeaneggloaaQf
import Derived.Test.YtmodfeaneggloaaOr
set_option linter.unusedSimpArgs false
set_option linter.unusedVariables false
namespace Go.Fw
open Go Go.Proofs
set_option linter.unusedSectionVars false
set_option linter.unnecessarySimpa false

theorem c_pr1 {a b : Df} (ha : okDf a = true) (hb : okDf b = true) {s : Pr} {c : Int} (hs : okP a b s) (hc : 0 ≤ c ∧ c < 3) : DCalls Try.prog 132 [.d (pD s), iA c, .dp [.d (rowsD a.next), .d (bsD a.ends)], .dp [.d (rowsD b.next), .d (bsD b.ends)]] fun y => y = pD (nxP a b s c) := by
  refine dcalls_intro Ty.mixed Try.func132 rfl rfl rfl [4] (by kernel_rfl) (by simp) ?_
  obtain ⟨⟨s1, s2⟩, s3, s4⟩ := hs
  have hka : s.a.toNat < a.next.length := by omega
  have hkb : s.b.toNat < b.next.length := by omega
  obtain ⟨g1, g2⟩ := okDf_row ha hka
  obtain ⟨g3, g4⟩ := okDf_row hb hkb
  have a1 := getD_row (xs := a.next) (i := s.a.toNat) [] hka
  have a2 := getD_row (xs := b.next) (i := s.b.toNat) [] hkb
  have a3 := getD_row (xs := a.next.getD s.a.toNat []) (i := c.toNat) 0 (by omega)
  have a4 := getD_row (xs := b.next.getD s.b.toNat []) (i := c.toNat) 0 (by omega)
  have hn : a.go s.a c = (a.next.getD s.a.toNat []).getD c.toNat 0 := rfl
  have ho : b.go s.b c = (b.next.getD s.b.toNat []).getD c.toNat 0 := rfl
  have hxe : nxP a b s c = ⟨a.go s.a c, b.go s.b c⟩ := rfl
  rw [← hn] at a3
  rw [← ho] at a4
  rw [hxe]
  generalize a.go s.a c = nv at *
  generalize b.go s.b c = ov at *
  generalize a.next.getD s.a.toNat [] = nr at *
  generalize b.next.getD s.b.toNat [] = ox at *
  have l2 : c.toNat < 3 := by omega
  simp [pD]
  refine .one (sch [.pur 0, .pur 1, .pur 2, .pur 3, .pur 4, .pur 5, .pur 6, .pur 7, .pur 8, .pur 9, .pur 10, .pur 11, .pur 12, .pur 13, .pur 14, .pur 15, .pur 16, .pur 17, .pur 18, .eff 19 []]) (by kernel_rfl) ?_
  simp [s1, s2, s3, s4, a1, a2, a3, a4, g1, g3, hc, l2]

theorem c_pr2 {a b : Df} (ha : okDf a = true) (hb : okDf b = true) (g : Bool → Bool → Bool) (SF : List D → (D → Prop) → Prop) (hSF : ∀ x y, ∀ K : D → Prop, K (.bool (g x y)) → SF [.bool x, .bool y] K) {s : Pr} (hs : okP a b s) :
    DCalls Try.prog 133 [.d (pD s), .dp [.clo SF], .dp [.d (rowsD a.next), .d (bsD a.ends)], .dp [.d (rowsD b.next), .d (bsD b.ends)]] fun y => y = .bool (g (a.fin s.a) (b.fin s.b)) := by
  refine dcalls_intro Ty.mixed Try.func133 rfl rfl rfl [4] (by kernel_rfl) (by simp) ?_
  obtain ⟨⟨s1, s2⟩, s3, s4⟩ := hs
  obtain ⟨f1, f2, f3, f4, f5⟩ := fin_row ha (q := s.a) ⟨s1, s2⟩
  obtain ⟨h1, h2, h3, h4, h5⟩ := fin_row hb (q := s.b) ⟨s3, s4⟩
  generalize a.fin s.a = fa at *
  generalize b.fin s.b = fb at *
  simp [pD]
  refine .one (sch [.pur 0, .pur 1, .pur 2, .pur 3, .pur 4, .pur 5, .pur 6, .pur 7, .pur 8, .pur 9, .pur 10, .pur 11, .pur 12, .eff 13 [], .pur 14]) (by kernel_rfl) ?_
  simp [s1, s2, s3, s4, f1, f2, f3, f4, f5, h1, h2, h3, h4, h5]
  refine hSF fa fb _ ?_
  simp

theorem autoL_wf {S : Type} [DecidableEq S] {nx : S → Int → S} {s0 : S} (fin : S → Bool) {L : List S} (h : Whole nx s0 L) (h2 : L.length ≤ 2000) : Wf (autoL nx fin L) := by
  have hpos : 0 < L.length := (List.getElem?_eq_some_iff.1 h.head).1
  refine ⟨⟨by rw [autoL_len]; omega, by rw [autoL_len]; omega, by simp [autoL]⟩, fun k hk => ?_⟩
  rw [autoL_len] at hk
  have e : (autoL nx fin L).next.getD k [] = (suc nx L[k]).map fun t => (L.idxOf t : Int) := by
    rw [List.getD_eq_getElem?_getD]; simp [autoL, hk]
  rw [e]
  refine ⟨by simp [suc], fun t ht => ?_⟩
  obtain ⟨u, hu, rfl⟩ := List.mem_map.1 ht
  have := List.idxOf_lt_length_iff.2 (h.suc _ (List.getElem_mem hk) u hu)
  exact ⟨by omega, by rw [autoL_len]; omega⟩

theorem autoL_acc {S : Type} [DecidableEq S] {nx : S → Int → S} {s0 : S} (fin : S → Bool) {L : List S} (h : Whole nx s0 L) {v : List UInt8} (hv : v.all isL = true) : (autoL nx fin L).acc v = fin (runS nx s0 v) := by
  have h0 : AtL L 0 s0 := ⟨Int.le_refl _, h.head⟩
  rw [acc_lang, AtL.same fin h h0 _ (l3_ltr hv)]
  unfold langS runS
  rw [List.foldl_map]

def finG (a b : Df) (g : Bool → Bool → Bool) (s : Pr) : Bool := g (a.fin s.a) (b.fin s.b)
def FpR (a b : Df) (g : Bool → Bool → Bool) (r : List D) : Prop := ∃ (s : List UInt8) (ok : Bool), r = [sD s, .bool ok] ∧ FirstW (fun v => g (a.acc v) (b.acc v)) s ok

set_option maxHeartbeats 800000 in
theorem c_product (a b : Df) (ha : okDf a = true) (hb : okDf b = true) (g : Bool → Bool → Bool) (SF : List D → (D → Prop) → Prop) (hSF : ∀ x y, ∀ K : D → Prop, K (.bool (g x y)) → SF [.bool x, .bool y] K) :
    TCalls Try.prog 124 [.d a.d, .d b.d, iA 1600, .clo SF] fun r => ∃ L : List Pr, Whole (nxP a b) ⟨0, 0⟩ L ∧ L.length ≤ 1600 ∧ r = [(autoL (nxP a b) (finG a b g) L).d, .list (L.map pD), .bool true] := by
  refine tcalls_intro Ty.mixed Try.func124 rfl rfl rfl [4, 5, 7] (by kernel_rfl) (by simp) ?_
  have hbd : ∀ k, (metK (nxP a b) ⟨0, 0⟩ k).length ≤ 1600 := fun k => pairs_le (metK_nodup k) fun s hs => by
    obtain ⟨⟨h1, h2⟩, h3, h4⟩ := met_okP ha hb k s hs
    have n1 := okDf_len ha
    have n2 := okDf_len hb
    omega
  have hex := c_exploredPair ⟨0, 0⟩ 1600 (by omega) (by omega) (nxP a b) (finG a b g) (okP a b) ⟨st0 ha, st0 hb⟩ (fun s c hs hc => okP_step ha hb hs hc)
    (cloS Try.prog 132 [] [.dp [.d (rowsD a.next), .d (bsD a.ends)], .dp [.d (rowsD b.next), .d (bsD b.ends)]]) (cloS Try.prog 133 [] [.dp [.clo SF], .dp [.d (rowsD a.next), .d (bsD a.ends)], .dp [.d (rowsD b.next), .d (bsD b.ends)]])
    (fun s c hs hc K hK => ⟨_, c_pr1 ha hb hs hc, by rintro r rfl; rfl, by rintro r rfl; exact hK⟩)
    (fun s hs K hK => ⟨_, c_pr2 ha hb g SF hSF hs, by rintro r rfl; rfl, by rintro r rfl; exact hK⟩)
  simp [Df.d]
  refine .tdat hex rfl (by simp [pD]) ?_
  rintro _ (⟨k, e1, e2, rfl⟩ | ⟨k, e1, rfl⟩)
  · have hw := metK_whole e1
    generalize metK (nxP a b) ⟨0, 0⟩ k = L at *
    simp [Df.d]
    exact ⟨L, hw, e2, ⟨rfl, rfl⟩, rfl⟩
  · have := hbd k; omega

set_option maxHeartbeats 800000 in
theorem c_firstPair (a b : Df) (ha : okDf a = true) (hb : okDf b = true) (g : Bool → Bool → Bool) (SF : List D → (D → Prop) → Prop) (hSF : ∀ x y, ∀ K : D → Prop, K (.bool (g x y)) → SF [.bool x, .bool y] K) :
    TCalls Try.prog 107 [.d a.d, .d b.d, .clo SF] (FpR a b g) := by
  refine tcalls_intro Ty.mixed Try.func107 rfl rfl rfl [3, 4] (by kernel_rfl) (by simp) ?_
  simp [Df.d]
  refine .tdat (c_product a b ha hb g SF hSF) rfl (by simp) ?_
  rintro _ ⟨L, hW, hL, rfl⟩
  have hacc : ∀ v, v.all isL = true → (autoL (nxP a b) (finG a b g) L).acc v = g (a.acc v) (b.acc v) := fun v hv => by
    rw [autoL_acc _ hW hv, runS_nxP]; rfl
  have hwf := autoL_wf (finG a b g) hW (by omega)
  generalize autoL (nxP a b) (finG a b g) L = A at *
  simp [Df.d]
  refine .tdat (c_firstWord A hwf) rfl (by simp [Df.d]) ?_
  rintro _ ⟨s, ok, rfl, hF, _⟩
  simp
  exact ⟨s, ok, rfl, hF.congr hacc⟩

theorem c_df1 (x y : Bool) : DCalls Try.prog 108 [.d (.bool x), .d (.bool y)] fun r => r = .bool (x != y) := by
  refine dcalls_intro Ty.mixed Try.func108 rfl rfl rfl [] (by kernel_rfl) (by simp) ?_
  simp
  cases x <;> cases y <;> rfl
theorem c_differ (a b : Df) (h1 : okDf a = true) (h2 : okDf b = true) : TCalls Try.prog 79 [.d a.d, .d b.d] (FpR a b (fun x y => x != y)) := by
  refine tcalls_intro Ty.mixed Try.func79 rfl rfl rfl [2, 3] (by kernel_rfl) (by simp) ?_
  simp [Df.d]
  have hp := c_firstPair a b h1 h2 (fun x y => x != y) (cloS Try.prog 108 [] []) (fun x y K hK => ⟨_, c_df1 x y, by rintro r rfl; rfl, by rintro r rfl; exact hK⟩)
  refine .tdat hp rfl (by simp [Df.d]) ?_
  rintro _ ⟨s, ok, rfl, hF⟩
  simp
  exact ⟨s, ok, rfl, hF⟩
def SlR (a b : Df) (y : D) : Prop := ∃ v : Bool, y = .bool v ∧ ((okDf a = true ∧ okDf b = true) → (v = true ↔ ∀ w, w.all isL = true → a.acc w = b.acc w))
end Go.Fw
