/- The first word for a pair of automata, as the reference finds it. -/
import Derived.Test.YtmodfeaneggloaaQb
import Derived.Test.YtmodfeaneggloaaOh
set_option linter.unusedSimpArgs false
set_option linter.unusedVariables false
namespace Go.Fw
open Go Go.Proofs
set_option linter.unusedSectionVars false
set_option linter.unnecessarySimpa false

def mode16 (m : Int) (x y : Bool) : Bool := decide (m = 1) && x || decide (m = 2) && x && !y || decide (m = 3) && (x != y)
def fin16 (a b : Df) (m : Int) (s : Pr) : Bool := mode16 m (a.fin s.a) (b.fin s.b)
theorem pairs_le {L : List Pr} (hn : L.Nodup) (h : ∀ s ∈ L, 0 ≤ s.a ∧ s.a < 40 ∧ 0 ≤ s.b ∧ s.b < 40) : L.length ≤ 1600 := by
  have h1 : (L.map fun s => s.a * 40 + s.b).Nodup := by
    refine List.Pairwise.map _ (R := fun x y => (0 ≤ x.a ∧ x.a < 40 ∧ 0 ≤ x.b ∧ x.b < 40) ∧ (0 ≤ y.a ∧ y.a < 40 ∧ 0 ≤ y.b ∧ y.b < 40) ∧ x ≠ y) ?_ (List.Pairwise.imp_of_mem (fun hx hy hne => ⟨h _ hx, h _ hy, hne⟩) hn)
    rintro ⟨xa, xb⟩ ⟨ya, yb⟩ ⟨h1, h2, h3⟩ e
    simp only at h1 h2 e
    apply h3
    rw [show xa = ya by omega, show xb = yb by omega]
  have := nodup_bound 1600 _ h1 fun z hz => by
    obtain ⟨s, hs, rfl⟩ := List.mem_map.1 hz
    have := h s hs
    constructor
    · show 0 ≤ s.a * 40 + s.b; omega
    · show s.a * 40 + s.b < 1600; omega
  simpa using this
theorem runS_okP {a b : Df} (ha : okDf a = true) (hb : okDf b = true) : ∀ (w : List UInt8) (s : Pr), okP a b s → w.all isL = true → okP a b (runS (nxP a b) s w)
  | [], s, h, _ => h
  | c :: w, s, h, hw => by
    simp only [List.all_cons, Bool.and_eq_true] at hw
    have hc := ltr_of hw.1
    exact runS_okP ha hb w _ (okP_step ha hb h (by omega)) hw.2

abbrev WP := Pr × List UInt8
theorem BfI.okP {a b : Df} (ha : okDf a = true) (hb : okDf b = true) {L : List WP} {k c : Nat} (h : BfI (nxP a b) ⟨0, 0⟩ L k c) {x : WP} (hx : x ∈ L) : okP a b x.1 := by
  obtain ⟨h1, h2⟩ := h.run x hx
  rw [← h2]
  exact runS_okP ha hb _ _ ⟨st0 ha, st0 hb⟩ h1
theorem BfI.le {a b : Df} (ha : okDf a = true) (hb : okDf b = true) {L : List WP} {k c : Nat} (h : BfI (nxP a b) ⟨0, 0⟩ L k c) : L.length ≤ 1600 := by
  have n1 := okDf_len ha
  have n2 := okDf_len hb
  have := pairs_le h.nd fun s hs => by
    obtain ⟨x, hx, rfl⟩ := List.mem_map.1 hs
    obtain ⟨⟨h1, h2⟩, h3, h4⟩ := h.okP ha hb hx
    omega
  simpa using this
/-- Is a pair new among the first ones? -/
def frs (L : List WP) (s : Pr) (j : Nat) : Bool := decide (s ∉ (L.take j).map Prod.fst)
theorem frs_succ {L : List WP} {s : Pr} {j : Nat} (hj : j < L.length) : frs L s (j + 1) = (frs L s j && (L[j].1.a != s.a || L[j].1.b != s.b)) := by
  unfold frs
  rw [take_snoc hj, Bool.eq_iff_iff]
  simp only [List.map_append, List.map_cons, List.map_nil, List.mem_append, List.mem_singleton, Bool.and_eq_true, Bool.or_eq_true, decide_eq_true_eq, not_or, bne_iff_ne, ne_eq]
  have : s = L[j].1 ↔ (s.a = L[j].1.a ∧ s.b = L[j].1.b) := by
    cases s; cases h : L[j].1; simp
  rw [this]
  constructor
  · rintro ⟨h1, h2⟩
    refine ⟨h1, ?_⟩
    by_cases e : L[j].1.a = s.a
    · exact .inr fun e2 => h2 ⟨e.symm, e2.symm⟩
    · exact .inl e
  · rintro ⟨h1, h2⟩
    refine ⟨h1, fun ⟨e1, e2⟩ => ?_⟩
    rcases h2 with h2 | h2
    · exact h2 e1.symm
    · exact h2 e2.symm

theorem ofNat_lt3 {c : Nat} (h : c < 3) : UInt8.ofNat (97 + (c : Int)).toNat = lt3 c := by
  obtain rfl | rfl | rfl : c = 0 ∨ c = 1 ∨ c = 2 := by omega
  all_goals rfl
structure PK where
  L : List WP
  k : Nat
def F16R (a b : Df) (m : Int) (r : List D) : Prop := ∃ (s : List UInt8) (ok : Bool), r = [sD s, .bool ok] ∧ FirstW (fun v => fin16 a b m (runS (nxP a b) ⟨0, 0⟩ v)) s ok

set_option maxRecDepth 100000 in
set_option maxHeartbeats 800000 in
theorem c_l16First (a b : Df) (m : Int) (ha : okDf a = true) (hb : okDf b = true) : TCalls Try.prog 62 [.d a.d, .d b.d, iA m] (F16R a b m) := by
  refine tcalls_intro Ty.mixed Try.func62 rfl rfl rfl [3, 4] (by kernel_rfl) (by simp) ?_
  obtain ⟨n1, n2, n3⟩ := okDf_len ha
  obtain ⟨m1, m2, m3⟩ := okDf_len hb
  simp [Df.d]
  refine ⟨rfl, ?_⟩
  refine LoopVC.at { g : PK // BfI (nxP a b) ⟨0, 0⟩ g.L g.k 0 ∧ ∀ (i : Nat) (x : WP), g.L[i]? = some x → i < g.k → fin16 a b m x.1 = false } (fun g => [(2, iA m), (3, .dp [.d (rowsD a.next), .d (bsD a.ends)]), (4, .dp [.d (rowsD b.next), .d (bsD b.ends)]), (8, .sl 1 1800 0 g.1.L.length), (9, .sl 1 1900 0 g.1.L.length), (10, iA g.1.k)])
    (fun g => [(1800, .ar 1 (g.1.L.map fun x => pR x.1)), (1900, .ar 1 (g.1.L.map fun x => sD x.2))]) [1800, 1900] (fun g => 1601 - g.1.k) ⟨⟨[(⟨0, 0⟩, [])], 0⟩, BfI.init _ _, fun i x _ hi => absurd hi (Nat.not_lt_zero i)⟩ (by simp) (by simp) ?_
  rintro ⟨⟨L, k⟩, hB, hnf⟩
  simp only at hB hnf
  have hLl := hB.le ha hb
  rcases Nat.lt_or_ge k L.length with hk | hk
  · obtain ⟨⟨s, w⟩, hx⟩ : ∃ x, L[k]? = some x := ⟨_, List.getElem?_eq_getElem hk⟩
    have hxg : ∀ h, L[k]'h = (s, w) := fun h => (List.getElem?_eq_some_iff.1 hx).2
    obtain ⟨⟨s1, s2⟩, s3, s4⟩ := hB.okP ha hb (List.mem_of_getElem? hx)
    simp only at s1 s2 s3 s4
    obtain ⟨f1, f2, f3, f4, f5⟩ := fin_row ha (q := s.a) ⟨s1, s2⟩
    obtain ⟨h1, h2, h3, h4, h5⟩ := fin_row hb (q := s.b) ⟨s3, s4⟩
    simp [hk]
    refine .one (sch [.pur 0, .pur 1, .pur 2, .pur 3, .pur 4, .pur 5, .pur 6, .pur 7, .pur 8, .pur 9, .pur 10]) (by kernel_rfl) ?_
    simp [hk, hx, hxg, s1, s2, f2, f3, f4, f5, f1]
    refine .one (sch [.pur 0, .pur 1, .pur 2, .pur 3, .pur 4, .pur 5, .pur 6, .pur 7, .pur 8, .pur 9, .pur 10]) (by kernel_rfl) ?_
    simp [hk, hx, hxg, s3, s4, h2, h3, h4, h5, h1]
    have hfv : fin16 a b m s = mode16 m (a.fin s.a) (b.fin s.b) := rfl
    have hfound : fin16 a b m s = true → F16R a b m [sD w, .bool true] := fun h => ⟨w, true, rfl, hB.found hnf hx h⟩
    generalize a.fin s.a = fa at *
    generalize b.fin s.b = fb at *
    refine ⟨fun h => ⟨h, fun h2 => ⟨h, h2⟩⟩, fun h => ⟨h, fun h2 h3 => ⟨h, h2, h3⟩⟩, ?_, fun h1 h2 => ⟨⟨h1, h2⟩, fun h3 => ⟨⟨h1, h2⟩, h3⟩⟩, ?_, fun hc => hfound ?_, fun c1 c2 c3 => ?_⟩
    · intro h
      by_cases e : m = 1
      · exact .inr (h e)
      · exact .inl e
    · intro h h'
      by_cases e1 : m = 1
      · refine ⟨.inr (h e1), .inl (.inl (by omega))⟩
      · refine ⟨.inl e1, ?_⟩
        by_cases e2 : m = 2
        · cases hfa : fa with
          | false => exact .inl (.inr rfl)
          | true => exact .inr (h' e2 hfa)
        · exact .inl (.inl e2)
    · rw [hfv]; unfold mode16
      rcases hc with (⟨rfl, rfl⟩ | ⟨⟨rfl, rfl⟩, rfl⟩) | ⟨rfl, h⟩
      · rfl
      · rfl
      · simp [h]
    · have hnot : fin16 a b m s = false := by
        rw [hfv]; unfold mode16
        by_cases e1 : m = 1
        · subst e1; simp [c1]
        · by_cases e2 : m = 2
          · subst e2; simpa using c2
          · by_cases e3 : m = 3
            · subst e3; simp [c3]
            · simp [e1, e2, e3]
      refine LoopVC.at { g : PK // BfI (nxP a b) ⟨0, 0⟩ g.L k g.k ∧ g.k ≤ 3 ∧ g.L[k]? = some (s, w) ∧ ∀ (i : Nat) (x : WP), g.L[i]? = some x → i < k → fin16 a b m x.1 = false } (fun g => [(2, iA m), (3, .dp [.d (rowsD a.next), .d (bsD a.ends)]), (4, .dp [.d (rowsD b.next), .d (bsD b.ends)]), (8, .sl 1 1800 0 g.1.L.length), (9, .sl 1 1900 0 g.1.L.length), (10, iA k), (13, iA g.1.k)])
        (fun g => [(1800, .ar 1 (g.1.L.map fun x => pR x.1)), (1900, .ar 1 (g.1.L.map fun x => sD x.2))]) [1800, 1900] (fun g => 3 - g.1.k) ⟨⟨L, 0⟩, hB, by simp, hx, hnf⟩ (by simp) (by simp) ?_
      rintro ⟨⟨L, c⟩, hB, hc, hx, hnf⟩
      simp only at hB hc hx hnf
      have hLl := hB.le ha hb
      have hkL : k < L.length := by
        rcases Nat.lt_or_ge k L.length with h1 | h1
        · exact h1
        · rw [List.getElem?_eq_none h1] at hx; cases hx
      have hxg : ∀ h, L[k]'h = (s, w) := fun h => (List.getElem?_eq_some_iff.1 hx).2
      rcases Nat.lt_or_ge c 3 with hc3 | hc3
      · have hka : s.a.toNat < a.next.length := by omega
        have hkb : s.b.toNat < b.next.length := by omega
        obtain ⟨g1, g2⟩ := okDf_row ha hka
        obtain ⟨g3, g4⟩ := okDf_row hb hkb
        have a1 := getD_row (xs := a.next) (i := s.a.toNat) [] hka
        have a2 := getD_row (xs := b.next) (i := s.b.toNat) [] hkb
        have a3 := getD_row (xs := a.next.getD s.a.toNat []) (i := c) 0 (by omega)
        have a4 := getD_row (xs := b.next.getD s.b.toNat []) (i := c) 0 (by omega)
        have hn : a.go s.a c = (a.next.getD s.a.toNat []).getD c 0 := by simp [Df.go]
        have ho : b.go s.b c = (b.next.getD s.b.toNat []).getD c 0 := by simp [Df.go]
        have hxe : nxP a b s c = ⟨a.go s.a c, b.go s.b c⟩ := rfl
        rw [← hn] at a3
        rw [← ho] at a4
        generalize a.go s.a c = nv at *
        generalize b.go s.b c = ov at *
        generalize a.next.getD s.a.toNat [] = nr at *
        generalize b.next.getD s.b.toNat [] = ox at *
        have l3 : (c : Int) < 3 := by omega
        simp [l3]
        refine .one (sch [.pur 0, .pur 1, .pur 2, .pur 3, .pur 4, .pur 5, .pur 6, .pur 7, .pur 8, .pur 9, .pur 10, .pur 11, .pur 12, .pur 13, .pur 14, .pur 15, .pur 16, .pur 17, .pur 18, .pur 19, .pur 20, .pur 21, .pur 22, .pur 23, .pur 24, .pur 25, .eff 26 [], .pur 27]) (by kernel_rfl) ?_
        simp [hkL, hx, hxg, s1, s2, s3, s4, a1, a2, a3, a4, g1, g3, hc3, l3]
        refine ⟨rfl, ?_⟩
        refine LoopVC.at { j : Nat // j ≤ L.length } (fun j => [(2, iA m), (3, .dp [.d (rowsD a.next), .d (bsD a.ends)]), (4, .dp [.d (rowsD b.next), .d (bsD b.ends)]), (8, .sl 1 1800 0 L.length), (9, .sl 1 1900 0 L.length), (10, iA k), (13, iA c), (14, .sl 1 10500 0 2), (15, .d (.bool (frs L ⟨nv, ov⟩ j.1))), (16, iA j.1)])
          (fun j => [(1800, .ar 1 (L.map fun x => pR x.1)), (1900, .ar 1 (L.map fun x => sD x.2)), (10500, .ar 1 [iD nv, iD ov])]) [1800, 1900, 10500] (fun j => L.length - j.1) ⟨0, by simp⟩ (by simp [frs]) (by simp) ?_
        rintro ⟨j, hj⟩
        rcases Nat.lt_or_ge j L.length with hjL | hjL
        · have hfs := frs_succ (s := ⟨nv, ov⟩) hjL
          obtain ⟨⟨⟨za, zb⟩, zw⟩, hz⟩ : ∃ z, L[j]? = some z := ⟨_, List.getElem?_eq_getElem hjL⟩
          have hzg : ∀ h, L[j]'h = (⟨za, zb⟩, zw) := fun h => (List.getElem?_eq_some_iff.1 hz).2
          rw [hzg] at hfs
          simp only at hfs
          cases hf : frs L ⟨nv, ov⟩ j with
          | false =>
            rw [hf, Bool.false_and] at hfs
            simp [hjL]
            refine .one (sch [.pur 0, .pur 1, .pur 2, .pur 3, .pur 4, .pur 5, .pur 6, .pur 7, .pur 8, .pur 9, .pur 10, .pur 11, .pur 12, .pur 13, .pur 14, .pur 15, .pur 16, .pur 17, .pur 18, .pur 19, .pur 20, .pur 21, .pur 22, .pur 23, .pur 24, .eff 25 []]) (by kernel_rfl) ?_
            simp [hjL, hz, hzg]
            exact ⟨j + 1, .mk (by simp [hfs]; exact wrap64 (by omega) (by omega)) (by simp), hjL, by omega⟩
          | true =>
            rw [hf, Bool.true_and] at hfs
            simp [hjL]
            refine .one (sch [.pur 0, .pur 1, .pur 2, .pur 3, .pur 4, .pur 5, .pur 6, .pur 7, .pur 8, .pur 9, .pur 10, .pur 11, .pur 12, .pur 13, .pur 14, .pur 15, .pur 16, .pur 17, .pur 18, .pur 19, .pur 20, .pur 21, .pur 22, .pur 23, .pur 24, .eff 25 []]) (by kernel_rfl) ?_
            simp [hjL, hz, hzg]
            exact ⟨j + 1, .mk (by simp [hfs]; exact wrap64 (by omega) (by omega)) (by simp), hjL, by omega⟩
        · have : j = L.length := by omega
          subst this
          have hfe : frs L ⟨nv, ov⟩ L.length = decide ((⟨nv, ov⟩ : Pr) ∉ L.map Prod.fst) := by unfold frs; rw [List.take_length]
          by_cases hin : (⟨nv, ov⟩ : Pr) ∈ L.map Prod.fst
          · rw [hfe]
            obtain ⟨y, hy, hye⟩ := List.mem_map.1 hin
            simp [hin]
            exact ⟨⟨L, c + 1⟩, .mk (by simp; exact wrap64 (by omega) (by omega)) (by simp), ⟨hB.skip hx hy (hye.trans hxe.symm), hc3, hx, fun i z zw hi hik => hnf i (z, zw) hi hik⟩, by simp only; omega⟩
          · rw [hfe]
            simp [hin]
            refine ⟨⟨by omega, by omega⟩, ?_⟩
            refine .one (sch [.pur 0, .pur 1, .pur 2, .pur 3, .pur 4, .pur 5, .pur 6, .pur 7, .eff 8 [0, 1, 2, 3, 4], .pur 9, .pur 10, .eff 11 [0], .eff 12 [], .eff 13 []]) (by kernel_rfl) ?_
            have e1 : IntKind.i64.wrap (97 + (c : Int)) = 97 + c := wrap64 (by omega) (by omega)
            have e2 : IntKind.u8.wrap (97 + (c : Int)) = 97 + c := by rw [wrap_u8]; omega
            have hadd := hB.add hx (by rw [hxe]; exact hin) (lt3_ok hc3).1 (lt3_ok hc3).2
            rw [hxe] at hadd
            simp only at hadd
            have hwl := hB.len k _ hx
            simp only at hwl
            simp [hkL, hx, hxg, e1, e2]
            refine ⟨by omega, ⟨by omega, by omega⟩, ⟨L ++ [(⟨nv, ov⟩, w ++ [lt3 c])], c + 1⟩, .mk ?_ ?_, ⟨hadd, hc3, ?_, fun i z zw hi hik => ?_⟩, by simp only; omega⟩
            · simp; exact wrap64 (by omega) (by omega)
            · simp
              exact ofNat_lt3 hc3
            · show (L ++ [((⟨nv, ov⟩ : Pr), w ++ [lt3 c])])[k]? = _
              rw [List.getElem?_append_left (by omega)]; exact hx
            · have hi : (L ++ [((⟨nv, ov⟩ : Pr), w ++ [lt3 c])])[i]? = some (z, zw) := hi
              rw [List.getElem?_append_left (by omega)] at hi
              exact hnf i (z, zw) hi hik
      · have : c = 3 := by omega
        subst this
        simp
        refine ⟨⟨L, k + 1⟩, .mk (by simp; exact wrap64 (by omega) (by omega)) (by simp), ⟨hB.next, fun i z zw hi hik => ?_⟩, by simp only; omega⟩
        have hik : i < k + 1 := hik
        rcases Nat.lt_or_ge i k with h1 | h1
        · exact hnf i (z, zw) hi h1
        · have : i = k := by omega
          subst this
          rw [hx] at hi; cases hi; exact hnot
  · simp [show ¬ (k : Int) < L.length by omega]
    exact ⟨[], false, rfl, hB.none hnf hk⟩

theorem runS_nxP (a b : Df) : ∀ (v : List UInt8) (s : Pr), runS (nxP a b) s v = ⟨a.run s.a v, b.run s.b v⟩
  | [], _ => rfl
  | c :: v, s => runS_nxP a b v (nxP a b s (ltr c))
theorem fin16_acc (a b : Df) (m : Int) (v : List UInt8) : fin16 a b m (runS (nxP a b) ⟨0, 0⟩ v) = mode16 m (a.acc v) (b.acc v) := by rw [runS_nxP]; rfl

theorem c_sFirstOf (a : Df) (hf : a.fine) : TCalls Try.prog 17 [.d a.d] fun r => ∃ (s : List UInt8) (ok : Bool), r = [sD s, .bool ok] ∧ ((okDf a = true ∧ FirstW a.acc s ok) ∨ (okDf a = false ∧ s = [] ∧ ok = false)) := by
  refine tcalls_intro Ty.mixed Try.func17 rfl rfl rfl [1] (by kernel_rfl) (by simp) ?_
  generalize hR : (fun r : List D => ∃ (s : List UInt8) (ok : Bool), r = [sD s, .bool ok] ∧ ((okDf a = true ∧ FirstW a.acc s ok) ∨ (okDf a = false ∧ s = [] ∧ ok = false))) = R
  simp [Df.d]
  refine .dval (c_sDfaValid a hf) rfl (by simp [Df.d]) rfl ?_
  simp
  refine ⟨fun hno => ?_, fun hok => ?_⟩
  · rw [← hR]; exact ⟨[], false, rfl, .inr ⟨hno, rfl, rfl⟩⟩
  · refine .tdat (c_l16First a a 1 hok hok) rfl (by simp [Df.d]) ?_
    rintro _ ⟨s, ok, rfl, hF⟩
    simp
    rw [← hR]
    exact ⟨s, ok, rfl, .inl ⟨hok, hF.congr fun v _ => by rw [fin16_acc]; simp [mode16]⟩⟩

def ExR (a b : Df) (r : List D) : Prop := ∃ (s : List UInt8) (ok : Bool), r = [sD s, .bool ok] ∧ (((okDf a = true ∧ okDf b = true) ∧ FirstW (fun v => a.acc v && !b.acc v) s ok) ∨ (¬ (okDf a = true ∧ okDf b = true) ∧ s = [] ∧ ok = false))
end Go.Fw
