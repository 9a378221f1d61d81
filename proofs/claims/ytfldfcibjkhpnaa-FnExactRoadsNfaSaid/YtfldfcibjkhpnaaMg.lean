/- The automaton of roads lies in rows of its own; the law that says that it is exact. -/
import Derived.Test.YtfldfcibjkhpnaaMf
set_option linter.unusedSimpArgs false
set_option linter.unusedVariables false
namespace Go.Fw
open Go Go.Proofs

theorem c_toRoadSF (rs : List Rd) (hlen : rs.length ≤ 1048576) : SCalls Try.prog 45 [.d (rsD rs)] fun sz xs => sz = 4 ∧ xs = rs.map Rd.d := by
  refine scalls_intro Ty.mixed Try.func45 rfl rfl rfl [] (by kernel_rfl) (by simp) ?_
  simp [rsD]
  refine ⟨by omega, ?_⟩
  refine LoopVC.at { i : Nat // i ≤ rs.length } (fun i => [(0, .d (rsD rs)), (3, .sl 4 700 0 rs.length), (4, iA i.1)]) (fun i => [(700, .ar 4 (mixL (rs.map Rd.d) (.agg [iD 0, iD 0, iD 0, iD 0]) i.1))]) [700] (fun i => rs.length - i.1) ⟨0, by simp⟩ (by simp [rsD]) (by simp [mixL_zero]) ?_
  rintro ⟨i, hi⟩
  rcases Nat.lt_or_ge i rs.length with h | h
  · have hl : (mixL (rs.map Rd.d) (.agg [iD 0, iD 0, iD 0, iD 0]) i).length = rs.length := by rw [mixL_len (by simpa using hi)]; simp
    simp [rsD, h, Rd.d]
    refine .dval (c_toRoad rs[i]) rfl (by simp) rfl ?_
    simp [Rd.d, hl, h]
    refine ⟨i + 1, .mk (by simp; exact wrap64 (by omega) (by omega)) (by simp; rw [← mixL_set (by simpa using h)]; simp [Rd.d]), h, by omega⟩
  · simp [rsD, Nat.not_lt.2 h]
    rw [mixL_all (by simpa using h)]
    simp

theorem c_toRoadsF (n : Int) (rs : List Rd) (hlen : rs.length ≤ 1048576) : FCalls Try.prog 16 [.d (roadsD n rs)] fun x res => x = .ag [iA n, .sl 4 601 0 rs.length] ∧ res = [(601, .ar 4 (rs.map Rd.d))] := by
  refine fcalls_intro Ty.mixed Try.func16 rfl rfl rfl [1] (by kernel_rfl) (by simp) ?_
  simp [roadsD]
  refine .freshS 601 (c_toRoadSF rs hlen) (by omega) (by simp) rfl (by simp) ?_
  rintro _ _ ⟨rfl, rfl⟩
  simp [keepP, lookH]

set_option maxRecDepth 100000 in
theorem c_RoadsNfaF (n : Int) (rs : List Rd) (hl : rs.length ≤ 9223372036854775807) (hv : okRoads n rs = true) : FCalls Try.prog 25 [.d (roadsD n rs)] fun x res => x = .ag [iA n, .sl 3 801 0 rs.length, .sl 1 1200 0 1, .sl 1 1600 0 1] ∧ res = [(801, .ar 3 (rs.map mvOf)), (1200, .ar 1 [iD 0]), (1600, .ar 1 [iD (n - 1)])] := by
  refine fcalls_intro Ty.mixed Try.func25 rfl rfl rfl [1] (by kernel_rfl) (by simp) ?_
  simp [roadsD]
  refine .dval (c_RoadsValid n rs hl) rfl (by simp [roadsD]) rfl ?_
  simp [hv]
  obtain ⟨n1, n2, n3, hrs⟩ := okRoads_of hv
  have hw : IntKind.i64.wrap (n - 1) = n - 1 := wrap64 (by omega) (by omega)
  simp [hw, rsD]
  refine LoopVC.wk (Wk.adoptBx 300 1 801 3 (cs := [iA n, .nl, .sl 1 1200 0 1, .sl 1 1600 0 1]) (by simp) rfl (by simp)) ?_
  refine LoopVC.at { i : Nat // i ≤ rs.length } (fun i => [(2, .ptr 200 0), (3, .ptr 300 0), (19, .d (rsD rs)), (20, iA rs.length), (21, iA i.1)])
    (fun i => [(200, .bx [iA 0, .nl, .nl, .nl]), (300, .bx [iA n, .sl 3 801 0 i.1, .sl 1 1200 0 1, .sl 1 1600 0 1]), (801, .ar 3 ((rs.take i.1).map mvOf)), (1200, .ar 1 [iD 0]), (1600, .ar 1 [iD (n - 1)])]) [200, 300, 801, 1200, 1600] (fun i => rs.length - i.1) ⟨0, by simp⟩ (by simp [rsD]) (by simp) ?_
  rintro ⟨i, hi⟩
  rcases Nat.lt_or_ge i rs.length with h | h
  · have hlt : ((rs.take i).map mvOf).length = i := by simp; omega
    simp [h, rsD, Rd.d, hlt]
    refine ⟨⟨by omega, by omega, by omega⟩, i + 1, .mk (by simp; exact wrap64 (by omega) (by omega)) (by simp [take_mv h]), h, by omega⟩
  · have : i = rs.length := by omega
    subst this
    simp [rsD]
    refine ⟨?_, by simp [keepP, lookH], by simp [keepP, lookH], by simp [keepP, lookH]⟩
    rintro a b (⟨rfl, rfl⟩ | ⟨rfl, rfl⟩ | ⟨rfl, rfl⟩) <;> simp

theorem mvOf_map (rs : List Rd) : rs.map mvOf = (rs.map fun r => (⟨r.f, r.l, r.t⟩ : Mv)).map Mv.d := by simp [mvOf, Mv.d]

/-- An automaton with choices in three new rows. -/
def naAg (a : Na) (i1 i2 i3 : Nat) : AV := .ag [iA a.n, .sl 3 i1 0 a.ms.length, .sl 1 i2 0 a.fs.length, .sl 1 i3 0 a.es.length]
def naRes (a : Na) (i1 i2 i3 : Nat) : List (Nat × Blk) := [(i1, .ar 3 (a.ms.map Mv.d)), (i2, .ar 1 (a.fs.map iD)), (i3, .ar 1 (a.es.map iD))]
theorem naAg_flat (a : Na) (i1 i2 i3 : Nat) : (naAg a i1 i2 i3).flatR = true := by simp [naAg, AV.flatR, AV.flat2, AV.flat1, D.flat, D.one]
theorem naRes_flat (a : Na) (i1 i2 i3 : Nat) : (naRes a i1 i2 i3).all (fun p => p.2.flatR) = true := by
  simp [naRes, Blk.flatR, Mv.d, D.flat, D.one]
theorem naAg_back (a : Na) (base i1 i2 i3 : Nat) (h1 : 100 ≤ i1) (h2 : 100 ≤ i2) (h3 : 100 ≤ i3) (n12 : i1 ≠ i2) (n13 : i1 ≠ i3) (n23 : i2 ≠ i3) : (naAg a i1 i2 i3).back (fun _ => 0) base [] (naRes a i1 i2 i3) = naAg a base (base + 1) (base + 2) := by
  simp [naAg, naRes, AV.back, AV.kp, AV.kpL, AV.ren, AV.renL, outE, renOf, posOf, show ¬ i1 < 100 by omega, show ¬ i2 < 100 by omega, show ¬ i3 < 100 by omega, n12.symm, n13.symm, n23.symm]
theorem takeM {α β : Type} (f : α → β) (xs : List α) : (xs.map f).take xs.length = xs.map f := List.take_of_length_le (by simp)

theorem c_RoadsNfaM (n : Int) (rs : List Rd) (hl : rs.length ≤ 9223372036854775807) (hv : okRoads n rs = true) : FCalls Try.prog 25 [.d (roadsD n rs)] fun x res => x = naAg ⟨n, rs.map fun r => ⟨r.f, r.l, r.t⟩, [0], [n - 1]⟩ 801 1200 1600 ∧ res = naRes ⟨n, rs.map fun r => ⟨r.f, r.l, r.t⟩, [0], [n - 1]⟩ 801 1200 1600 := by
  refine ACalls.mono (c_RoadsNfaF n rs hl hv) ?_
  rintro _ _ _ ⟨rfl, rfl⟩
  simp [naAg, naRes, mvOf, Mv.d]

theorem c_RoadsNfaF0 (n : Int) (rs : List Rd) (hl : rs.length ≤ 9223372036854775807) (hv : okRoads n rs = false) : FCalls Try.prog 25 [.d (roadsD n rs)] fun x res => x = .ag [iA 0, .nl, .nl, .nl] ∧ res = [] := by
  refine fcalls_intro Ty.mixed Try.func25 rfl rfl rfl [1] (by kernel_rfl) (by simp) ?_
  simp [roadsD]
  refine .dval (c_RoadsValid n rs hl) rfl (by simp [roadsD]) rfl ?_
  simp [hv]
theorem c_markInt0 (k : Int) : DCalls Try.prog 70 [.d (.list []), iA k] fun r => r = iD k := by
  refine dcalls_intro Ty.mixed Try.func70 rfl rfl rfl [] (by kernel_rfl) (by simp) ?_
  simp
  refine LoopVC.at Unit (fun _ => [(0, .d (.list [])), (1, iA k), (5, iA 0)]) (fun _ => []) [] (fun _ => 0) () (by simp) (by simp) ?_
  intro _
  simp
theorem c_markMove0 (k : Int) : DCalls Try.prog 69 [.d (.list []), iA k] fun r => r = iD k := by
  refine dcalls_intro Ty.mixed Try.func69 rfl rfl rfl [] (by kernel_rfl) (by simp) ?_
  simp
  refine LoopVC.at Unit (fun _ => [(0, .d (.list [])), (1, iA k), (5, iA 0)]) (fun _ => []) [] (fun _ => 0) () (by simp) (by simp) ?_
  intro _
  simp
theorem c_markNfa0 : DCalls Try.prog 37 [.d (Na.mk 0 [] [] []).d, iA 1] fun r => r = iD 1 := by
  refine dcalls_intro Ty.mixed Try.func37 rfl rfl rfl [2] (by kernel_rfl) (by simp) ?_
  simp [Na.d]
  refine .dval (c_markMove0 1) rfl (by simp) rfl ?_
  simp
  refine .dval (c_markInt0 1) rfl (by simp) rfl ?_
  simp
  refine .dval (c_markInt0 1) rfl (by simp) rfl ?_
  simp

set_option maxRecDepth 100000 in
theorem c_FnExactRoadsNfa (n : Int) (rs : List Rd) (h1 : rs.length ≤ 9223372036854775807) : DCalls Try.prog 11 [.d (roadsD n rs)] fun y => y = .bool true := by
  refine dcalls_intro Ty.mixed Try.func11 rfl rfl rfl [1] (by kernel_rfl) (by simp) ?_
  simp [roadsD]
  refine .dval (c_szRoads n rs 1048576) rfl (by simp [roadsD]) rfl ?_
  have e : IntKind.i64.wrap (1048576 - (rs.length : Int)) = 1048576 - rs.length := wrap64 (by omega) (by omega)
  rw [e]
  rcases Int.lt_or_le (1048576 - (rs.length : Int)) 0 with hb | hb
  · simp [hb]
  have hlen : rs.length ≤ 1048576 := by omega
  simp [show ¬ (1048576 - (rs.length : Int) < 0) by omega]
  refine .ddat (c_toRoads n rs hlen) rfl (by simp [roadsD]) ?_
  rintro _ rfl
  simp
  refine .ddat (c_sRoadsNfa n rs h1) rfl (by simp) ?_
  rintro _ rfl
  cases hv : okRoads n rs with
  | false =>
    have hG := c_RoadsNfa n rs h1
    have hM : naOf n rs = (Na.mk 0 [] [] []).d := by simp [naOf, hv, zeroNa, Na.d]
    have hz := c_eqNfa (Na.mk 0 [] [] []) (Na.mk 0 [] [] []) ⟨by simp, by simp, by simp⟩
    have hheld := c_heldNfa 0 1 0 0 0 (by omega) (by omega)
    rw [show marksNa 1 0 0 0 0 = Na.mk 0 [] [] [] from rfl] at hheld
    have hmk : DCalls Try.prog 37 [.d (Na.mk 0 [] [] []).d, iA 1] fun r => r = iD 1 := c_markNfa0
    rw [hM] at hG ⊢
    simp [Na.d]
    refine .freshF 901 false (c_toRoadsF n rs hlen) rfl (by simp [roadsD]) (by simp) (by omega) ?_
    rintro _ _ ⟨rfl, rfl⟩
    refine ⟨by simp, ?_⟩
    rw [after_new1 (by omega) rfl]
    simp [AV.back, AV.kp, AV.kpL, AV.ren, AV.renL, outE, renOf, posOf]
    refine .freshF 911 false (c_RoadsNfaF0 n rs h1 hv) rfl (by simp [roadsD, rsD, takeM]) (by simp) (by omega) ?_
    rintro _ _ ⟨rfl, rfl⟩
    refine ⟨⟨by simp, by simp, .inr (.inr ⟨by simp [AV.flatR, AV.flat2, AV.flat1, D.flat, D.one], rfl⟩)⟩, ?_⟩
    rw [after_none]
    simp [AV.back, AV.kp, AV.kpL, AV.ren, AV.renL, outE, renOf, posOf]
    refine .dvalE hz rfl (by simp [Na.d]) (by simp) rfl ?_
    simp
    refine .one (sch [.pur 0, .pur 1, .eff 2 [0], .eff 3 [], .pur 4]) (by kernel_rfl) ?_
    simp
    refine .ddat (c_toRoads n rs hlen) rfl (by simp [roadsD]) ?_
    rintro _ rfl
    simp
    refine .dvalE (c_eqRoads n n rs rs h1) rfl (by simp [roadsD, rsD, takeM]) (by simp) rfl ?_
    simp
    refine .lend1 901 (c_markRoads n rs 1 (by omega) (by omega)) (by simp [AV.ren, AV.renL, g1]) rfl (by simp) ?_
    rintro _ _ ⟨rfl, ys, h2⟩ _
    simp only [List.cons.injEq, and_true] at h2
    subst h2
    simp [show ¬ (1 + 4 * (rs.length : Int) < 0) by omega]
    refine .flatE (fun _ => hz) rfl (by simp [Na.d]) (by simp) rfl (by simp) ?_
    simp
    refine .dvalE hmk rfl (by simp [Na.d]) (by simp) rfl ?_
    simp
    refine .dvalE hheld rfl (by simp [Na.d]) (by simp) rfl ?_
    simp
    refine .ddat (c_toRoads n rs hlen) rfl (by simp [roadsD]) ?_
    rintro _ rfl
    simp
    refine .ddat hG rfl (by simp) ?_
    rintro _ rfl
    simp [Na.d]
    refine .dvalE hz rfl (by simp [Na.d]) (by simp) rfl ?_
    simp
    refine .dvalE hheld rfl (by simp [Na.d]) (by simp) rfl ?_
    simp
  | true =>
    have hF := c_RoadsNfaM n rs h1 hv
    have hG := c_RoadsNfa n rs h1
    have hM : naOf n rs = (Na.mk n (rs.map fun r => ⟨r.f, r.l, r.t⟩) [0] [n - 1]).d := by simp [naOf, hv, roadsNa, Na.d, mvOf, Mv.d]
    have hsm : (Na.mk n (rs.map fun r => ⟨r.f, r.l, r.t⟩) [0] [n - 1]).small := ⟨by simp; omega, by simp, by simp⟩
    rw [hM] at hG ⊢
    generalize Na.mk n (rs.map fun r => ⟨r.f, r.l, r.t⟩) [0] [n - 1] = M at *
    have m1 := hsm.ms
    have m2 := hsm.fs
    have m3 := hsm.es
    simp [Na.d]
    refine .freshF 901 false (c_toRoadsF n rs hlen) rfl (by simp [roadsD]) (by simp) (by omega) ?_
    rintro _ _ ⟨rfl, rfl⟩
    refine ⟨by simp, ?_⟩
    rw [after_new1 (by omega) rfl]
    simp [AV.back, AV.kp, AV.kpL, AV.ren, AV.renL, outE, renOf, posOf]
    refine .freshF 911 false hF rfl (by simp [roadsD, rsD, takeM]) (by simp) (by omega) ?_
    rintro _ _ ⟨rfl, rfl⟩
    refine ⟨⟨by simp [naRes], by simp [naRes]; omega, .inr (.inr ⟨naAg_flat _ _ _ _, naRes_flat _ _ _ _⟩)⟩, ?_⟩
    rw [naAg_back _ _ _ _ _ (by omega) (by omega) (by omega) (by omega) (by omega) (by omega)]
    simp only [naRes]
    rw [after_new3 (by omega) (by omega) (by omega) (by omega) (by omega) (by omega) rfl rfl rfl]
    simp [naAg]
    refine .dvalE (c_eqNfa M M hsm) rfl (by simp [Na.d, takeM]) (by simp) rfl ?_
    simp
    refine .one (sch [.pur 0, .pur 1, .eff 2 [0], .eff 3 [], .pur 4]) (by kernel_rfl) ?_
    simp
    refine .ddat (c_toRoads n rs hlen) rfl (by simp [roadsD]) ?_
    rintro _ rfl
    simp
    refine .dvalE (c_eqRoads n n rs rs h1) rfl (by simp [roadsD, rsD, takeM]) (by simp) rfl ?_
    simp
    refine .lend1 901 (c_markRoads n rs 1 (by omega) (by omega)) (by simp [AV.ren, AV.renL, g1]) rfl (by simp) ?_
    rintro _ _ ⟨rfl, ys, h2⟩ _
    simp only [List.cons.injEq, and_true] at h2
    subst h2
    simp [show ¬ (1 + 4 * (rs.length : Int) < 0) by omega]
    refine .flatE (fun _ => c_eqNfa M M hsm) rfl (by simp [Na.d, takeM]) (by simp) rfl (by simp) ?_
    simp
    refine .lend3 911 912 913 (by omega) (by omega) (by omega) (c_markNfa M 1 (by omega) (by omega)) (by simp [AV.ren, AV.renL, g3]) ⟨rfl, rfl, rfl⟩ (by simp) ?_
    rintro _ _ _ _ ⟨rfl, h3⟩
    simp only [List.cons.injEq, and_true] at h3
    obtain ⟨rfl, rfl, rfl⟩ := h3
    have hheld := c_heldNfa M.n 1 M.ms.length M.fs.length M.es.length (by omega) (by omega)
    have l1 : (marksNa 1 M.n M.ms.length M.fs.length M.es.length).ms.length = M.ms.length := marksM_len _ _
    have l2 : (marksNa 1 M.n M.ms.length M.fs.length M.es.length).fs.length = M.fs.length := marksI_len _ _
    have l3 : (marksNa 1 M.n M.ms.length M.fs.length M.es.length).es.length = M.es.length := marksI_len _ _
    have l4 : (marksNa 1 M.n M.ms.length M.fs.length M.es.length).n = M.n := rfl
    generalize marksNa 1 M.n M.ms.length M.fs.length M.es.length = M2 at *
    have k1 := takeM Mv.d M2.ms
    have k2 := takeM iD M2.fs
    have k3 := takeM iD M2.es
    rw [l1] at k1
    rw [l2] at k2
    rw [l3] at k3
    have hnn : ¬ (1 + 3 * (M.ms.length : Int) + M.fs.length + M.es.length < 0) := by omega
    simp
    refine .dvalE hheld rfl (by simp [Na.d, k1, k2, k3, l4]) (by simp [l1, l2, l3]) rfl ?_
    simp [hnn]
    refine .ddat (c_toRoads n rs hlen) rfl (by simp [roadsD]) ?_
    rintro _ rfl
    simp
    refine .ddat hG rfl (by simp) ?_
    rintro _ rfl
    simp [Na.d]
    refine .dvalE (c_eqNfa M M hsm) rfl (by simp [Na.d]) (by simp) rfl ?_
    simp
    refine .dvalE hheld rfl (by simp [Na.d, k1, k2, k3, l4]) (by simp [l1, l2, l3]) rfl ?_
    simp [hnn]
end Go.Fw
