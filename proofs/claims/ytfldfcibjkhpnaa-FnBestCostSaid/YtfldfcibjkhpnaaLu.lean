/- Words that the automaton of roads accepts; the law about least costs. -/
import Derived.Test.YtfldfcibjkhpnaaLt
import Derived.Test.YtfldfcibjkhpnaaLg
import Derived.Test.YtfldfcibjkhpnaaLh
set_option linter.unusedSimpArgs false
set_option linter.unusedVariables false
namespace Go.Fw
open Go Go.Proofs

set_option maxRecDepth 100000 in
theorem c_stepN (n : Int) (rs : List Rd) (x : Nat × Nat) (l : Int) (hl : rs.length ≤ 9223372036854775807) (hx : x.1 < 18446744073709551616 ∧ x.2 < 18446744073709551616) (hrs : ∀ m ∈ rs, (0 ≤ m.f ∧ m.f < 128) ∧ (0 ≤ m.t ∧ m.t < 128) ∧ m.l ≠ -1) :
    DCalls Try.prog 84 [.d (Na.mk n (rs.map fun r => ⟨r.f, r.l, r.t⟩) [0] [n - 1]).d, .d (stD x.1 x.2), iA l] fun y => y = stD (nextN rs x l).1 (nextN rs x l).2 := by
  refine dcalls_intro Ty.mixed Try.func84 rfl rfl rfl [3, 4] (by kernel_rfl) (by simp) ?_
  have hd : (rs.map fun r => (⟨r.f, r.l, r.t⟩ : Mv)).map Mv.d = rs.map mvOf := by simp [mvOf, Mv.d]
  simp only [Na.d, hd]
  simp [stD]
  refine LoopVC.at { i : Nat // i ≤ rs.length } (fun i => [(2, iA l), (3, .dp [iA n, .d (.list (rs.map mvOf)), .d (intsD [0]), .d (intsD [n - 1])]), (4, .dp [.d (.int .u64 x.1), .d (.int .u64 x.2)]), (6, .ptr 600 0), (7, .ptr 700 0), (11, .d (.list (rs.map mvOf))), (12, iA rs.length), (13, iA i.1)])
    (fun i => [(600, .bx [.d (.int .u64 0), .d (.int .u64 0)]), (700, .bx [.d (.int .u64 ((rs.take i.1).foldl (stepN x l) (0, 0)).1), .d (.int .u64 ((rs.take i.1).foldl (stepN x l) (0, 0)).2)])]) [600, 700] (fun i => rs.length - i.1) ⟨0, by simp⟩ (by simp) (by simp) ?_
  rintro ⟨i, hi⟩
  have hq := foldN_lt (x := x) (l := l) (rs.take i) (0, 0) (fun m hm => by have := hrs m (List.mem_of_mem_take hm); omega) (by simp)
  rcases Nat.lt_or_ge i rs.length with h | h
  · have hm := hrs _ (List.getElem_mem h)
    have hsn : (rs.take (i + 1)).foldl (stepN x l) (0, 0) = stepN x l ((rs.take i).foldl (stepN x l) (0, 0)) rs[i] := foldl_take2 _ _ h
    generalize (rs.take i).foldl (stepN x l) (0, 0) = q at *
    obtain ⟨qa, qb⟩ := q
    generalize hri : rs[i] = r at *
    obtain ⟨rf, rl, rt, rc⟩ := r
    obtain ⟨kf, hkf⟩ : ∃ k : Nat, rf = k := ⟨rf.toNat, by simp only at hm; omega⟩
    obtain ⟨kt, hkt⟩ : ∃ k : Nat, rt = k := ⟨rt.toNat, by simp only at hm; omega⟩
    subst hkf hkt
    simp only at hm hsn hq
    simp [h, hri, mvOf]
    refine .flat (fun _ => c_has x.1 x.2 hx.1 hx.2 kf (by omega)) rfl (by simp [stD]) rfl (by simp) ?_
    simp
    refine ⟨fun hA hB => ?_, fun hno => ?_⟩
    · refine .ddat (c_with qa qb hq.1 hq.2 kt (by omega)) rfl (by simp [stD]) ?_
      rintro _ rfl
      have hst : stepN x l (qa, qb) ⟨kf, rl, kt, rc⟩ = stWith (qa, qb) kt := by simp [stepN, hA, hB]
      rw [hst] at hsn
      rcases Nat.lt_or_ge kt 64 with hk | hk
      · simp [stD, hk]
        refine ⟨i + 1, .mk (by simp; exact wrap64 (by omega) (by omega)) (by simp [hsn, stWith, hk]), h, by omega⟩
      · simp [stD, Nat.not_lt.2 hk]
        refine ⟨i + 1, .mk (by simp; exact wrap64 (by omega) (by omega)) (by simp [hsn, stWith, Nat.not_lt.2 hk]), h, by omega⟩
    · have hst : stepN x l (qa, qb) ⟨kf, rl, kt, rc⟩ = (qa, qb) := by
        unfold stepN
        rw [if_neg]
        rintro ⟨hA, hB⟩
        simp at hA hB
        have := hno hA
        rw [hB] at this; cases this
      rw [hst] at hsn
      refine ⟨i + 1, .mk (by simp; exact wrap64 (by omega) (by omega)) (by simp [hsn]), h, by omega⟩
  · have : i = rs.length := by omega
    subst this
    simp
    have hcl := c_close0 (Na.mk n (rs.map fun r => ⟨r.f, r.l, r.t⟩) [0] [n - 1]) (nextN rs x l).1 (nextN rs x l).2 (by simpa using hl) (by simp; exact fun m hm => (hrs m hm).2.2)
    simp only [Na.d, hd, stD, nextN] at hcl
    refine .ddat hcl rfl (by simp) ?_
    rintro _ rfl
    simp [nextN]

theorem runN_snoc (rs : List Rd) {s : List UInt8} {i : Nat} (h : i < s.length) : runN rs (s.take (i + 1)) = nextN rs (runN rs (s.take i)) (ltr s[i]) := by
  unfold runN; rw [foldl_take2 _ _ h]
theorem runN_lt (rs : List Rd) (hrs : ∀ m ∈ rs, m.t.toNat < 128) (s : List UInt8) : (runN rs s).1 < 18446744073709551616 ∧ (runN rs s).2 < 18446744073709551616 := by
  induction s using snocInd with
  | nil => exact ⟨show 1 < 18446744073709551616 by decide, show 0 < 18446744073709551616 by decide⟩
  | snoc s b ih =>
    have e : runN rs (s ++ [b]) = nextN rs (runN rs s) (ltr b) := by unfold runN; rw [List.foldl_append]; rfl
    rw [e]
    exact foldN_lt rs (0, 0) hrs (by simp)

set_option maxRecDepth 100000 in
theorem c_runN (n : Int) (rs : List Rd) (s : List UInt8) (hl : rs.length ≤ 9223372036854775807) (hs : s.length ≤ 1000) (hrs : ∀ m ∈ rs, (0 ≤ m.f ∧ m.f < 128) ∧ (0 ≤ m.t ∧ m.t < 128) ∧ m.l ≠ -1) :
    DCalls Try.prog 60 [.d (Na.mk n (rs.map fun r => ⟨r.f, r.l, r.t⟩) [0] [n - 1]).d, sA s] fun y => y = stD (runN rs s).1 (runN rs s).2 := by
  refine dcalls_intro Ty.mixed Try.func60 rfl rfl rfl [2] (by kernel_rfl) (by simp) ?_
  have hl' : (Na.mk n (rs.map fun r => ⟨r.f, r.l, r.t⟩) [0] [n - 1]).ms.length ≤ 9223372036854775807 := by simpa using hl
  have hm' : ∀ m ∈ (Na.mk n (rs.map fun r => ⟨r.f, r.l, r.t⟩) [0] [n - 1]).ms, m.l ≠ -1 := by simp; exact fun m hm => (hrs m hm).2.2
  have hstep := fun x l hx => c_stepN n rs x l hl hx hrs
  generalize ha : Na.mk n (rs.map fun r => ⟨r.f, r.l, r.t⟩) [0] [n - 1] = a at *
  have hfs : a.fs = [0] := by rw [← ha]
  simp [Na.d]
  refine .ddat (c_first0 a hl' (by simp [hfs]) (by simp [hfs]) hm') rfl (by simp [Na.d]) ?_
  rintro _ rfl
  have h10 : stOf a.fs = (1, 0) := by rw [hfs]; rfl
  simp [stD, h10]
  refine LoopVC.at { i : Nat // i ≤ s.length } (fun i => [(1, sA s), (2, .dp [iA a.n, .d (.list (a.ms.map Mv.d)), .d (intsD a.fs), .d (intsD a.es)]), (4, .ptr 400 0), (5, .ptr 500 0), (10, iA s.length), (11, iA i.1)]) (fun i => [(400, .bx [.d (.int .u64 0), .d (.int .u64 0)]), (500, .bx [.d (.int .u64 (runN rs (s.take i.1)).1), .d (.int .u64 (runN rs (s.take i.1)).2)])]) [400, 500] (fun i => s.length - i.1) ⟨0, by simp⟩ (by simp) (by simp [runN]) ?_
  rintro ⟨i, hi⟩
  have hq := runN_lt rs (fun m hm => by have := hrs m hm; omega) (s.take i)
  rcases Nat.lt_or_ge i s.length with h | h
  · have hsn := runN_snoc rs h
    generalize runN rs (s.take i) = q at *
    simp [h]
    refine .one (sch [.pur 0, .pur 1, .pur 2, .pur 3, .eff 4 [0, 1], .eff 5 [], .eff 6 []]) (by kernel_rfl) ?_
    simp
    refine .dval (c_letter s i h) rfl (by simp) rfl ?_
    simp
    refine .ddat (hstep q (ltr s[i]) hq) rfl (by simp [Na.d, stD]) ?_
    rintro _ rfl
    simp [stD]
    refine ⟨i + 1, .mk (by simp; exact wrap64 (by omega) (by omega)) (by simp [hsn]), h, by omega⟩
  · have : i = s.length := by omega
    subst this
    simp

set_option maxRecDepth 100000 in
theorem c_acceptsN (n : Int) (rs : List Rd) (s : List UInt8) (hv : okRoads n rs = true) (hw : wordOk s = true) :
    DCalls Try.prog 29 [.d (Na.mk n (rs.map fun r => ⟨r.f, r.l, r.t⟩) [0] [n - 1]).d, sA s] fun r => r = .bool (stHas (runN rs s).1 (runN rs s).2 (n.toNat - 1)) := by
  refine dcalls_intro Ty.mixed Try.func29 rfl rfl rfl [2] (by kernel_rfl) (by simp) ?_
  obtain ⟨n1, n2, n3, hrs⟩ := okRoads_of hv
  have hsl : (s.length : Int) ≤ 8 := letters_len hw
  have hrs2 : ∀ m ∈ rs, (0 ≤ m.f ∧ m.f < 128) ∧ (0 ≤ m.t ∧ m.t < 128) ∧ m.l ≠ -1 := fun m hm => by have := hrs m hm; omega
  have hrun := c_runN n rs s (by omega) (by omega) hrs2
  have hlt := runN_lt rs (fun m hm => by have := hrs2 m hm; omega) s
  have hok := naM_ok hv
  have hms : (Na.mk n (rs.map fun r => ⟨r.f, r.l, r.t⟩) [0] [n - 1]).ms.length ≤ 9223372036854775807 := by simp; omega
  generalize ha : Na.mk n (rs.map fun r => ⟨r.f, r.l, r.t⟩) [0] [n - 1] = a at *
  have hfs : a.fs = [0] := by rw [← ha]
  have hes : a.es = [n - 1] := by rw [← ha]
  simp [Na.d]
  refine .one (sch [.pur 0, .eff 1 [], .pur 2, .pur 3, .eff 4 [], .pur 5, .pur 6, .pur 7, .pur 8, .pur 9, .eff 10 [7], .eff 11 [], .pur 12, .pur 13]) (by kernel_rfl) ?_
  simp
  refine .dval (c_NfaValid a hms (by simp [hfs]) (by simp [hes])) rfl (by simp [Na.d]) rfl ?_
  rw [hok]
  simp
  refine .flat (fun _ => c_WordValid s (by omega)) rfl (by simp) rfl (by simp) ?_
  rw [hw]
  simp
  refine .flat (fun _ => hrun) rfl (by simp [Na.d]) rfl (by simp) ?_
  simp
  refine .flat (fun _ => c_ends a _ _ (by simp [hes]) hlt.1 hlt.2 (by simp [hes]; omega)) rfl (by simp [Na.d]) rfl (by simp) ?_
  simp [hes]

set_option maxRecDepth 100000 in
theorem c_FnBestCost (code : List UInt8) (hl : code.length ≤ 9223372036854775807) : DCalls Try.prog 13 [.d (.list (codeD code))] fun y => y = .bool true := by
  refine dcalls_intro Ty.mixed Try.func13 rfl rfl rfl [] (by kernel_rfl) (by simp) ?_
  simp [codeD_len]
  intro h20
  refine .tdat (c_DrawBestCost code) rfl (by simp) ?_
  rintro _ ⟨n, rs, s, rfl, hr, hs⟩
  simp [roadsD, rsD]
  refine .dval (c_BestCost n rs s (by omega) (by omega)) rfl (by simp) rfl ?_
  simp
  refine .dval (c_sBestCost n rs s (by omega) (by omega)) rfl (by simp) rfl ?_
  simp
  refine .dval (c_sRoadsValid n rs (by omega)) rfl (by simp) rfl ?_
  simp
  refine .flat (fun _ => c_sWordValid s (by omega)) rfl (by simp) rfl (by simp) ?_
  simp
  refine ⟨fun hno => ?_, fun hv hw => ?_⟩
  · have e : bestC n rs s = -1 := by rcases hno with hno | hno <;> simp [bestC, hno]
    simp [e]
    refine .flat (fun _ => c_alive) rfl (by simp) rfl (by simp) ?_
    simp
  obtain ⟨n1, n2, n3, hrs⟩ := okRoads_of hv
  have hd : D.agg [iD n, D.list (rs.map mvOf), D.list [iD 0], D.list [iD (n - 1)]] = (Na.mk n (rs.map fun r => ⟨r.f, r.l, r.t⟩) [0] [n - 1]).d := by simp [Na.d, mvOf, Mv.d]
  refine .ddat (c_RoadsNfa n rs (by omega)) rfl (by simp [roadsD, rsD]) ?_
  rintro _ rfl
  simp [naOf, hv, roadsNa]
  refine .dvalE (c_acceptsN n rs s hv hw) rfl (congrArg (fun z => [AV.d z, sA s]) hd) (by simp) rfl ?_
  simp
  refine .flat (fun _ => c_WayCount n rs s (by omega) (by omega)) rfl (by simp) rfl (by simp) ?_
  have hN : n.toNat ≤ 40 := by omega
  have r1 := (relC_run hN (by omega) rs (fun m hm => by have := hrs m hm; omega) s).2 (n.toNat - 1) (by omega)
  have r2 := (relW_run hN (by omega) rs (fun m hm => by have := hrs m hm; omega) s).1.2 (n.toNat - 1) (by omega)
  have eb : bestC n rs s = (costsC n.toNat rs s).getD (n.toNat - 1) 0 := by simp only [bestC, hv, hw, Bool.and_self, if_true]
  have ew : wayC n rs s = (countsW n.toNat rs s).getD (n.toNat - 1) 0 := by simp only [wayC, hv, hw, Bool.and_self, if_true]
  have bd := (costs_bd (by omega) (fun m hm => by have := hrs m hm; omega) s (n := n.toNat) (rs := rs)).getD (i := n.toNat - 1) (by rw [costs_len]; omega) 0
  have hsl : (s.length : Int) ≤ 8 := letters_len hw
  rw [← eb] at r1 bd
  rw [← ew] at r2
  simp
  rw [wrap64 (n := 99 * (s.length : Int)) (by omega) (by omega)]
  exact ⟨⟨r1.symm, by omega⟩, by simpa using r1.symm.trans r2⟩
end Go.Fw
