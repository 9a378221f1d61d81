/- Costs of ways. -/
import Derived.Test.YtfldfcibjkhpnaaLr
import Derived.Test.YtfldfcibjkhpnaaLm
import Derived.Test.YtfldfcibjkhpnaaLc
set_option linter.unusedSimpArgs false
set_option linter.unusedVariables false
namespace Go.Fw
open Go Go.Proofs

theorem sub_ltr' (b : UInt8) : IntKind.i64.wrap (IntKind.u8.wrap ((b.toNat : Int) - 97)) = ltr b := wrap_ltr b
theorem wrapu64 {n : Int} (h1 : 0 ≤ n) (h2 : n ≤ 18446744073709551615) : IntKind.u64.wrap n = n := by
  simp [IntKind.wrap, IntKind.signed, IntKind.bits]; omega

theorem c_Mul1 (n : Nat) (h1 : n ≤ 1000) : TCalls Try.prog 92 [.d (.int .u64 1), .d (.int .u64 n)] fun r => r = [.int .u64 0, .int .u64 n] := by
  refine tcalls_intro Ty.mixed Try.func92 rfl rfl rfl [] (by kernel_rfl) (by simp) ?_
  simp
  refine .tflat (c_Mul64 1 n (by omega) (by omega)) rfl (by simp) (by rintro r rfl; rfl) ?_
  rintro _ rfl
  have e1 : ((1 * n / 18446744073709551616 : Nat) : Int) = 0 := by omega
  have e2 : ((1 * n % 18446744073709551616 : Nat) : Int) = n := by omega
  rw [e1, e2]
  simp

theorem rep_drop {α : Type} (v z : α) {b n m : Nat} : List.drop (b + m) (List.replicate b v ++ List.replicate (n - b) z) = List.replicate (n - (b + m)) z := by
  rw [List.drop_append]
  simp
  omega

/-- A row, a number again and again. -/
theorem c_Repeat1 (v : Int) (n : Nat) (h1 : 1 ≤ n) (h2 : n ≤ 1000) : SCalls Try.prog 85 [.d (.list [iD v]), iA n] fun sz xs => sz = 1 ∧ xs = (List.replicate n v).map iD := by
  refine scalls_intro Ty.mixed Try.func85 rfl rfl rfl [] (by kernel_rfl) (by simp) ?_
  have w1 : IntKind.u64.wrap (n : Int) = n := wrapu64 (by omega) (by omega)
  have w2 : IntKind.i64.wrap (n : Int) = n := wrap64 (by omega) (by omega)
  have w3 : IntKind.u64.wrap 1 = 1 := wrapu64 (by omega) (by omega)
  simp [w1, w2, w3, show ¬ (n : Int) < 0 by omega]
  refine .tflat (c_Mul1 n h2) rfl (by simp) (by rintro r rfl; rfl) ?_
  rintro _ rfl
  simp [w1, w2, show ¬ (9223372036854775807 : Int) < n by omega, show n ≤ 9223372036854775807 by omega]
  refine ⟨⟨by omega, by omega⟩, by omega, ?_⟩
  refine LoopVC.at { b : Nat // 1 ≤ b ∧ b ≤ n } (fun b => [(7, .sl 1 3000 0 n), (8, iA b.1)]) (fun b => [(3000, .ar 1 (List.replicate b.1 (iD v) ++ List.replicate (n - b.1) (iD 0)))]) [3000] (fun b => n - b.1) ⟨1, by omega⟩ (by
    simp; omega) (by
    simp
    rw [show min 1 n = 1 by omega]; rfl) ?_
  rintro ⟨b, hb1, hb2⟩
  rcases Nat.lt_or_ge b n with h | h
  · simp [h]
    refine .one (sch [.pur 0, .pur 1, .pur 2, .pur 3, .pur 4, .pur 5, .pur 6, .eff 7 [0], .pur 8, .eff 9 []]) (by kernel_rfl) ?_
    simp [h]
    refine ⟨by omega, by omega, ⟨b + min b (n - b), .mk (by simp; rw [wrap64 (by omega) (by omega)]) (by
      simp
      exact rep_drop _ _), by omega⟩⟩
  · have : b = n := by omega
    subst this
    simp

set_option maxRecDepth 100000 in
theorem c_bestCost (N : Nat) (rs : List Rd) (s : List UInt8) (hv : okRoads N rs = true) (hw : wordOk s = true) :
    DCalls Try.prog 62 [.d (roadsD N rs), sA s] fun y => y = iD ((costsC N rs s).getD (N - 1) 0) := by
  obtain ⟨hn1, hn2, hr60, hrs⟩ := okRoads_of hv
  have hs8 : (s.length : Int) ≤ 8 := letters_len hw
  have hN : 1 ≤ N := by omega
  refine dcalls_intro Ty.mixed Try.func62 rfl rfl rfl [2] (by kernel_rfl) (by simp) ?_
  simp [roadsD, rsD]
  refine .freshS 1400 (c_Repeat1 (-1) N hN (by omega)) (by omega) (by simp) rfl (by simp) ?_
  rintro _ _ ⟨rfl, rfl⟩
  simp [show 0 < N by omega]
  refine LoopVC.wk (Wk.frz 5 rfl (by simp)) ?_
  refine LoopVC.at { i : Nat // i ≤ s.length } (fun i => [(1, sA s), (2, .dp [iA N, .d (rsD rs)]), (5, .d (isD (costsC N rs (s.take i.1)))), (18, iA s.length), (19, iA i.1)]) (fun _ => []) [] (fun i => s.length - i.1) ⟨0, by simp⟩ (by
    simp [rsD, costsC, initC]
    rw [List.take_of_length_le (by simp)]) (by simp) ?_
  rintro ⟨i, hi⟩
  have hat := costs_len N rs (s.take i)
  have hbd := costs_bd (n := N) (rs := rs) hN (fun m hm => by have := hrs m hm; omega) (s.take i)
  rcases Nat.lt_or_ge i s.length with h | h
  · simp [h, rsD]
    refine .freshS 2500 (c_Repeat1 (-1) N hN (by omega)) (by omega) (by simp) rfl (by simp) ?_
    rintro _ _ ⟨rfl, rfl⟩
    simp
    have hti : (s.take i).length ≤ 8 := by simp; omega
    refine LoopVC.at { j : Nat // j ≤ rs.length } (fun j => [(1, sA s), (2, .dp [iA N, .d (rsD rs)]), (5, .d (isD (costsC N rs (s.take i)))), (6, iA i), (7, .sl 1 2500 0 N), (18, iA s.length), (19, iA i), (27, .d (rsD rs)), (28, iA rs.length), (29, iA j.1)])
      (fun j => [(2500, .ar 1 (((rs.take j.1).foldl (stepC (costsC N rs (s.take i)) (ltr s[i])) (List.replicate N (-1))).map iD))]) [2500] (fun j => rs.length - j.1) ⟨0, by simp⟩ (by simp [rsD]) (by simp) ?_
    rintro ⟨j, hj⟩
    have hnl : ((rs.take j).foldl (stepC (costsC N rs (s.take i)) (ltr s[i])) (List.replicate N (-1))).length = N := by rw [foldC_len]; simp
    have hnb := foldC_bd (l := ltr s[i]) hbd (rs.take j) (fun m hm => by have := hrs m (List.mem_of_mem_take hm); rw [hat]; omega) (Bd.repl N (v := -1) (by omega) (by omega))
    rcases Nat.lt_or_ge j rs.length with hj' | hj'
    · have hm := hrs rs[j] (List.getElem_mem hj')
      have hsucc : (rs.take (j + 1)).foldl (stepC (costsC N rs (s.take i)) (ltr s[i])) (List.replicate N (-1)) = stepC (costsC N rs (s.take i)) (ltr s[i]) ((rs.take j).foldl (stepC (costsC N rs (s.take i)) (ltr s[i])) (List.replicate N (-1))) rs[j] := foldl_take _ _ hj'
      generalize (rs.take j).foldl (stepC (costsC N rs (s.take i)) (ltr s[i])) (List.replicate N (-1)) = nx at hnl hnb hsucc
      generalize costsC N rs (s.take i) = at_ at hat hbd hnb hsucc
      have h1 := hbd.getD (i := rs[j].f.toNat) (by omega) 0
      have h2 := hnb.getD (i := rs[j].t.toNat) (by omega) 0
      obtain ⟨va, a1, a2, a3⟩ := getD_ex (xs := at_) (i := rs[j].f.toNat) (by omega)
      obtain ⟨vn, b1, b2, b3⟩ := getD_ex (xs := nx) (i := rs[j].t.toNat) (by omega)
      rw [a3] at h1; rw [b3] at h2
      simp [hj', Rd.d, rsD]
      refine .one (sch [.pur 0, .pur 1, .pur 2, .pur 3, .eff 4 [0, 1], .pur 5, .pur 6, .pur 7, .pur 8, .pur 9, .pur 10, .pur 11, .pur 12, .pur 13]) (by kernel_rfl) ?_
      simp [hj', Rd.d, rsD]
      refine .dval (c_letter s i h) rfl (by simp) rfl ?_
      have hstep : stepC at_ (ltr s[i]) nx rs[j] = if rs[j].l = ltr s[i] ∧ 0 ≤ va ∧ (vn < 0 ∨ va + rs[j].c < vn) then nx.set rs[j].t.toNat (va + rs[j].c) else nx := by rw [stepC, a3, b3]
      rw [hstep] at hsucc
      simp [hm, hat, a1, a2]
      refine ⟨fun hno => ?_, fun he hva => ?_⟩
      · refine ⟨j + 1, .mk (by simp [rsD]; exact wrap64 (by omega) (by omega)) (by
          simp [hsucc]
          rw [if_neg (by omega)]), hj', by omega⟩
      · refine .one (sch [.pur 0, .pur 1, .pur 2, .pur 3, .pur 4, .pur 5, .pur 6, .pur 7, .pur 8]) (by kernel_rfl) ?_
        simp [hj', Rd.d, rsD, hm, hat, hnl, a1, a2, b1, b2, wrap64 (n := va + rs[j].c) (by omega) (by omega), show rs[j].t.toNat < N by omega]
        refine ⟨fun hlt => ?_, fun h3 h4 => ?_⟩
        · refine ⟨j + 1, .mk (by simp [rsD]; exact wrap64 (by omega) (by omega)) (by
            simp [hsucc]
            rw [if_pos (by omega)]; simp), hj', by omega⟩
        · refine ⟨j + 1, .mk (by simp [rsD]; exact wrap64 (by omega) (by omega)) (by
            simp [hsucc]
            rw [if_neg (by omega)]), hj', by omega⟩
    · simp [Nat.not_lt.2 hj']
      have hj2 : rs.take j = rs := List.take_of_length_le (by omega)
      refine ⟨i + 1, (Wk.frz 5 rfl (by simp [hnl])).trans (.mk (by
        simp [rsD]
        refine ⟨?_, wrap64 (by omega) (by omega)⟩
        rw [costs_snoc N rs h, nextC, List.take_of_length_le (by simp [foldC_len]), hj2]) (by simp)), h, by omega⟩
  · have hi' : i = s.length := by omega
    subst hi'
    rw [List.take_length] at hat
    obtain ⟨v, g1, g2, g3⟩ := getD_ex (xs := costsC N rs s) (i := N - 1) (by omega)
    simp [rsD, wrap64 (n := (N : Int) - 1) (by omega) (by omega), show ((N : Int) - 1).toNat = N - 1 by omega, hat, g1, g2]
    try omega

theorem c_BestCost (n : Int) (rs : List Rd) (s : List UInt8) (hr0 : rs.length ≤ 9223372036854775807) (hs0 : s.length ≤ 9223372036854775807) :
    DCalls Try.prog 31 [.d (roadsD n rs), sA s] fun y => y = iD (bestC n rs s) := by
  refine dcalls_intro Ty.mixed Try.func31 rfl rfl rfl [2] (by kernel_rfl) (by simp) ?_
  simp [roadsD, rsD]
  refine .dval (c_RoadsValid n rs hr0) rfl (by simp) rfl ?_
  simp
  refine .flat (fun _ => c_WordValid s hs0) rfl (by simp) rfl (by simp) ?_
  simp
  refine ⟨fun h => ?_, fun hv hw => ?_⟩
  · rcases h with h | h <;> simp [bestC, h]
  obtain ⟨hn1, hn2, hr60, hrs⟩ := okRoads_of hv
  obtain ⟨N, rfl⟩ : ∃ N : Nat, n = N := ⟨n.toNat, by omega⟩
  refine .dval (c_bestCost N rs s hv hw) rfl (by simp) rfl ?_
  simp [bestC, hv, hw]

theorem repl_snoc (n : Nat) (v : Int) : (List.replicate n v).map iD ++ [iD v] = (List.replicate (n + 1) v).map iD := by
  rw [List.replicate_succ']; simp

set_option maxRecDepth 100000 in
theorem c_l22Costs (N : Nat) (rs : List Rd) (s : List UInt8) (hv : okRoads N rs = true) (hw : wordOk s = true) :
    DCalls Try.prog 61 [.d (roadsD N rs), sA s] fun y => y = isD (costsC N rs s) := by
  obtain ⟨hn1, hn2, hr60, hrs⟩ := okRoads_of hv
  have hs8 : (s.length : Int) ≤ 8 := letters_len hw
  have hN : 1 ≤ N := by omega
  refine dcalls_intro Ty.mixed Try.func61 rfl rfl rfl [2] (by kernel_rfl) (by simp) ?_
  simp [roadsD, rsD]
  refine LoopVC.at { k : Nat // k ≤ N } (fun k => [(1, sA s), (2, .dp [iA N, .d (rsD rs)]), (5, .sl 1 1200 0 k.1), (6, iA k.1)]) (fun k => [(1200, .ar 1 ((List.replicate k.1 (-1)).map iD))]) [1200] (fun k => N - k.1) ⟨0, by simp⟩ (by simp [rsD]) (by simp) ?_
  rintro ⟨k, hk⟩
  rcases Nat.lt_or_ge k N with hkN | hkN
  · simp [hkN]
    refine ⟨⟨by omega, by omega⟩, k + 1, .mk (by simp [rsD]; exact wrap64 (by omega) (by omega)) (by simp [List.replicate_succ']), hkN, by omega⟩
  have hkN' : k = N := by omega
  subst hkN'
  simp [show 0 < k by omega]
  refine LoopVC.wk (Wk.frz 5 rfl (by simp)) ?_
  refine LoopVC.at { i : Nat // i ≤ s.length } (fun i => [(1, sA s), (2, .dp [iA k, .d (rsD rs)]), (5, .d (isD (costsC k rs (s.take i.1)))), (7, iA i.1)]) (fun _ => []) [] (fun i => s.length - i.1) ⟨0, by simp⟩ (by
    simp [rsD, costsC, initC]
    rw [List.take_of_length_le (by simp)]) (by simp) ?_
  rintro ⟨i, hi⟩
  have hat := costs_len k rs (s.take i)
  have hbd := costs_bd (n := k) (rs := rs) hN (fun m hm => by have := hrs m hm; omega) (s.take i)
  rcases Nat.lt_or_ge i s.length with h | h
  · simp [h, rsD]
    refine LoopVC.at { q : Nat // q ≤ k } (fun q => [(1, sA s), (2, .dp [iA k, .d (rsD rs)]), (5, .d (isD (costsC k rs (s.take i)))), (7, iA i), (8, .sl 1 3000 0 q.1), (9, iA q.1)]) (fun q => [(3000, .ar 1 ((List.replicate q.1 (-1)).map iD))]) [3000] (fun q => k - q.1) ⟨0, by simp⟩ (by simp [rsD]) (by simp) ?_
    rintro ⟨q, hq⟩
    rcases Nat.lt_or_ge q k with hqk | hqk
    · simp [hqk]
      refine ⟨⟨by omega, by omega⟩, q + 1, .mk (by simp [rsD]; exact wrap64 (by omega) (by omega)) (by simp [List.replicate_succ']), hqk, by omega⟩
    have hqk' : q = k := by omega
    subst hqk'
    simp
    have hti : (s.take i).length ≤ 8 := by simp; omega
    refine LoopVC.at { j : Nat // j ≤ rs.length } (fun j => [(1, sA s), (2, .dp [iA q, .d (rsD rs)]), (5, .d (isD (costsC q rs (s.take i)))), (7, iA i), (8, .sl 1 3000 0 q), (10, iA j.1)])
      (fun j => [(3000, .ar 1 (((rs.take j.1).foldl (stepC (costsC q rs (s.take i)) (ltr s[i])) (List.replicate q (-1))).map iD))]) [3000] (fun j => rs.length - j.1) ⟨0, by simp⟩ (by simp [rsD]) (by simp) ?_
    rintro ⟨j, hj⟩
    have hnl : ((rs.take j).foldl (stepC (costsC q rs (s.take i)) (ltr s[i])) (List.replicate q (-1))).length = q := by rw [foldC_len]; simp
    have hnb := foldC_bd (l := ltr s[i]) hbd (rs.take j) (fun m hm => by have := hrs m (List.mem_of_mem_take hm); rw [hat]; omega) (Bd.repl q (v := -1) (by omega) (by omega))
    rcases Nat.lt_or_ge j rs.length with hj' | hj'
    · have hm := hrs rs[j] (List.getElem_mem hj')
      have hsucc : (rs.take (j + 1)).foldl (stepC (costsC q rs (s.take i)) (ltr s[i])) (List.replicate q (-1)) = stepC (costsC q rs (s.take i)) (ltr s[i]) ((rs.take j).foldl (stepC (costsC q rs (s.take i)) (ltr s[i])) (List.replicate q (-1))) rs[j] := foldl_take _ _ hj'
      generalize (rs.take j).foldl (stepC (costsC q rs (s.take i)) (ltr s[i])) (List.replicate q (-1)) = nx at hnl hnb hsucc
      generalize costsC q rs (s.take i) = at_ at hat hbd hnb hsucc
      have h1 := hbd.getD (i := rs[j].f.toNat) (by omega) 0
      have h2 := hnb.getD (i := rs[j].t.toNat) (by omega) 0
      obtain ⟨va, a1, a2, a3⟩ := getD_ex (xs := at_) (i := rs[j].f.toNat) (by omega)
      obtain ⟨vn, b1, b2, b3⟩ := getD_ex (xs := nx) (i := rs[j].t.toNat) (by omega)
      rw [a3] at h1; rw [b3] at h2
      have hstep : stepC at_ (ltr s[i]) nx rs[j] = if rs[j].l = ltr s[i] ∧ 0 ≤ va ∧ (vn < 0 ∨ va + rs[j].c < vn) then nx.set rs[j].t.toNat (va + rs[j].c) else nx := by rw [stepC, a3, b3]
      rw [hstep] at hsucc
      simp [hj', Rd.d, rsD]
      refine .one (sch [.pur 0, .pur 1, .pur 2, .pur 3, .pur 4, .pur 5, .pur 6, .pur 7, .pur 8, .pur 9, .pur 10, .pur 11, .pur 12, .pur 13, .pur 14, .pur 15, .pur 16, .pur 17, .pur 18, .pur 19, .pur 20, .pur 21, .pur 22, .pur 23, .pur 24, .pur 25, .pur 26, .pur 27, .pur 28, .pur 29, .pur 30, .pur 31, .pur 32, .pur 33, .pur 34, .pur 35, .pur 36, .pur 37, .pur 38, .pur 39]) (by kernel_rfl) ?_
      have hw1 : IntKind.i64.wrap (va + rs[j].c) = va + rs[j].c := wrap64 (by omega) (by omega)
      simp [hj', h, Rd.d, rsD, hm, hat, hnl, a1, a2, b1, b2, sub_ltr', hw1, show rs[j].t.toNat < q by omega]
      refine ⟨fun h1 h2 => ⟨⟨h1, h2⟩, fun h3 => ⟨⟨h1, h2⟩, h3⟩⟩, fun e1 e2 e3 => ?_, fun hno => ?_⟩
      · refine .one (sch [.pur 0, .pur 1, .pur 2, .pur 3, .pur 4, .pur 5, .pur 6, .pur 7, .pur 8, .pur 9, .pur 10, .pur 11, .eff 12 []]) (by kernel_rfl) ?_
        simp [hj', h, Rd.d, rsD, hm, hat, hnl, a1, a2, b1, b2, hw1, show rs[j].t.toNat < q by omega]
        refine ⟨j + 1, .mk (by simp [rsD]; exact wrap64 (by omega) (by omega)) (by
          simp [hsucc]
          rw [if_pos (by omega)]; simp), hj', by omega⟩
      · refine ⟨j + 1, .mk (by simp [rsD]; exact wrap64 (by omega) (by omega)) (by
          simp [hsucc]
          rw [if_neg (by omega)]), hj', by omega⟩
    · simp [Nat.not_lt.2 hj', rsD]
      have hj2 : rs.take j = rs := List.take_of_length_le (by omega)
      refine ⟨i + 1, (Wk.frz 5 rfl (by simp [hnl])).trans (.mk (by
        simp [rsD]
        refine ⟨?_, wrap64 (by omega) (by omega)⟩
        rw [costs_snoc q rs h, nextC, List.take_of_length_le (by simp [foldC_len]), hj2]) (by simp)), h, by omega⟩
  · have hi' : i = s.length := by omega
    subst hi'
    simp [rsD]

theorem c_sBestCost (n : Int) (rs : List Rd) (s : List UInt8) (hr0 : rs.length ≤ 9223372036854775807) (hs0 : s.length ≤ 9223372036854775807) :
    DCalls Try.prog 30 [.d (roadsD n rs), sA s] fun y => y = iD (bestC n rs s) := by
  refine dcalls_intro Ty.mixed Try.func30 rfl rfl rfl [2] (by kernel_rfl) (by simp) ?_
  simp [roadsD, rsD]
  refine .dval (c_sRoadsValid n rs hr0) rfl (by simp) rfl ?_
  simp
  refine .flat (fun _ => c_sWordValid s hs0) rfl (by simp) rfl (by simp) ?_
  simp
  refine ⟨fun h => ?_, fun hv hw => ?_⟩
  · rcases h with h | h <;> simp [bestC, h]
  obtain ⟨hn1, hn2, hr60, hrs⟩ := okRoads_of hv
  obtain ⟨N, rfl⟩ : ∃ N : Nat, n = N := ⟨n.toNat, by omega⟩
  refine .one (sch [.pur 0, .pur 1, .pur 3, .pur 4, .pur 5, .eff 2 [3, 4, 5], .pur 6, .pur 7, .pur 8]) (by kernel_rfl) ?_
  simp
  refine .ddat (c_l22Costs N rs s hv hw) rfl (by simp) ?_
  rintro _ rfl
  have hat := costs_len N rs s
  obtain ⟨v, g1, g2, g3⟩ := getD_ex (xs := costsC N rs s) (i := N - 1) (by omega)
  simp [rsD, wrap64 (n := (N : Int) - 1) (by omega) (by omega), show ((N : Int) - 1).toNat = N - 1 by omega, hat, g1, g2, bestC, hv, hw]
  try omega

/-! ### The laws: more moves are not dearer; the costs are the reference's -/

theorem stepC_more {a x y : List Int} {l : Int} {m : Rd} (hxy : x.length = y.length) (h : ∀ i, i < x.length → (0 ≤ x.getD i 0 → 0 ≤ y.getD i 0 ∧ y.getD i 0 ≤ x.getD i 0)) (b : List Int) (hab : a.length = b.length) (hf : m.f.toNat < a.length) (ht : m.t.toNat < x.length) (hc : 0 ≤ m.c)
    (hb : ∀ i, i < a.length → (0 ≤ a.getD i 0 → 0 ≤ b.getD i 0 ∧ b.getD i 0 ≤ a.getD i 0)) : ∀ i, i < x.length → (0 ≤ (stepC a l x m).getD i 0 → 0 ≤ (stepC b l y m).getD i 0 ∧ (stepC b l y m).getD i 0 ≤ (stepC a l x m).getD i 0) := by
  intro i hi
  have key : ∀ (z : List Int) (k : Nat) (v : Int), k < z.length → (z.set k v).getD i 0 = if k = i then v else z.getD i 0 := by
    intro z k v hk
    simp only [List.getD_eq_getElem?_getD, List.getElem?_set]
    by_cases hki : k = i
    · subst hki; simp [hk]
    · simp [hki]
  have h1 := h i hi
  have h2 := h _ ht
  have h3 := hb _ hf
  unfold stepC
  generalize a.getD m.f.toNat 0 = va at *
  generalize b.getD m.f.toNat 0 = vb at *
  by_cases c1 : m.l = l ∧ 0 ≤ va ∧ (x.getD m.t.toNat 0 < 0 ∨ va + m.c < x.getD m.t.toNat 0)
  · rw [if_pos c1]
    by_cases c2 : m.l = l ∧ 0 ≤ vb ∧ (y.getD m.t.toNat 0 < 0 ∨ vb + m.c < y.getD m.t.toNat 0)
    · rw [if_pos c2, key x _ _ ht, key y _ _ (by omega)]
      split <;> omega
    · rw [if_neg c2, key x _ _ ht]
      split
      · rename_i hk; subst hk; omega
      · omega
  · rw [if_neg c1]
    by_cases c2 : m.l = l ∧ 0 ≤ vb ∧ (y.getD m.t.toNat 0 < 0 ∨ vb + m.c < y.getD m.t.toNat 0)
    · rw [if_pos c2, key y _ _ (by omega)]
      split
      · rename_i hk; subst hk; omega
      · omega
    · rw [if_neg c2]; omega
end Go.Fw
