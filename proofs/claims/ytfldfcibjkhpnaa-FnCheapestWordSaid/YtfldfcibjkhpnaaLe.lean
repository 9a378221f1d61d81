/- Ways are counted. -/
import Derived.Test.YtfldfcibjkhpnaaLr
import Derived.Test.YtfldfcibjkhpnaaLc
set_option linter.unusedSimpArgs false
set_option linter.unusedVariables false
namespace Go.Fw
open Go Go.Proofs

set_option maxRecDepth 100000 in
theorem c_WayCount (n : Int) (rs : List Rd) (s : List UInt8) (hr0 : rs.length ≤ 9223372036854775807) (hs0 : s.length ≤ 9223372036854775807) :
    DCalls Try.prog 22 [.d (roadsD n rs), sA s] fun y => y = iD (wayC n rs s) := by
  refine dcalls_intro Ty.mixed Try.func22 rfl rfl rfl [2] (by kernel_rfl) (by simp) ?_
  simp [roadsD, rsD]
  refine .dval (c_RoadsValid n rs hr0) rfl (by simp) rfl ?_
  simp
  refine .flat (fun _ => c_WordValid s hs0) rfl (by simp) rfl (by simp) ?_
  simp
  refine ⟨fun h => ?_, fun hv hw => ?_⟩
  · rcases h with h | h <;> simp [wayC, h]
  obtain ⟨hn1, hn2, hr60, hrs⟩ := okRoads_of hv
  obtain ⟨N, rfl⟩ : ∃ N : Nat, n = N := ⟨n.toNat, by omega⟩
  have hs8 : (s.length : Int) ≤ 8 := letters_len hw
  have hN : 1 ≤ N := by omega
  simp [show N ≤ 9223372036854775807 by omega]
  refine ⟨by omega, by omega, ?_⟩
  refine LoopVC.wk (Wk.frz 5 rfl (by simp)) ?_
  refine LoopVC.at { i : Nat // i ≤ s.length } (fun i => [(1, sA s), (2, .dp [iA N, .d (rsD rs)]), (5, .d (isD (countsW N rs (s.take i.1)))), (24, iA s.length), (25, iA i.1)]) (fun _ => []) [] (fun i => s.length - i.1) ⟨0, by simp⟩ (by
    simp [rsD, countsW, initW]
    rw [List.take_of_length_le (by simp)]) (by simp) ?_
  rintro ⟨i, hi⟩
  have hat := counts_len N rs (s.take i)
  have hbd := counts_bd (n := N) (rs := rs) hN (fun m hm => by have := hrs m hm; omega) (by omega) (s.take i)
  rcases Nat.lt_or_ge i s.length with h | h
  · simp [h, rsD]
    refine ⟨⟨by omega, by omega⟩, ?_⟩
    have hp8 := pow60_le (n := (s.take i).length) (by simp; omega)
    refine LoopVC.at { j : Nat // j ≤ rs.length } (fun j => [(1, sA s), (2, .dp [iA N, .d (rsD rs)]), (5, .d (isD (countsW N rs (s.take i)))), (6, iA i), (7, .sl 1 3000 0 N), (24, iA s.length), (25, iA i), (32, .d (rsD rs)), (33, iA rs.length), (34, iA j.1)])
      (fun j => [(3000, .ar 1 (((rs.take j.1).foldl (stepW (countsW N rs (s.take i)) (ltr s[i])) (List.replicate N 0)).map iD))]) [3000] (fun j => rs.length - j.1) ⟨0, by simp⟩ (by simp [rsD]) (by simp) ?_
    rintro ⟨j, hj⟩
    have hnl : ((rs.take j).foldl (stepW (countsW N rs (s.take i)) (ltr s[i])) (List.replicate N 0)).length = N := by rw [foldW_len]; simp
    have hnb := foldW_bd (l := ltr s[i]) hbd (by omega) (rs.take j) (x := List.replicate N 0) (C := 0) (fun m hm => by have := hrs m (List.mem_of_mem_take hm); rw [hat, List.length_replicate]; omega) (Bd.repl N (by omega) (by omega))
    rcases Nat.lt_or_ge j rs.length with hj' | hj'
    · have hm := hrs rs[j] (List.getElem_mem hj')
      have hsucc : (rs.take (j + 1)).foldl (stepW (countsW N rs (s.take i)) (ltr s[i])) (List.replicate N 0) = stepW (countsW N rs (s.take i)) (ltr s[i]) ((rs.take j).foldl (stepW (countsW N rs (s.take i)) (ltr s[i])) (List.replicate N 0)) rs[j] := foldl_take _ _ hj'
      generalize (rs.take j).foldl (stepW (countsW N rs (s.take i)) (ltr s[i])) (List.replicate N 0) = nx at hnl hnb hsucc
      generalize countsW N rs (s.take i) = at_ at hat hbd hnb hsucc
      have hlt : (List.take j rs).length ≤ 60 := by simp; omega
      have hB : (60 : Int) ^ (s.take i).length * (List.take j rs).length ≤ 60 ^ (s.take i).length * 60 := Int.mul_le_mul_of_nonneg_left (by omega) (by omega)
      have h1 := hbd.getD (i := rs[j].f.toNat) (by omega) 0
      have h2 := hnb.getD (i := rs[j].t.toNat) (by omega) 0
      obtain ⟨va, a1, a2, a3⟩ := getD_ex (xs := at_) (i := rs[j].f.toNat) (by omega)
      obtain ⟨vn, b1, b2, b3⟩ := getD_ex (xs := nx) (i := rs[j].t.toNat) (by omega)
      rw [a3] at h1; rw [b3] at h2
      simp [hj', Rd.d, rsD]
      refine .one (sch [.pur 0, .pur 1, .pur 2, .pur 3, .eff 4 [0, 1], .pur 5]) (by kernel_rfl) ?_
      simp [hj', Rd.d, rsD]
      refine .dval (c_letter s i h) rfl (by simp) rfl ?_
      simp
      refine ⟨fun he => ?_, fun he => ?_⟩
      · refine .one (sch [.pur 0, .pur 1, .pur 2, .pur 3, .pur 4, .pur 5, .pur 6, .pur 7, .pur 8, .pur 9, .pur 10, .pur 11, .eff 12 []]) (by kernel_rfl) ?_
        simp [hj', Rd.d, rsD, hm, hat, hnl, a1, a2, b1, b2, show rs[j].t.toNat < N by omega, wrap64 (n := vn + va) (by omega) (by omega)]
        refine ⟨j + 1, .mk (by simp [rsD]; exact wrap64 (by omega) (by omega)) (by simp [hsucc, stepW, he, a1, a2, b1, b2]), hj', by omega⟩
      · refine ⟨j + 1, .mk (by simp [rsD]; exact wrap64 (by omega) (by omega)) (by simp [hsucc, stepW, he]), hj', by omega⟩
    · simp [Nat.not_lt.2 hj']
      have hj2 : rs.take j = rs := List.take_of_length_le (by omega)
      refine ⟨i + 1, (Wk.frz 5 rfl (by simp [hnl])).trans (.mk (by
        simp [rsD]
        refine ⟨?_, wrap64 (by omega) (by omega)⟩
        rw [counts_snoc N rs h, nextW, List.take_of_length_le (by simp [foldW_len]), hj2]) (by simp)), h, by omega⟩
  · have hi' : i = s.length := by omega
    subst hi'
    rw [List.take_length] at hat
    obtain ⟨v, g1, g2, g3⟩ := getD_ex (xs := countsW N rs s) (i := N - 1) (by omega)
    simp [rsD, wrap64 (n := (N : Int) - 1) (by omega) (by omega), show ((N : Int) - 1).toNat = N - 1 by omega, hat, g1, g2]
    refine ⟨by omega, ?_⟩
    simp [wayC, hv, hw, g1]
theorem sub_ltr (b : UInt8) : IntKind.i64.wrap (IntKind.u8.wrap ((b.toNat : Int) - 97)) = ltr b := wrap_ltr b

set_option maxRecDepth 100000 in
theorem c_sWayCount (n : Int) (rs : List Rd) (s : List UInt8) (hr0 : rs.length ≤ 9223372036854775807) (hs0 : s.length ≤ 9223372036854775807) :
    DCalls Try.prog 21 [.d (roadsD n rs), sA s] fun y => y = iD (wayC n rs s) := by
  refine dcalls_intro Ty.mixed Try.func21 rfl rfl rfl [2] (by kernel_rfl) (by simp) ?_
  simp [roadsD, rsD]
  refine .dval (c_sRoadsValid n rs hr0) rfl (by simp) rfl ?_
  simp
  refine .flat (fun _ => c_sWordValid s hs0) rfl (by simp) rfl (by simp) ?_
  simp
  refine ⟨fun h => ?_, fun hv hw => ?_⟩
  · rcases h with h | h <;> simp [wayC, h]
  obtain ⟨hn1, hn2, hr60, hrs⟩ := okRoads_of hv
  obtain ⟨N, rfl⟩ : ∃ N : Nat, n = N := ⟨n.toNat, by omega⟩
  have hs8 : (s.length : Int) ≤ 8 := letters_len hw
  have hN : 1 ≤ N := by omega
  simp [show N ≤ 9223372036854775807 by omega]
  refine ⟨by omega, by omega, ?_⟩
  refine LoopVC.wk (Wk.frz 5 rfl (by simp)) ?_
  refine LoopVC.at { i : Nat // i ≤ s.length } (fun i => [(1, sA s), (2, .dp [iA N, .d (rsD rs)]), (5, .d (isD (countsW N rs (s.take i.1)))), (6, iA i.1)]) (fun _ => []) [] (fun i => s.length - i.1) ⟨0, by simp⟩ (by
    simp [rsD, countsW, initW]
    rw [List.take_of_length_le (by simp)]) (by simp) ?_
  rintro ⟨i, hi⟩
  have hat := counts_len N rs (s.take i)
  have hbd := counts_bd (n := N) (rs := rs) hN (fun m hm => by have := hrs m hm; omega) (by omega) (s.take i)
  rcases Nat.lt_or_ge i s.length with h | h
  · simp [h, rsD]
    refine ⟨⟨by omega, by omega⟩, ?_⟩
    have hp8 := pow60_le (n := (s.take i).length) (by simp; omega)
    refine LoopVC.at { j : Nat // j ≤ rs.length } (fun j => [(1, sA s), (2, .dp [iA N, .d (rsD rs)]), (5, .d (isD (countsW N rs (s.take i)))), (6, iA i), (7, .sl 1 3100 0 N), (8, iA j.1)])
      (fun j => [(3100, .ar 1 (((rs.take j.1).foldl (stepW (countsW N rs (s.take i)) (ltr s[i])) (List.replicate N 0)).map iD))]) [3100] (fun j => rs.length - j.1) ⟨0, by simp⟩ (by simp [rsD]) (by simp) ?_
    rintro ⟨j, hj⟩
    have hnl : ((rs.take j).foldl (stepW (countsW N rs (s.take i)) (ltr s[i])) (List.replicate N 0)).length = N := by rw [foldW_len]; simp
    have hnb := foldW_bd (l := ltr s[i]) hbd (by omega) (rs.take j) (x := List.replicate N 0) (C := 0) (fun m hm => by have := hrs m (List.mem_of_mem_take hm); rw [hat, List.length_replicate]; omega) (Bd.repl N (by omega) (by omega))
    rcases Nat.lt_or_ge j rs.length with hj' | hj'
    · have hm := hrs rs[j] (List.getElem_mem hj')
      have hsucc : (rs.take (j + 1)).foldl (stepW (countsW N rs (s.take i)) (ltr s[i])) (List.replicate N 0) = stepW (countsW N rs (s.take i)) (ltr s[i]) ((rs.take j).foldl (stepW (countsW N rs (s.take i)) (ltr s[i])) (List.replicate N 0)) rs[j] := foldl_take _ _ hj'
      generalize (rs.take j).foldl (stepW (countsW N rs (s.take i)) (ltr s[i])) (List.replicate N 0) = nx at hnl hnb hsucc
      generalize countsW N rs (s.take i) = at_ at hat hbd hnb hsucc
      have hlt : (List.take j rs).length ≤ 60 := by simp; omega
      have hB : (60 : Int) ^ (s.take i).length * (List.take j rs).length ≤ 60 ^ (s.take i).length * 60 := Int.mul_le_mul_of_nonneg_left (by omega) (by omega)
      have h1 := hbd.getD (i := rs[j].f.toNat) (by omega) 0
      have h2 := hnb.getD (i := rs[j].t.toNat) (by omega) 0
      obtain ⟨va, a1, a2, a3⟩ := getD_ex (xs := at_) (i := rs[j].f.toNat) (by omega)
      obtain ⟨vn, b1, b2, b3⟩ := getD_ex (xs := nx) (i := rs[j].t.toNat) (by omega)
      rw [a3] at h1; rw [b3] at h2
      simp [hj', Rd.d, rsD]
      refine .one (sch [.pur 0, .pur 1, .pur 2, .pur 3, .pur 4, .pur 5, .pur 6, .pur 7]) (by kernel_rfl) ?_
      simp [hj', Rd.d, rsD, h, sub_ltr]
      refine ⟨fun he => ?_, fun he => ?_⟩
      · refine .one (sch [.pur 0, .pur 1, .pur 2, .pur 3, .pur 4, .pur 5, .pur 6, .pur 7, .pur 8, .pur 9, .pur 10, .pur 11, .pur 12, .pur 13, .pur 14, .eff 15 []]) (by kernel_rfl) ?_
        simp [hj', Rd.d, rsD, hm, hat, hnl, a1, a2, b1, b2, show rs[j].t.toNat < N by omega, wrap64 (n := vn + va) (by omega) (by omega)]
        refine ⟨j + 1, .mk (by simp [rsD]; exact wrap64 (by omega) (by omega)) (by simp [hsucc, stepW, he, a1, a2, b1, b2]), hj', by omega⟩
      · refine ⟨j + 1, .mk (by simp [rsD]; exact wrap64 (by omega) (by omega)) (by simp [hsucc, stepW, he]), hj', by omega⟩
    · simp [Nat.not_lt.2 hj', rsD]
      have hj2 : rs.take j = rs := List.take_of_length_le (by omega)
      refine ⟨i + 1, (Wk.frz 5 rfl (by simp [hnl])).trans (.mk (by
        simp [rsD]
        refine ⟨?_, wrap64 (by omega) (by omega)⟩
        rw [counts_snoc N rs h, nextW, List.take_of_length_le (by simp [foldW_len]), hj2]) (by simp)), h, by omega⟩
  · have hi' : i = s.length := by omega
    subst hi'
    rw [List.take_length] at hat
    obtain ⟨v, g1, g2, g3⟩ := getD_ex (xs := countsW N rs s) (i := N - 1) (by omega)
    simp [rsD, wrap64 (n := (N : Int) - 1) (by omega) (by omega), show ((N : Int) - 1).toNat = N - 1 by omega, hat, g1, g2]
    refine ⟨by omega, ?_⟩
    simp [wayC, hv, hw, g1]
end Go.Fw
