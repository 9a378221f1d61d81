/- Numbers of words, ranks, as the reference finds them. -/
import Derived.Test.YtmodfeaneggloaaRcn
set_option linter.unusedSimpArgs false
set_option linter.unusedVariables false
namespace Go.Fw
open Go Go.Proofs
set_option linter.unusedSectionVars false
set_option linter.unnecessarySimpa false


set_option maxHeartbeats 800000 in
set_option maxRecDepth 100000 in
theorem c_l17Counts (a : Df) (m : Nat) (h : okDf a = true) (hm : m ≤ 30) : DCalls Try.prog 71 [.d a.d, iA m] fun y => y = intsD (crow a m) := by
  refine dcalls_intro Ty.mixed Try.func71 rfl rfl rfl [2] (by kernel_rfl) (by simp) ?_
  obtain ⟨n1, n2, n3⟩ := okDf_len h
  simp [Df.d]
  refine ⟨by omega, ?_⟩
  refine LoopVC.at { s : Nat // s ≤ a.next.length } (fun s => [(1, iA m), (2, dpA a), (5, .sl 1 1400 0 a.next.length), (6, iA s.1)]) (fun s => [(1400, .ar 1 (((crow a 0).map iD).take s.1 ++ List.replicate (a.next.length - s.1) (iD 0)))]) [1400] (fun s => a.next.length - s.1) ⟨0, by omega⟩ (by simp) (by simp) ?_
  rintro ⟨s, hs⟩
  rcases Nat.lt_or_ge s a.next.length with hsn | hsn
  · have hrep : List.replicate (a.next.length - s) (iD 0) = iD 0 :: List.replicate (a.next.length - (s + 1)) (iD 0) := rep_cons hsn
    have hct : ((crow a 0).map iD).take (s + 1) = ((crow a 0).map iD).take s ++ [iD (cq a 0 s)] := by rw [← List.map_take, ← List.map_take, crow_take hsn]; simp
    have htl : (((crow a 0).map iD).take s).length = s := by simp [crow_len]; omega
    have hmid := fun v R => midD htl v R
    have hsl : s < min s (crow a 0).length + (a.next.length - (s + 1) + 1) := by simp [crow_len]; omega
    have hse : s < a.ends.length := by omega
    have b0 := getD_row (xs := a.ends) (i := s) false hse
    have hfk : a.fin s = a.ends.getD s false := by simp [Df.fin]
    have hc0 := cq_zero a s
    rw [← hfk] at b0
    rw [hrep]
    generalize a.fin s = fs at *
    simp [hsn, hse, b0, hmid, hsl]
    refine ⟨fun hf => ?_, fun hf => ?_⟩
    · rw [hf] at hc0
      refine ⟨s + 1, .mk ?_ ?_, by omega, by omega⟩
      · simp; exact wrap64 (by omega) (by omega)
      · simp [hct, hc0]
    · rw [hf] at hc0
      refine ⟨s + 1, .mk ?_ ?_, by omega, by omega⟩
      · simp; exact wrap64 (by omega) (by omega)
      · simp [hct, hc0]
  · have : s = a.next.length := by omega
    subst this
    have hcr : ((crow a 0).map iD).take a.next.length = (crow a 0).map iD := List.take_of_length_le (by simp [crow_len])
    simp [hcr]
    refine LoopVC.wk (Wk.frz 5 rfl (by simp [crow_len])) ?_
    refine LoopVC.at { n : Nat // n ≤ m } (fun n => [(1, iA m), (2, dpA a), (5, .d (intsD (crow a n.1))), (7, iA n.1)]) (fun _ => []) [] (fun n => m - n.1) ⟨0, by omega⟩ (by simp [hcr]) (by simp) ?_
    rintro ⟨n, hn⟩
    rcases Nat.lt_or_ge n m with hnm | hnm
    · have c0 := crow_len a n
      simp [hnm, c0]
      refine ⟨⟨by omega, by omega⟩, ?_⟩
      refine LoopVC.at { s : Nat // s ≤ a.next.length } (fun s => [(1, iA m), (2, dpA a), (5, .d (intsD (crow a n))), (7, iA n), (8, .sl 1 3600 0 a.next.length), (9, iA s.1)]) (fun s => [(3600, .ar 1 (((crow a (n + 1)).map iD).take s.1 ++ List.replicate (a.next.length - s.1) (iD 0)))]) [3600] (fun s => a.next.length - s.1) ⟨0, by omega⟩ (by simp) (by simp) ?_
      rintro ⟨s, hs⟩
      rcases Nat.lt_or_ge s a.next.length with hsn | hsn
      · have hrep : List.replicate (a.next.length - s) (iD 0) = iD 0 :: List.replicate (a.next.length - (s + 1)) (iD 0) := rep_cons hsn
        have hct : ((crow a (n + 1)).map iD).take (s + 1) = ((crow a (n + 1)).map iD).take s ++ [iD (cq a (n + 1) s)] := by rw [← List.map_take, ← List.map_take, crow_take hsn]; simp
        have htl : (((crow a (n + 1)).map iD).take s).length = s := by simp [crow_len]; omega
        have hmid := fun v R => midD htl v R
        have hsl : s < min s (crow a (n + 1)).length + (a.next.length - (s + 1) + 1) := by simp [crow_len]; omega
        have a1 := getD_row (xs := a.next) (i := s) [] hsn
        have hnx := okDf_row h hsn
        have hgo : ∀ c : Nat, a.go s c = (a.next.getD s []).getD c 0 := fun c => by simp [Df.go]
        rw [hrep]
        generalize a.next.getD s [] = nx at *
        have hl3 : nx.length = 3 := hnx.1
        simp [c0, hsn]
        refine LoopVC.at { c : Nat // c ≤ 3 } (fun c => [(1, iA m), (2, dpA a), (5, .d (intsD (crow a n))), (7, iA n), (8, .sl 1 3600 0 a.next.length), (9, iA s), (10, iA c.1)]) (fun c => [(3600, .ar 1 (((crow a (n + 1)).map iD).take s ++ iD (cqs a n s c.1) :: List.replicate (a.next.length - (s + 1)) (iD 0)))]) [3600] (fun c => 3 - c.1) ⟨0, by omega⟩ (by simp) (by simp [cqs_zero]) ?_
        rintro ⟨c, hc⟩
        rcases Nat.lt_or_ge c 3 with hc3 | hc3
        · have a2 := getD_row (xs := nx) (i := c) 0 (by omega)
          have hgs := go_st h (st_nat hsn) (c := (c : Int)) (by omega)
          have hgc := hgo c
          rw [← hgc] at a2
          have hq1 := hgs.1
          have hq2 := hgs.2
          have hsu := cqs_succ a n s c
          have hb1 := cqs_bd a (k := n) (by omega) s (c := c + 1) (by omega)
          obtain ⟨t, ht⟩ : ∃ t : Nat, a.go s c = t := ⟨(a.go s c).toNat, by omega⟩
          rw [ht] at a2 hq1 hq2 hsu
          have htn : t < a.next.length := by omega
          obtain ⟨c1, c2⟩ := crow_get (a := a) (k := n) htn
          have l3 : (c : Int) < 3 := by omega
          have hw2 : IntKind.i64.wrap (cqs a n s c + cq a n t) = cqs a n s (c + 1) := by rw [hsu]; exact wrap64 (by omega) (by omega)
          simp [l3]
          refine .one (sch [.pur 0, .pur 1, .pur 2, .pur 3, .pur 4, .pur 5, .pur 6, .pur 7, .pur 8, .pur 9, .pur 10, .pur 11, .pur 12, .pur 13, .pur 14, .pur 15, .pur 16, .pur 17, .pur 18, .eff 19 []]) (by kernel_rfl) ?_
          simp [l3, a1, a2, hl3, hc3, hmid, hsn, hsl, c1, c2, c0, htn]
          refine ⟨c + 1, .mk ?_ ?_, by omega, by omega⟩
          · simp; exact wrap64 (by omega) (by omega)
          · simp [hw2]
        · have : c = 3 := by omega
          subst this
          have hthree := cqs_three a n s
          simp
          refine ⟨s + 1, .mk ?_ ?_, by omega, by omega⟩
          · simp; exact wrap64 (by omega) (by omega)
          · simp [hct, hthree]
      · have : s = a.next.length := by omega
        subst this
        have hcr : ((crow a (n + 1)).map iD).take a.next.length = (crow a (n + 1)).map iD := List.take_of_length_le (by simp [crow_len])
        simp [hcr, c0]
        refine ⟨n + 1, (Wk.frz 5 rfl (by simp [crow_len])).trans (.mk ?_ (by simp)), by omega, by omega⟩
        simp [hcr]
        exact wrap64 (by omega) (by omega)
    · have : n = m := by omega
      subst this
      simp

set_option maxRecDepth 100000 in
theorem c_sCountWords (a : Df) (n : Int) (hf : a.fine) : DCalls Try.prog 29 [.d a.d, iA n] fun y => y = iD (cwDf a n) := by
  refine dcalls_intro Ty.mixed Try.func29 rfl rfl rfl [2] (by kernel_rfl) (by simp) ?_
  simp [Df.d]
  refine .dval (c_sDfaValid a hf) rfl (by simp [Df.d]) rfl ?_
  simp
  refine .flat (fun _ => c_l1In _ _ _) rfl (by simp) rfl (by simp) ?_
  simp
  refine ⟨fun hno => ?_, fun h1 h2 => ?_⟩
  · have : (okDf a && inR n 0 30) = false := by rcases hno with h | h <;> simp [h]
    simp [cwDf, this]
  · have hr : 0 ≤ n ∧ n ≤ 30 := by simpa [inR] using h2
    obtain ⟨k, rfl⟩ : ∃ k : Nat, n = k := ⟨n.toNat, by omega⟩
    refine .ddat (c_l17Counts a k h1 (by omega)) rfl (by simp [Df.d]) ?_
    rintro _ rfl
    have n1 := (okDf_len h1).1
    obtain ⟨c1, c2⟩ := crow_get (a := a) (k := k) (q := 0) (by omega)
    have c0 := crow_len a k
    simp [c1, c2, c0, n1, cwDf, h1, h2]
    omega

set_option maxHeartbeats 800000 in
set_option maxRecDepth 100000 in
theorem c_sRankWord (a : Df) (s : List UInt8) (hf : a.fine) (hsl : s.length ≤ 9223372036854775807) : DCalls Try.prog 25 [.d a.d, sA s] fun y => y = iD (rkDf a s) := by
  refine dcalls_intro Ty.mixed Try.func25 rfl rfl rfl [2] (by kernel_rfl) (by simp) ?_
  simp [Df.d]
  refine .dval (c_sDfaValid a hf) rfl (by simp [Df.d]) rfl ?_
  simp
  refine .flat (fun _ => c_sWordValid s hsl) rfl (by simp) rfl (by simp) ?_
  simp
  refine ⟨fun hno => ?_, fun h1 h2 => ?_⟩
  · have : (okDf a && wordOk s) = false := by rcases hno with h | h <;> simp [h]
    simp [rkDf, this]
  · have hw := letters_all h2
    have hl8 := letters_len h2
    have n1 := (okDf_len h1).1
    have hl3 := l3_ltr' hw
    have hrb := rank_bd (a.lang 0) hl3 (by simp; omega)
    have hR : (rankL (a.lang 0) (s.map ltr) : Int) = csum s.length (a.lang 0) + lexr (a.lang 0) (s.map ltr) := by simp [rankL]
    have hrk : rkDf a s = (rankL (a.lang 0) (s.map ltr) : Int) := by simp [rkDf, h1, h2]
    rw [hrk]
    generalize (rankL (a.lang 0) (s.map ltr) : Int) = R at *
    refine LoopVC.at { i : Nat // i ≤ s.length } (fun i => [(1, sA s), (2, dpA a), (5, iA (csum i.1 (a.lang 0) : Nat)), (6, iA i.1)]) (fun _ => []) [] (fun i => s.length - i.1) ⟨0, by omega⟩ (by simp [csum]) (by simp) ?_
    rintro ⟨i, hi⟩
    rcases Nat.lt_or_ge i s.length with h' | h'
    · obtain ⟨c1, c2⟩ := crow_get (a := a) (k := i) (q := 0) (by omega)
      have c0 := crow_len a i
      have hb := csum_bd (n := i + 1) (by omega) (a.lang 0)
      have hcs : (csum (i + 1) (a.lang 0) : Int) = csum i (a.lang 0) + cq a i 0 := by simp [csum, cq]
      have hn0 : 0 < a.next.length := by omega
      have hwr : IntKind.i64.wrap ((csum i (a.lang 0) : Int) + cq a i 0) = csum (i + 1) (a.lang 0) := by rw [hcs]; exact wrap64 (by omega) (by omega)
      simp [h']
      refine .ddat (c_l17Counts a i h1 (by omega)) rfl (by simp [Df.d]) ?_
      rintro _ rfl
      simp [c1, c2, c0, hn0]
      refine ⟨i + 1, .mk ?_ (by simp), by omega, by omega⟩
      simp; exact ⟨by simpa using hwr, wrap64 (by omega) (by omega)⟩
    · have : i = s.length := by omega
      subst this
      simp
      refine LoopVC.at { i : Nat // i ≤ s.length } (fun i => [(1, sA s), (2, dpA a), (5, iA (R - (lexr (a.lang (a.run 0 (s.take i.1))) ((s.drop i.1).map ltr) : Nat))), (7, iA (a.run 0 (s.take i.1))), (8, iA i.1)]) (fun _ => []) [] (fun i => s.length - i.1) ⟨0, by omega⟩ (by simp [Df.run]; omega) (by simp) ?_
      rintro ⟨i, hi⟩
      have hok := run_st h1 (st0 h1) (take_all hw i)
      rcases Nat.lt_or_ge i s.length with h' | h'
      · have hb : isL s[i] = true := by rw [List.all_eq_true] at hw; exact hw _ (List.getElem_mem h')
        have hlt := ltr_of hb
        have hsub : IntKind.i64.wrap (IntKind.u8.wrap ((s[i].toNat : Int) - 97)) = ltr s[i] := wrap_ltr _
        have hrs := run_snoc a 0 h'
        have hde : (s.drop i).map ltr = ltr s[i] :: (s.drop (i + 1)).map ltr := by rw [List.drop_eq_getElem_cons h']; rfl
        have hl3d : l3 ((s.drop (i + 1)).map ltr) := l3_ltr' (by rw [List.all_eq_true] at hw ⊢; exact fun x hx => hw x (List.mem_of_mem_drop hx))
        rw [hde]
        generalize a.run 0 (s.take i) = q at *
        have hlc := lexr_cons a q (ltr s[i]) ((s.drop (i + 1)).map ltr)
        have hlb := lexr_bd a (a.go q (ltr s[i])) hl3d (by simp; omega)
        rw [← hrs] at hlc hlb
        have hwl : ((s.drop (i + 1)).map ltr).length = s.length - i - 1 := by simp; omega
        rw [hwl] at hlc
        rw [hlc]
        generalize hq' : a.run 0 (s.take (i + 1)) = q' at *
        generalize hw' : ((s.drop (i + 1)).map ltr) = w at *
        generalize hE : (lexr (a.lang q') w : Int) = E at *
        have hq := hok.1
        have hq2 := hok.2
        have hk : q.toNat < a.next.length := by omega
        obtain ⟨g1, g2⟩ := okDf_row h1 hk
        obtain ⟨d, hd⟩ : ∃ d : Nat, ltr s[i] = d := ⟨(ltr s[i]).toNat, by omega⟩
        have a1 := getD_row (xs := a.next) (i := q.toNat) [] hk
        have hgo : ∀ c : Nat, a.go q c = (a.next.getD q.toNat []).getD c 0 := fun c => by simp [Df.go]
        have hgs : ∀ c : Nat, c < 3 → a.st (a.go q c) := fun c hc => go_st h1 hok (by omega)
        generalize a.next.getD q.toNat [] = nx at *
        rw [hd] at hsub hlt hrs ⊢
        have hw1 : IntKind.i64.wrap ((s.length : Int) - i) = (s.length : Int) - i := wrap64 (by omega) (by omega)
        have hw2 : IntKind.i64.wrap ((s.length : Int) - i - 1) = ((s.length - i - 1 : Nat) : Int) := by rw [wrap64 (by omega) (by omega)]; omega
        simp [h', hw1, hw2]
        have hm31 : s.length - i - 1 < 31 := by omega
        refine .ddat (c_l17Counts a (s.length - i - 1) h1 (by omega)) rfl (by simp [Df.d]) ?_
        rintro _ rfl
        generalize s.length - i - 1 = m at *
        simp
        refine LoopVC.at { l : Nat // l ≤ d } (fun l => [(1, sA s), (2, dpA a), (5, iA (R - (cqs a m q d + E) + cqs a m q l.1)), (7, iA q), (8, iA i), (9, .d (intsD (crow a m))), (10, iA l.1)]) (fun _ => []) [] (fun l => d - l.1) ⟨0, by omega⟩ (by simp [cqs_zero]) (by simp) ?_
        rintro ⟨l, hl⟩
        rcases Nat.lt_or_ge l d with hld | hld
        · have a2 := getD_row (xs := nx) (i := l) 0 (by omega)
          have hgl := hgo l
          rw [← hgl] at a2
          have hgl2 := hgs l (by omega)
          have t1 := hgl2.1
          have t2 := hgl2.2
          have hcs := cqs_succ a m q l
          have hb1 := cqs_bd a (k := m) (by omega) q (c := l + 1) (by omega)
          have hb2 := cqs_bd a (k := m) (by omega) q (c := d) (by omega)
          obtain ⟨t, ht⟩ : ∃ t : Nat, a.go q l = t := ⟨(a.go q l).toNat, by omega⟩
          rw [ht] at a2 t1 t2 hcs
          have htn : t < a.next.length := by omega
          obtain ⟨c1, c2⟩ := crow_get (a := a) (k := m) htn
          have c0 := crow_len a m
          have l3 : l < 3 := by omega
          have l4 : (l : Int) < 3 := by omega
          have hwr : IntKind.i64.wrap (R - (cqs a m q d + E) + cqs a m q l + cq a m t) = R - (cqs a m q d + E) + cqs a m q (l + 1) := by rw [hcs, wrap64 (by omega) (by omega)]; omega
          simp [h', hsub, hld, hq, hq2, a1, a2, g1, l3, l4, c1, c2, c0, htn]
          refine ⟨l + 1, .mk ?_ (by simp), by omega, by omega⟩
          simp; exact ⟨hwr, wrap64 (by omega) (by omega)⟩
        · have : l = d := by omega
          subst this
          have a2 := getD_row (xs := nx) (i := l) 0 (by omega)
          have hgl := hgo l
          rw [← hgl, ← hrs] at a2
          have l3 : l < 3 := by omega
          have l4 : (l : Int) < 3 := by omega
          simp [h', hsub]
          refine .one (sch [.pur 0, .pur 1, .pur 2, .pur 3, .pur 4, .pur 5, .pur 6, .pur 7, .pur 8, .pur 9, .pur 10, .pur 11, .eff 12 []]) (by kernel_rfl) ?_
          simp [h', hsub, hq, hq2, a1, a2, g1, l3, l4]
          refine ⟨i + 1, .mk ?_ (by simp), by omega, by omega⟩
          simp [hq']
          rw [← List.map_drop, hw', hE]
          exact ⟨by omega, wrap64 (by omega) (by omega)⟩
      · have : i = s.length := by omega
        subst this
        simp [lexr]
end Go.Fw
