/- The word with a number, as the reference finds it. -/
import Derived.Test.YtmodfeaneggloaaRg
set_option linter.unusedSimpArgs false
set_option linter.unusedVariables false
namespace Go.Fw
open Go Go.Proofs
set_option linter.unusedSectionVars false
set_option linter.unnecessarySimpa false

theorem ofNat_ltr {l : Nat} (h : l < 3) : ∃ b : UInt8, UInt8.ofNat (97 + (l : Int)).toNat = b ∧ isL b = true ∧ ltr b = l := by
  obtain rfl | rfl | rfl : l = 0 ∨ l = 1 ∨ l = 2 := by omega
  · exact ⟨97, by decide, by decide, by decide⟩
  · exact ⟨98, by decide, by decide, by decide⟩
  · exact ⟨99, by decide, by decide, by decide⟩
set_option maxHeartbeats 800000 in
set_option maxRecDepth 100000 in
theorem c_sWordNumber (a : Df) (n : Int) (hf : a.fine) (hn2 : n ≤ 9223372036854775807) : TCalls Try.prog 33 [.d a.d, iA n] (WnR a n) := by
  refine tcalls_intro Ty.mixed Try.func33 rfl rfl rfl [2] (by kernel_rfl) (by simp) ?_
  simp [Df.d]
  refine .dval (c_sDfaValid a hf) rfl (by simp [Df.d]) rfl ?_
  simp
  refine ⟨fun hno => ⟨[], false, rfl, .inr ⟨fun hy => ?_, rfl, rfl⟩⟩, fun h1 h2 => ?_⟩
  · rcases hno with h | h
    · rw [hy.1] at h; cases h
    · omega
  have n1 := (okDf_len h1).1
  obtain ⟨N, rfl⟩ : ∃ N : Nat, n = N := ⟨n.toNat, by omega⟩
  refine LoopVC.at { L : Nat // L ≤ 31 ∧ csum L (a.lang 0) ≤ N } (fun L => [(1, iA (N - csum L.1 (a.lang 0) : Nat)), (2, dpA a), (6, iA L.1)]) (fun _ => []) [] (fun L => 31 - L.1) ⟨0, by omega, by simp [csum]⟩ (by simp [csum]) (by simp) ?_
  rintro ⟨L, hL, hLN⟩
  rcases Nat.lt_or_ge L 31 with hL31 | hL31
  · have hLz : (L : Int) ≤ 30 := by omega
    obtain ⟨c1, c2⟩ := crow_get (a := a) (k := L) (q := 0) (by omega)
    have c0 := crow_len a L
    have hn0 : 0 < a.next.length := by omega
    have hcq : cq a L ((0 : Nat) : Int) = (cnt L (a.lang 0) : Nat) := rfl
    rw [hcq] at c1 c2
    have hcs : csum (L + 1) (a.lang 0) = csum L (a.lang 0) + cnt L (a.lang 0) := rfl
    have hcb := csum_bd (n := L + 1) (by omega) (a.lang 0)
    have hwr : IntKind.i64.wrap (((N - csum L (a.lang 0) : Nat) : Int) - cnt L (a.lang 0)) = (N : Int) - csum L (a.lang 0) - cnt L (a.lang 0) := by rw [wrap64 (by omega) (by omega)]; omega
    simp [hLz]
    refine .ddat (c_l17Counts a L h1 (by omega)) rfl (by simp [Df.d]) ?_
    rintro _ rfl
    simp [c1, c2, c0, hn0]
    refine ⟨fun hge => ?_, fun hlt => ?_⟩
    · refine ⟨L + 1, .mk ?_ (by simp), ⟨by omega, by omega⟩, by omega⟩
      simp; rw [hwr]
      exact ⟨by omega, wrap64 (by omega) (by omega)⟩
    · have hq0 : a.run 0 [] = 0 := rfl
      have hini := WnRest.init (f := a.lang 0) (n := N) (L := L) hLN (by omega)
      refine LoopVC.at { g : WG // g.u.length ≤ L ∧ g.u.all isL = true ∧ WnRest (a.lang 0) N (g.u.map ltr) (a.lang (a.run 0 g.u)) (L - g.u.length) g.m } (fun g => [(1, iA g.1.m), (2, dpA a), (6, iA L), (8, sA g.1.u), (9, iA (a.run 0 g.1.u)), (10, iA g.1.u.length)]) (fun _ => []) [] (fun g => L - g.1.u.length) ⟨⟨[], N - csum L (a.lang 0)⟩, by simp, rfl, by simpa [hq0] using hini⟩ (by simp [hq0]) (by simp) ?_
      rintro ⟨⟨u, m⟩, hu1, hu2, hwn⟩
      simp only at hu1 hu2 hwn
      have hok := run_st h1 (st0 h1) hu2
      rcases Nat.lt_or_ge u.length L with hul | hul
      · obtain ⟨lf, hlf⟩ : ∃ lf, L - u.length = lf + 1 := ⟨L - u.length - 1, by omega⟩
        have hsnoc : ∀ b, a.run 0 (u ++ [b]) = a.go (a.run 0 u) (ltr b) := fun b => by rw [run_app]; rfl
        rw [hlf] at hwn
        obtain ⟨q, hqe⟩ : ∃ q, a.run 0 u = q := ⟨_, rfl⟩
        rw [hqe] at hwn hok
        have hw1 : IntKind.i64.wrap ((L : Int) - u.length) = (L : Int) - u.length := wrap64 (by omega) (by omega)
        have hw2 : IntKind.i64.wrap ((L : Int) - u.length - 1) = lf := by rw [wrap64 (by omega) (by omega)]; omega
        have hq := hok.1
        have hq2 := hok.2
        have hk : q.toNat < a.next.length := by omega
        obtain ⟨g1, g2⟩ := okDf_row h1 hk
        have a1 := getD_row (xs := a.next) (i := q.toNat) [] hk
        have hgo : ∀ c : Nat, a.go q c = (a.next.getD q.toNat []).getD c 0 := fun c => by simp [Df.go]
        have hgs : ∀ c : Nat, c < 3 → a.st (a.go q c) := fun c hc => go_st h1 hok (by omega)
        generalize a.next.getD q.toNat [] = nx at *
        have hm2 : (m : Int) ≤ 617673396283947 := by have := hwn.1; have := cnt_bd (n := lf + 1) (by omega) (a.lang q); omega
        simp [hul, hw1, hw2, hqe]
        refine .ddat (c_l17Counts a lf h1 (by omega)) rfl (by simp [Df.d]) ?_
        rintro _ rfl
        simp
        refine LoopVC.at { l : Nat // l < 3 ∧ lsum a lf q l ≤ m } (fun l => [(1, iA (m - lsum a lf q l.1 : Nat)), (2, dpA a), (6, iA L), (8, sA u), (9, iA q), (10, iA u.length), (11, .d (intsD (crow a lf))), (12, iA l.1)]) (fun _ => []) [] (fun l => 3 - l.1) ⟨0, by simp [lsum_zero]⟩ (by simp [lsum_zero]) (by simp) ?_
        rintro ⟨l, hl, hS⟩
        have a2 := getD_row (xs := nx) (i := l) 0 (by omega)
        have hgl := hgo l
        rw [← hgl] at a2
        have hgl2 := hgs l (by omega)
        have t1 := hgl2.1
        have t2 := hgl2.2
        have hsr := lsum_succ a lf q l
        have hst := lsum_step hwn hl hS
        have hl3 := lsum_lt3 hwn (l := l + 1) (by omega)
        obtain ⟨t, ht⟩ : ∃ t : Nat, a.go q l = t := ⟨(a.go q l).toNat, by omega⟩
        rw [ht] at a2 t1 t2 hst hsr
        have htn : t < a.next.length := by omega
        obtain ⟨c1, c2⟩ := crow_get (a := a) (k := lf) htn
        have hcq : cq a lf t = (cnt lf (a.lang t) : Nat) := rfl
        rw [hcq] at c1 c2
        have c0 := crow_len a lf
        have l4 : (l : Int) < 3 := by omega
        generalize cnt lf (a.lang t) = C at *
        simp [hq, hq2, a1, a2, g1, hl, l4, c1, c2, c0, htn]
        refine ⟨fun hge => ?_, fun hlt => ?_⟩
        · have hwd : IntKind.i64.wrap (((m - lsum a lf q l : Nat) : Int) - C) = ((m - lsum a lf q (l + 1) : Nat) : Int) := by rw [hsr, wrap64 (by omega) (by omega)]; omega
          have hl4 := hl3 (by omega)
          refine ⟨l + 1, .mk ?_ (by simp), ⟨by omega, by omega⟩, by omega⟩
          simp; exact ⟨hwd, wrap64 (by omega) (by omega)⟩
        · obtain ⟨b, hb1, hb2, hb3⟩ := ofNat_ltr hl
          have hrb := hsnoc b
          rw [hqe, hb3, ht] at hrb
          have e1 : IntKind.i64.wrap (97 + (l : Int)) = 97 + l := wrap64 (by omega) (by omega)
          have e2 : IntKind.u8.wrap (97 + (l : Int)) = 97 + l := by rw [wrap_u8]; omega
          refine ⟨by omega, ⟨u ++ [b], m - lsum a lf q l⟩, .mk ?_ (by simp), ⟨by simp; omega, ?_, ?_⟩, by simp; omega⟩
          · simp [e1, e2, hb1, hrb]; exact wrap64 (by omega) (by omega)
          · intro x hx
            rcases List.mem_append.1 hx with hx | hx
            · exact (List.all_eq_true.1 hu2) x hx
            · rw [List.mem_singleton.1 hx]; exact hb2
          · have e : L - (u ++ [b]).length = lf := by simp; omega
            have := hst hlt
            simp only [List.map_append, List.map_cons, List.map_nil, hb3, hrb, e]
            exact this
      · have hLu : L - u.length = 0 := by omega
        rw [hLu] at hwn
        have hdone := hwn.done (l3_ltr' hu2) (by simp; omega)
        have hul' : u.length = L := by omega
        simp [hul']
        exact ⟨u, true, rfl, .inl ⟨⟨h1, by omega⟩, hu2, hdone⟩⟩
  · have : L = 31 := by omega
    subst this
    simp
    exact ⟨[], false, rfl, .inl ⟨⟨h1, by omega⟩, rfl, .inr ⟨rfl, rfl, hLN⟩⟩⟩
end Go.Fw
