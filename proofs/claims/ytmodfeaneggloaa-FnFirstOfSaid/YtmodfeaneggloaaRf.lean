/- Numbers of words, ranks, as the program finds them. -/
import Derived.Test.YtmodfeaneggloaaRb
set_option linter.unusedSimpArgs false
set_option linter.unusedVariables false
namespace Go.Fw
open Go Go.Proofs
set_option linter.unusedSectionVars false
set_option linter.unnecessarySimpa false

/-- How many words of a length. -/
def cwDf (a : Df) (n : Int) : Int := if okDf a && inR n 0 30 then cq a n.toNat 0 else -1
theorem cast_sum (g : Nat → Nat) : ∀ n : Nat, ((((List.range n).map g).sum : Nat) : Int) = ((List.range n).map fun i => (g i : Int)).sum
  | 0 => rfl
  | n + 1 => by rw [List.range_succ]; simp [cast_sum g n]
theorem lexr_cons (a : Df) (q c : Int) (w : List Int) : (lexr (a.lang q) (c :: w) : Int) = cqs a w.length q c.toNat + lexr (a.lang (a.go q c)) w := by
  simp only [lexr]
  rw [Int.natCast_add, cast_sum]; rfl
theorem lexr_bd (a : Df) (q : Int) {w : List Int} (h : l3 w) (hw : w.length ≤ 30) : 0 ≤ (lexr (a.lang q) w : Int) ∧ (lexr (a.lang q) w : Int) ≤ 617673396283947 := by
  have h1 := lexr_le w (a.lang q) h
  have h2 := cnt_bd (n := w.length) (by omega) (a.lang q)
  omega
/-- A word's rank. -/
def rkDf (a : Df) (s : List UInt8) : Int := if okDf a && wordOk s then (rankL (a.lang 0) (s.map ltr) : Int) else -1
theorem rank_bd (f : List Int → Bool) {w : List Int} (h : l3 w) (hw : w.length ≤ 30) : 0 ≤ (rankL f w : Int) ∧ (rankL f w : Int) ≤ 617673396283947 := by
  have h1 := rank_lt_csum (f := f) h (n := 31) (by omega)
  have h2 := csum_bd (n := 31) (by omega) f
  omega

/-- The word with a number. -/
def WnDf (a : Df) (n : Int) (s : List UInt8) (ok : Bool) : Prop :=
  ((okDf a = true ∧ 0 ≤ n) ∧ s.all isL = true ∧ WnIs (a.lang 0) n.toNat (s.map ltr) ok) ∨ (¬ (okDf a = true ∧ 0 ≤ n) ∧ s = [] ∧ ok = false)
/-- The words that begin with the first letters, as a number. -/
def lsum (a : Df) (k : Nat) (q : Int) (l : Nat) : Nat := ((List.range l).map fun (i : Nat) => cnt k fun v => a.lang q ((i : Int) :: v)).sum
theorem lsum_zero (a : Df) (k : Nat) (q : Int) : lsum a k q 0 = 0 := rfl
theorem lsum_succ (a : Df) (k : Nat) (q : Int) (l : Nat) : lsum a k q (l + 1) = lsum a k q l + cnt k (a.lang (a.go q l)) := sum_range_succ _ _
theorem lsum_step {f : List Int → Bool} {a : Df} {N k m : Nat} {u : List Int} {q : Int} (h : WnRest f N u (a.lang q) (k + 1) m) {l : Nat} (hl : l < 3) (h1 : lsum a k q l ≤ m) (h2 : m - lsum a k q l < cnt k (a.lang (a.go q l))) :
    WnRest f N (u ++ [(l : Int)]) (a.lang (a.go q l)) k (m - lsum a k q l) := h.step hl h1 h2
theorem lsum_lt3 {f : List Int → Bool} {a : Df} {N k m : Nat} {u : List Int} {q : Int} (h : WnRest f N u (a.lang q) (k + 1) m) {l : Nat} (hl : l ≤ 3) (h1 : lsum a k q l ≤ m) : l < 3 := h.lt3 hl h1
theorem ltxt_ex {l : Nat} (h : l < 3) : ∃ b, ltxt (l : Int) = [b] ∧ isL b = true ∧ ltr b = l := by
  obtain rfl | rfl | rfl : l = 0 ∨ l = 1 ∨ l = 2 := by omega
  · exact ⟨97, by decide, by decide, by decide⟩
  · exact ⟨98, by decide, by decide, by decide⟩
  · exact ⟨99, by decide, by decide, by decide⟩
structure WG where
  u : List UInt8
  m : Nat
def WnR (a : Df) (n : Int) (r : List D) : Prop := ∃ (s : List UInt8) (ok : Bool), r = [sD s, .bool ok] ∧ WnDf a n s ok

set_option maxRecDepth 100000 in
theorem c_CountWords (a : Df) (n : Int) (hf : a.fine) : DCalls Try.prog 21 [.d a.d, iA n] fun y => y = iD (cwDf a n) := by
  refine dcalls_intro Ty.mixed Try.func21 rfl rfl rfl [2] (by kernel_rfl) (by simp) ?_
  simp [Df.d]
  refine .dval (c_DfaValid a hf) rfl (by simp [Df.d]) rfl ?_
  simp
  refine .flat (fun _ => c_within _ _ _) rfl (by simp) rfl (by simp) ?_
  simp
  refine ⟨fun hno => ?_, fun h1 h2 => ?_⟩
  · have : (okDf a && inR n 0 30) = false := by rcases hno with h | h <;> simp [h]
    simp [cwDf, this]
  · refine .ddat (c_counts a h1) rfl (by simp [Df.d]) ?_
    rintro _ rfl
    have hr : 0 ≤ n ∧ n ≤ 30 := by simpa [inR] using h2
    obtain ⟨k, rfl⟩ : ∃ k : Nat, n = k := ⟨n.toNat, by omega⟩
    have hk : k < 31 := by omega
    have hkz : (k : Int) < 31 := by omega
    obtain ⟨r1, r2⟩ := rowsC_get a hk
    have n1 := (okDf_len h1).1
    obtain ⟨c1, c2⟩ := crow_get (a := a) (k := k) (q := 0) (by omega)
    have c0 := crow_len a k
    simp [tabD, rowsC_len, hk, hkz, r1, r2, c1, c2, c0, n1, cwDf, h1, h2]
    omega

set_option maxHeartbeats 800000 in
set_option maxRecDepth 100000 in
theorem c_RankWord (a : Df) (s : List UInt8) (hf : a.fine) (hsl : s.length ≤ 9223372036854775807) : DCalls Try.prog 23 [.d a.d, sA s] fun y => y = iD (rkDf a s) := by
  refine dcalls_intro Ty.mixed Try.func23 rfl rfl rfl [2] (by kernel_rfl) (by simp) ?_
  simp [Df.d]
  refine .dval (c_DfaValid a hf) rfl (by simp [Df.d]) rfl ?_
  simp
  refine .flat (fun _ => c_WordValid s hsl) rfl (by simp) rfl (by simp) ?_
  simp
  refine ⟨fun hno => ?_, fun h1 h2 => ?_⟩
  · have : (okDf a && wordOk s) = false := by rcases hno with h | h <;> simp [h]
    simp [rkDf, this]
  · refine .ddat (c_counts a h1) rfl (by simp [Df.d]) ?_
    rintro _ rfl
    have hsc : ∀ ys : List AV, ys.length = 31 → setCells 0 ((rowsC a 31).map AV.d) ys = tabB a := fun ys h => tab_store a h
    have hone := rowsC_one a
    have hw := letters_all h2
    have hl8 := letters_len h2
    have n1 := (okDf_len h1).1
    have hl3 := l3_ltr' hw
    have hrb := rank_bd (a.lang 0) hl3 (by simp; omega)
    have hR : (rankL (a.lang 0) (s.map ltr) : Int) = csum s.length (a.lang 0) + lexr (a.lang 0) (s.map ltr) := by simp [rankL]
    have hrk : rkDf a s = (rankL (a.lang 0) (s.map ltr) : Int) := by simp [rkDf, h1, h2]
    have hdrop := fun i (h : i < 31) => tabB_drop a (i := i) h
    have htk := fun p => tabB_kp p a
    rw [hrk]
    generalize (rankL (a.lang 0) (s.map ltr) : Int) = R at *
    simp [tabD, hsc, rowsC_len]
    refine ⟨hone, ?_⟩
    refine LoopVC.at { i : Nat // i ≤ s.length } (fun i => [(1, sA s), (2, dpA a), (5, .ptr 500 0), (6, iA (csum i.1 (a.lang 0) : Nat)), (22, iA s.length), (23, iA i.1)]) (fun _ => [(500, .bx (tabB a))]) [500] (fun i => s.length - i.1) ⟨0, by omega⟩ (by simp [csum]) (by simp [htk]) ?_
    rintro ⟨i, hi⟩
    rcases Nat.lt_or_ge i s.length with h' | h'
    · have hi31 : i < 31 := by omega
      have hiz : (i : Int) < 31 := by omega
      have hd := hdrop i hi31
      obtain ⟨c1, c2⟩ := crow_get (a := a) (k := i) (q := 0) (by omega)
      have c0 := crow_len a i
      have hb := csum_bd (n := i + 1) (by omega) (a.lang 0)
      have hcs : (csum (i + 1) (a.lang 0) : Int) = csum i (a.lang 0) + cq a i 0 := by simp [csum, cq]
      have hn0 : 0 < a.next.length := by omega
      have hwr : IntKind.i64.wrap ((csum i (a.lang 0) : Int) + cq a i 0) = csum (i + 1) (a.lang 0) := by rw [hcs]; exact wrap64 (by omega) (by omega)
      simp [h', hiz, hd, c1, c2, c0, hn0]
      refine ⟨i + 1, .mk ?_ ?_, by omega, by omega⟩
      · simp; exact ⟨by simpa using hwr, wrap64 (by omega) (by omega)⟩
      · simp [htk]
    · have : i = s.length := by omega
      subst this
      simp
      refine LoopVC.at { i : Nat // i ≤ s.length } (fun i => [(1, sA s), (2, dpA a), (5, .ptr 500 0), (6, iA (R - (lexr (a.lang (a.run 0 (s.take i.1))) ((s.drop i.1).map ltr) : Nat))), (8, iA (a.run 0 (s.take i.1))), (35, iA s.length), (36, iA i.1)]) (fun _ => [(500, .bx (tabB a))]) [500] (fun i => s.length - i.1) ⟨0, by omega⟩ (by simp [Df.run]; omega) (by simp [htk]) ?_
      rintro ⟨i, hi⟩
      have hok := run_st h1 (st0 h1) (take_all hw i)
      rcases Nat.lt_or_ge i s.length with h' | h'
      · have hlet := c_letter s i h'
        have hb : isL s[i] = true := by rw [List.all_eq_true] at hw; exact hw _ (List.getElem_mem h')
        have hlt := ltr_of hb
        have hrs := run_snoc a 0 h'
        have hde : (s.drop i).map ltr = ltr s[i] :: (s.drop (i + 1)).map ltr := by rw [List.drop_eq_getElem_cons h']; rfl
        have hl3d : l3 ((s.drop (i + 1)).map ltr) := l3_ltr' (by rw [List.all_eq_true] at hw ⊢; exact fun x hx => hw x (List.mem_of_mem_drop hx))
        rw [hde]
        generalize a.run 0 (s.take i) = q at *
        have hlc := lexr_cons a q (ltr s[i]) ((s.drop (i + 1)).map ltr)
        have hlb := lexr_bd a (a.go q (ltr s[i])) hl3d (by simp; omega)
        rw [← hrs] at hlc hlb
        have hwl : ((s.drop (i + 1)).map ltr).length = s.length - 1 - i := by simp; omega
        rw [hwl] at hlc
        rw [hlc]
        generalize hq' : a.run 0 (s.take (i + 1)) = q' at *
        generalize hw' : ((s.drop (i + 1)).map ltr) = w at *
        generalize hE : (lexr (a.lang q') w : Int) = E at *
        have hq := hok.1
        have hq2 := hok.2
        have hk : q.toNat < a.next.length := by omega
        obtain ⟨g1, g2⟩ := okDf_row h1 hk
        obtain ⟨d, hd⟩ : ∃ d : Nat, ltr s[i] = d := ⟨(ltr s[i]).toNat, by omega⟩
        have a1 := getD_row (xs := a.next) (i := q.toNat) [] hk
        have hgo : ∀ c : Nat, a.go q c = (a.next.getD q.toNat []).getD c 0 := fun c => by simp [Df.go]
        have hgs : ∀ c : Nat, c < 3 → a.st (a.go q c) := fun c hc => go_st h1 hok (by omega)
        generalize a.next.getD q.toNat [] = nx at *
        rw [hd] at hlet hlt hrs ⊢
        simp [h']
        refine .dval hlet rfl (by simp) rfl ?_
        simp
        refine LoopVC.at { l : Nat // l ≤ d } (fun l => [(1, sA s), (2, dpA a), (5, .ptr 500 0), (6, iA (R - (cqs a (s.length - 1 - i) q d + E) + cqs a (s.length - 1 - i) q l.1)), (8, iA q), (9, iA i), (35, iA s.length), (36, iA i), (41, iA d), (42, iA l.1)]) (fun _ => [(500, .bx (tabB a))]) [500] (fun l => d - l.1) ⟨0, by omega⟩ (by simp [cqs_zero]) (by simp [htk]) ?_
        rintro ⟨l, hl⟩
        have hw1 : IntKind.i64.wrap ((s.length : Int) - 1) = (s.length : Int) - 1 := wrap64 (by omega) (by omega)
        have hw2 : IntKind.i64.wrap ((s.length : Int) - 1 - i) = ((s.length - 1 - i : Nat) : Int) := by rw [wrap64 (by omega) (by omega)]; omega
        have hm31 : s.length - 1 - i < 31 := by omega
        generalize s.length - 1 - i = m at *
        rcases Nat.lt_or_ge l d with hld | hld
        · have a2 := getD_row (xs := nx) (i := l) 0 (by omega)
          have hgl := hgo l
          rw [← hgl] at a2
          have hgl2 := hgs l (by omega)
          have t1 := hgl2.1
          have t2 := hgl2.2
          have hcs := cqs_succ a m q l
          have hb1 := cqs_bd a (k := m) (by omega) q (c := l + 1) (by omega)
          have hb2 := cqs_bd a (k := m) (by omega) q (c := d) (by omega)
          obtain ⟨t, ht⟩ : ∃ t : Nat, a.go q l = t := ⟨(a.go q l).toNat, by omega⟩
          rw [ht] at a2 t1 t2 hcs
          have htn : t < a.next.length := by omega
          obtain ⟨c1, c2⟩ := crow_get (a := a) (k := m) htn
          have c0 := crow_len a m
          have hdm := hdrop m hm31
          have hmz : (m : Int) < 31 := by omega
          have l3 : l < 3 := by omega
          have hwr : IntKind.i64.wrap (R - (cqs a m q d + E) + cqs a m q l + cq a m t) = R - (cqs a m q d + E) + cqs a m q (l + 1) := by rw [hcs, wrap64 (by omega) (by omega)]; omega
          simp [hld]
          refine .one (sch [.pur 0, .pur 1, .pur 2, .pur 3, .pur 4, .pur 5, .pur 6, .pur 7, .pur 8, .pur 9, .pur 10, .pur 11, .pur 12, .pur 13, .pur 14, .pur 15, .pur 16, .pur 17, .pur 18, .eff 19 []]) (by kernel_rfl) ?_
          simp [hw1, hw2, hmz, hdm, hq, hq2, a1, a2, g1, l3, c1, c2, c0, htn]
          refine ⟨by omega, l + 1, .mk ?_ ?_, by omega, by omega⟩
          · simp; exact ⟨hwr, wrap64 (by omega) (by omega)⟩
          · simp [htk]
        · have : l = d := by omega
          subst this
          have a2 := getD_row (xs := nx) (i := l) 0 (by omega)
          have hgl := hgo l
          rw [← hgl, ← hrs] at a2
          have l3 : l < 3 := by omega
          have l4 : (l : Int) < 3 := by omega
          simp
          refine .one (sch [.pur 0, .pur 1, .pur 2, .pur 3, .pur 4, .pur 5, .pur 6, .eff 7 [0, 1, 2, 3, 4], .pur 8, .pur 9, .eff 10 []]) (by kernel_rfl) ?_
          simp [hq, hq2, a1]
          refine .dval hlet rfl (by simp) rfl ?_
          simp [hq, hq2, a1, a2, g1, l3, l4]
          refine ⟨i + 1, .mk ?_ ?_, by omega, by omega⟩
          · simp [hq']
            rw [← List.map_drop, hw', hE]
            exact ⟨by omega, wrap64 (by omega) (by omega)⟩
          · simp [htk]
      · have : i = s.length := by omega
        subst this
        simp [lexr]

set_option maxHeartbeats 800000 in
set_option maxRecDepth 100000 in
theorem c_WordNumber (a : Df) (n : Int) (hf : a.fine) (hn2 : n ≤ 9223372036854775807) : TCalls Try.prog 32 [.d a.d, iA n] (WnR a n) := by
  refine tcalls_intro Ty.mixed Try.func32 rfl rfl rfl [2] (by kernel_rfl) (by simp) ?_
  simp [Df.d]
  refine .dval (c_DfaValid a hf) rfl (by simp [Df.d]) rfl ?_
  simp
  refine ⟨fun hno => ⟨[], false, rfl, .inr ⟨fun hy => ?_, rfl, rfl⟩⟩, fun h1 h2 => ?_⟩
  · rcases hno with h | h
    · rw [hy.1] at h; cases h
    · omega
  refine .ddat (c_counts a h1) rfl (by simp [Df.d]) ?_
  rintro _ rfl
  have hsc : ∀ ys : List AV, ys.length = 31 → setCells 0 ((rowsC a 31).map AV.d) ys = tabB a := fun ys h => tab_store a h
  have hone := rowsC_one a
  have n1 := (okDf_len h1).1
  have hdrop := fun i (h : i < 31) => tabB_drop a (i := i) h
  have htk := fun p => tabB_kp p a
  obtain ⟨N, rfl⟩ : ∃ N : Nat, n = N := ⟨n.toNat, by omega⟩
  simp [tabD, hsc, rowsC_len]
  refine ⟨hone, ?_⟩
  refine LoopVC.at { L : Nat // L ≤ 30 ∧ csum L (a.lang 0) ≤ N } (fun L => [(1, iA (N - csum L.1 (a.lang 0) : Nat)), (2, dpA a), (6, .ptr 600 0), (7, iA L.1)]) (fun _ => [(600, .bx (tabB a))]) [600] (fun L => 31 - L.1) ⟨0, by omega, by simp [csum]⟩ (by simp [csum]) (by simp [htk]) ?_
  rintro ⟨L, hL, hLN⟩
  have hL31 : L < 31 := by omega
  have hLz : (L : Int) < 31 := by omega
  have hd := hdrop L hL31
  obtain ⟨c1, c2⟩ := crow_get (a := a) (k := L) (q := 0) (by omega)
  have c0 := crow_len a L
  have hn0 : 0 < a.next.length := by omega
  have hcq : cq a L ((0 : Nat) : Int) = (cnt L (a.lang 0) : Nat) := rfl
  rw [hcq] at c1 c2
  have hcs : csum (L + 1) (a.lang 0) = csum L (a.lang 0) + cnt L (a.lang 0) := rfl
  have hcb := csum_bd (n := L + 1) (by omega) (a.lang 0)
  have hwr : IntKind.i64.wrap (((N - csum L (a.lang 0) : Nat) : Int) - cnt L (a.lang 0)) = (N : Int) - csum L (a.lang 0) - cnt L (a.lang 0) := by rw [wrap64 (by omega) (by omega)]; omega
  have hw1 : IntKind.i64.wrap ((L : Int) + 1) = ((L + 1 : Nat) : Int) := by rw [wrap64 (by omega) (by omega)]; omega
  simp [hLz, hd, c1, c2, c0, hn0, hw1]
  refine ⟨fun hge => ⟨fun hbig => ?_, fun hsm => ?_⟩, fun hlt => ?_⟩
  · refine ⟨[], false, rfl, .inl ⟨⟨h1, by omega⟩, rfl, .inr ⟨rfl, rfl, ?_⟩⟩⟩
    have : L = 30 := by omega
    subst this
    show csum (30 + 1) (a.lang 0) ≤ N
    omega
  · refine ⟨L + 1, .mk ?_ ?_, ⟨by omega, by omega⟩, by omega⟩
    · simp; rw [hwr]; omega
    · simp [htk]
  · have hq0 : a.run 0 [] = 0 := rfl
    have hini := WnRest.init (f := a.lang 0) (n := N) (L := L) hLN (by omega)
    have hw2 : IntKind.i64.wrap ((L : Int) - 1) = (L : Int) - 1 := wrap64 (by omega) (by omega)
    simp [hw2]
    refine LoopVC.at { g : WG // g.u.length ≤ L ∧ g.u.all isL = true ∧ WnRest (a.lang 0) N (g.u.map ltr) (a.lang (a.run 0 g.u)) (L - g.u.length) g.m } (fun g => [(1, iA g.1.m), (2, dpA a), (6, .ptr 600 0), (8, sA g.1.u), (9, iA (a.run 0 g.1.u)), (10, iA ((L : Int) - 1 - g.1.u.length))]) (fun _ => [(600, .bx (tabB a))]) [600] (fun g => L - g.1.u.length) ⟨⟨[], N - csum L (a.lang 0)⟩, by simp, rfl, by simpa [hq0] using hini⟩ (by simp [hq0]) (by simp [htk]) ?_
    rintro ⟨⟨u, m⟩, hu1, hu2, hwn⟩
    simp only at hu1 hu2 hwn
    have hok := run_st h1 (st0 h1) hu2
    rcases Nat.lt_or_ge u.length L with hul | hul
    · obtain ⟨lf, hlf⟩ : ∃ lf, L - u.length = lf + 1 := ⟨L - u.length - 1, by omega⟩
      have hten : (L : Int) - 1 - u.length = lf := by omega
      have hsnoc : ∀ b, a.run 0 (u ++ [b]) = a.go (a.run 0 u) (ltr b) := fun b => by rw [run_app]; rfl
      rw [hlf] at hwn
      obtain ⟨q, hqe⟩ : ∃ q, a.run 0 u = q := ⟨_, rfl⟩
      rw [hqe] at hwn hok
      have hq := hok.1
      have hq2 := hok.2
      have hk : q.toNat < a.next.length := by omega
      obtain ⟨g1, g2⟩ := okDf_row h1 hk
      have a1 := getD_row (xs := a.next) (i := q.toNat) [] hk
      have hgo : ∀ c : Nat, a.go q c = (a.next.getD q.toNat []).getD c 0 := fun c => by simp [Df.go]
      have hgs : ∀ c : Nat, c < 3 → a.st (a.go q c) := fun c hc => go_st h1 hok (by omega)
      generalize a.next.getD q.toNat [] = nx at *
      have hlz : (0 : Int) ≤ lf := by omega
      have hm2 : (m : Int) ≤ 617673396283947 := by have := hwn.1; have := cnt_bd (n := lf + 1) (by omega) (a.lang q); omega
      simp [hten, hlz, hqe]
      refine LoopVC.at { l : Nat // l < 3 ∧ lsum a lf q l ≤ m } (fun l => [(1, iA (m - lsum a lf q l.1 : Nat)), (2, dpA a), (6, .ptr 600 0), (8, sA u), (9, iA q), (10, iA lf), (11, iA l.1)]) (fun _ => [(600, .bx (tabB a))]) [600] (fun l => 3 - l.1) ⟨0, by simp [lsum_zero]⟩ (by simp [lsum_zero]) (by simp [htk]) ?_
      rintro ⟨l, hl, hS⟩
      have a2 := getD_row (xs := nx) (i := l) 0 (by omega)
      have hgl := hgo l
      rw [← hgl] at a2
      have hgl2 := hgs l (by omega)
      have t1 := hgl2.1
      have t2 := hgl2.2
      have hsr := lsum_succ a lf q l
      have hst := lsum_step hwn hl hS
      have hl3 := lsum_lt3 hwn (l := l + 1) (by omega)
      obtain ⟨t, ht⟩ : ∃ t : Nat, a.go q l = t := ⟨(a.go q l).toNat, by omega⟩
      rw [ht] at a2 t1 t2 hst hsr
      have htn : t < a.next.length := by omega
      obtain ⟨c1, c2⟩ := crow_get (a := a) (k := lf) htn
      have hcq : cq a lf t = (cnt lf (a.lang t) : Nat) := rfl
      rw [hcq] at c1 c2
      have c0 := crow_len a lf
      have hdm := hdrop lf (by omega)
      have hmz : (lf : Int) < 31 := by omega
      have l4 : (l : Int) < 3 := by omega
      generalize cnt lf (a.lang t) = C at *
      simp
      refine .one (sch [.pur 0, .pur 1, .pur 2, .pur 3, .pur 4, .pur 5, .pur 6, .pur 7, .pur 8, .pur 9, .pur 10, .pur 11, .pur 12, .pur 13, .pur 14]) (by kernel_rfl) ?_
      simp [hmz, hdm, hq, hq2, a1, a2, g1, hl, l4, c1, c2, c0, htn]
      refine ⟨fun hge => ?_, fun hlt => ?_⟩
      · refine .one (sch [.pur 0, .pur 1, .pur 2, .pur 3, .pur 4, .pur 5, .pur 6, .pur 7, .pur 8, .pur 9, .pur 10, .pur 11, .pur 12, .pur 13, .pur 14, .eff 15 []]) (by kernel_rfl) ?_
        have hwd : IntKind.i64.wrap (((m - lsum a lf q l : Nat) : Int) - C) = ((m - lsum a lf q (l + 1) : Nat) : Int) := by rw [hsr, wrap64 (by omega) (by omega)]; omega
        simp [hmz, hdm, hq, hq2, a1, a2, g1, hl, l4, c1, c2, c0, htn]
        have hl4 := hl3 (by omega)
        refine ⟨l + 1, .mk ?_ ?_, ⟨by omega, by omega⟩, by omega⟩
        · simp; exact ⟨hwd, wrap64 (by omega) (by omega)⟩
        · simp [htk]
      · refine .dval (c_letterText (l : Int) (by omega) (by omega)) rfl (by simp) rfl ?_
        obtain ⟨b, hb1, hb2, hb3⟩ := ltxt_ex hl
        have hrb := hsnoc b
        rw [hqe, hb3, ht] at hrb
        rw [hb1]
        simp [hq, hq2, a1, a2, g1, hl, l4]
        refine ⟨by omega, ⟨u ++ [b], m - lsum a lf q l⟩, .mk ?_ ?_, ⟨by simp; omega, ?_, ?_⟩, by simp; omega⟩
        · simp [hrb]; rw [wrap64 (by omega) (by omega)]; omega
        · simp [htk]
        · intro x hx
          rcases List.mem_append.1 hx with hx | hx
          · exact (List.all_eq_true.1 hu2) x hx
          · rw [List.mem_singleton.1 hx]; exact hb2
        · have e : L - (u ++ [b]).length = lf := by simp; omega
          have := hst hlt
          simp only [List.map_append, List.map_cons, List.map_nil, hb3, hrb, e]
          exact this
    · have hLu : L - u.length = 0 := by omega
      rw [hLu] at hwn
      have hdone := hwn.done (l3_ltr' hu2) (by simp; omega)
      have hneg : (L : Int) - 1 - u.length < 0 := by omega
      simp [hneg]
      exact ⟨fun h => by omega, fun _ => ⟨u, true, rfl, .inl ⟨⟨h1, by omega⟩, hu2, hdone⟩⟩⟩
end Go.Fw
