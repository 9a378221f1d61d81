/- Words of automata with choices, as the specification has them; copies, equality and sizes; the law about words. -/
import Derived.Test.YtbkbpnccnhaolaaMd
set_option linter.unusedSimpArgs false
set_option linter.unusedVariables false
namespace Go.Fw
open Go Go.Proofs

set_option maxRecDepth 100000 in
theorem c_sNfaRun (a : Na) (s : List UInt8) (h1 : a.ms.length ≤ 9223372036854775807) (h2 : a.fs.length ≤ 9223372036854775807) (h3 : a.es.length ≤ 9223372036854775807) (hs : s.length ≤ 9223372036854775807) : DCalls Try.prog 38 [.d a.d, sA s] fun r => r = intsD (if okNa a && wordOk s then listE (runE a s) else []) := by
  refine dcalls_intro Ty.mixed Try.func38 rfl rfl rfl [2] (by kernel_rfl) (by simp) ?_
  simp [Na.d]
  refine .dval (c_sNfaValid a h1 h2 h3) rfl (by simp [Na.d]) rfl ?_
  simp
  refine .flat (fun _ => c_sWordValid s hs) rfl (by simp) rfl (by simp) ?_
  simp
  refine ⟨fun hno => by rcases hno with hno | hno <;> simp [hno], fun v1 v2 => ?_⟩
  have hwl := letters_len v2
  have hall := letters_all v2
  obtain ⟨k0, k1, k2, k3, k4, k5, k6⟩ := okNa_of v1
  refine .one (sch [.pur 0, .pur 1, .pur 2, .pur 3, .pur 4, .eff 5 [0], .eff 6 [], .pur 7]) (by kernel_rfl) ?_
  simp
  refine .ddat (c_l8Flags a.fs a.n ⟨k0, k1⟩ k3 h2) rfl (by simp) ?_
  rintro _ rfl
  simp
  refine .ddat (c_l8Close a k1 k5 (by omega) _ (flagsE_len _ _)) rfl (by simp [Na.d]) ?_
  rintro _ rfl
  simp
  refine LoopVC.at { i : Nat // i ≤ s.length } (fun i => [(1, sA s), (2, .dp [.d (iD a.n), .d (.list (a.ms.map Mv.d)), .d (intsD a.fs), .d (intsD a.es)]), (5, .d (bsD (runE a (s.take i.1)))), (6, iA i.1)]) (fun _ => []) [] (fun i => s.length - i.1) ⟨0, by simp⟩ (by simp [runE, firstE]) (by simp) ?_
  rintro ⟨i, hi⟩
  rcases Nat.lt_or_ge i s.length with h' | h'
  · have hsn := runE_snoc a h'
    have hrl := runE_len a (s.take i)
    have hsub : IntKind.i64.wrap (IntKind.u8.wrap ((s[i].toNat : Int) - 97)) = ltr s[i] := wrap_ltr _
    simp [h']
    refine .one (sch [.pur 0, .pur 1, .pur 2, .pur 3, .pur 4, .pur 5, .pur 6, .eff 7 [], .eff 8 []]) (by kernel_rfl) ?_
    simp [h', hsub]
    refine .ddat (c_l8Step a ⟨k0, k1⟩ k5 (by omega) _ hrl (ltr s[i])) rfl (by simp [Na.d]) ?_
    rintro _ rfl
    simp
    exact ⟨i + 1, .mk (by simp [hsn]; exact wrap64 (by omega) (by omega)) (by simp), h', by omega⟩
  · have : i = s.length := by omega
    subst this
    simp
    refine .ddat (c_l8List _ (by rw [runE_len]; omega)) rfl (by simp) ?_
    rintro _ rfl
    simp [v1, v2]

set_option maxRecDepth 100000 in
theorem c_sNfaAccepts (a : Na) (s : List UInt8) (h1 : a.ms.length ≤ 9223372036854775807) (h2 : a.fs.length ≤ 9223372036854775807) (h3 : a.es.length ≤ 9223372036854775807) (hs : s.length ≤ 9223372036854775807) : DCalls Try.prog 34 [.d a.d, sA s] fun r => r = .bool (accNa a s) := by
  refine dcalls_intro Ty.mixed Try.func34 rfl rfl rfl [2] (by kernel_rfl) (by simp) ?_
  simp [Na.d]
  refine .ddat (c_sNfaRun a s h1 h2 h3 hs) rfl (by simp [Na.d]) ?_
  rintro _ rfl
  have hxl : (if okNa a && wordOk s then listE (runE a s) else []).length ≤ 40 := by
    split
    · rename_i hv
      simp only [Bool.and_eq_true] at hv
      obtain ⟨k0, k1, k2, k3, k4, k5, k6⟩ := okNa_of hv.1
      have := List.length_filter_le (fun k => (runE a s).getD k false) (List.range (runE a s).length)
      rw [List.length_range, runE_len] at this
      rw [listE, List.length_map, runE_len] at *
      omega
    · simp
  have hfin : (∀ x ∈ (if okNa a && wordOk s then listE (runE a s) else []), x ∉ a.es) → accNa a s = false := by
    intro hno
    unfold accNa
    cases hv : okNa a && wordOk s with
    | false => rfl
    | true =>
      rw [if_pos hv] at hno
      simp only [Bool.and_eq_true] at hv
      obtain ⟨k0, k1, k2, k3, k4, k5, k6⟩ := okNa_of hv.1
      rw [Bool.true_and, List.any_eq_false]
      intro x hx hb
      exact hno x (mem_listE.2 ⟨(k4 x hx).1, hb⟩) hx
  have hyes : ∀ x ∈ (if okNa a && wordOk s then listE (runE a s) else []), x ∈ a.es → accNa a s = true := by
    intro x hx he
    unfold accNa
    cases hv : okNa a && wordOk s with
    | false => rw [if_neg (by simp [hv])] at hx; simp at hx
    | true =>
      rw [if_pos hv] at hx
      rw [Bool.true_and, List.any_eq_true]
      exact ⟨x, he, (mem_listE.1 hx).2⟩
  generalize (if okNa a && wordOk s then listE (runE a s) else []) = xs at *
  simp
  refine LoopVC.at { i : Nat // i ≤ xs.length ∧ ∀ j (h : j < xs.length), j < i → xs[j] ∉ a.es } (fun i => [(2, .dp [.d (iD a.n), .d (.list (a.ms.map Mv.d)), .d (intsD a.fs), .d (intsD a.es)]), (5, .d (intsD xs)), (6, iA i.1)]) (fun _ => []) [] (fun i => xs.length - i.1) ⟨0, by simp⟩ (by simp) (by simp) ?_
  rintro ⟨i, hi, hp⟩
  rcases Nat.lt_or_ge i xs.length with h | h
  · simp [h]
    refine .one (sch [.pur 0, .pur 1, .pur 2, .pur 3, .pur 4, .pur 5, .eff 6 [], .pur 7]) (by kernel_rfl) ?_
    simp [h]
    refine .dval (c_l7Name a.es xs[i] h3) rfl (by simp) rfl ?_
    have hI : 0 ≤ idxI (fun x => decide (x = xs[i])) a.es ↔ xs[i] ∈ a.es := by
      have := idxI_any (fun x => decide (x = xs[i])) a.es
      rw [Bool.eq_iff_iff, decide_eq_true_iff, List.any_eq_true] at this
      rw [this]; simp
    simp
    exact ⟨fun hb => hyes _ (List.getElem_mem h) (hI.1 hb), fun hb => ⟨i + 1, .mk (by simp; exact wrap64 (by omega) (by omega)) (by simp), ⟨h, upto_succ hp h (fun hm => by have := hI.2 hm; omega)⟩, by omega⟩⟩
  · simp [Nat.not_lt.2 h]
    exact (hfin fun x hx => by
      obtain ⟨j, hj, rfl⟩ := List.mem_iff_getElem.1 hx
      exact hp j hj (by omega))

/-! ### Copies, equality, sizes -/

structure Na.fine (a : Na) : Prop where
  ms : a.ms.length ≤ 9223372036854775807
  fs : a.fs.length ≤ 9223372036854775807
  es : a.es.length ≤ 9223372036854775807
structure Na.small (a : Na) : Prop where
  ms : a.ms.length ≤ 1048576
  fs : a.fs.length ≤ 1048576
  es : a.es.length ≤ 1048576

theorem c_szMoveS (ms : List Mv) (left : Int) (hl : 0 ≤ left ∧ left ≤ 1048576) (h : ms.length ≤ 9223372036854775807) : DCalls Try.prog 67 [.d (.list (ms.map Mv.d)), iA left] fun y => ∃ v, y = iD v ∧ leftOk left v (ms.length ≤ 1048576) := by
  refine dcalls_intro Ty.mixed Try.func67 rfl rfl rfl [] (by kernel_rfl) (by simp) ?_
  have e : IntKind.i64.wrap (left - ms.length) = left - ms.length := wrap64 (by omega) (by omega)
  simp [leftOk, e]
  omega
theorem c_szNfa (a : Na) (left : Int) (hl : 0 ≤ left ∧ left ≤ 1048576) (h : a.fine) : DCalls Try.prog 22 [.d a.d, iA left] fun y => ∃ v, y = iD v ∧ leftOk left v a.small := by
  refine dcalls_intro Ty.mixed Try.func22 rfl rfl rfl [2] (by kernel_rfl) (by simp) ?_
  simp [Na.d]
  refine .ddat (c_szMoveS a.ms left hl h.ms) rfl (by simp) ?_
  rintro _ ⟨v, rfl, h4, h5, h6⟩
  simp
  refine ⟨fun _ => by simp [leftOk]; omega, fun h7 => ?_⟩
  refine .ddat (c_szIntS a.fs v (by omega) h.fs) rfl (by simp) ?_
  rintro _ ⟨v2, rfl, g4, g5, g6⟩
  simp
  refine ⟨fun _ => by simp [leftOk]; omega, fun g7 => ?_⟩
  refine .ddat (c_szIntS a.es v2 (by omega) h.es) rfl (by simp) ?_
  rintro _ ⟨v3, rfl, k4, k5, k6⟩
  simp
  exact ⟨fun _ => by simp [leftOk]; omega, fun k7 => ⟨by omega, by omega, fun _ => ⟨h6 h7, g6 g7, k6 k7⟩⟩⟩

theorem c_toMove (m : Mv) : DCalls Try.prog 115 [.d m.d] fun y => y = m.d := by
  refine dcalls_intro Ty.mixed Try.func115 rfl rfl rfl [1] (by kernel_rfl) (by simp) ?_
  simp [Mv.d]
theorem c_toMoveS (ms : List Mv) (hlen : ms.length ≤ 1048576) : DCalls Try.prog 74 [.d (.list (ms.map Mv.d))] fun y => y = .list (ms.map Mv.d) := by
  refine dcalls_intro Ty.mixed Try.func74 rfl rfl rfl [] (by kernel_rfl) (by simp) ?_
  simp
  refine ⟨by omega, ?_⟩
  refine LoopVC.at { i : Nat // i ≤ ms.length } (fun i => [(0, .d (.list (ms.map Mv.d))), (3, .sl 3 700 0 ms.length), (4, iA i.1)]) (fun i => [(700, .ar 3 (mixL (ms.map Mv.d) (.agg [iD 0, iD 0, iD 0]) i.1))]) [700] (fun i => ms.length - i.1) ⟨0, by simp⟩ (by simp) (by simp [mixL_zero]) ?_
  rintro ⟨i, hi⟩
  rcases Nat.lt_or_ge i ms.length with h | h
  · have hl : (mixL (ms.map Mv.d) (.agg [iD 0, iD 0, iD 0]) i).length = ms.length := by rw [mixL_len (by simpa using hi)]; simp
    have hc := c_toMove ms[i]
    simp [h, hl, Mv.d]
    refine .ddat hc rfl (by simp [Mv.d]) ?_
    rintro _ rfl
    simp [h, hl, Mv.d]
    refine ⟨i + 1, .mk (by simp; exact wrap64 (by omega) (by omega)) (by simp; rw [← mixL_set (by simpa using h)]; simp [Mv.d]), h, by omega⟩
  · simp [Nat.not_lt.2 h]
    rw [mixL_all (by simpa using h)]
    exact ⟨Nat.le_of_eq (List.length_map _).symm, List.take_of_length_le (Nat.le_of_eq (List.length_map _))⟩

theorem c_toNfa (a : Na) (h : a.small) : DCalls Try.prog 24 [.d a.d] fun y => y = a.d := by
  refine dcalls_intro Ty.mixed Try.func24 rfl rfl rfl [1] (by kernel_rfl) (by simp) ?_
  simp [Na.d]
  refine .ddat (c_toMoveS a.ms h.ms) rfl (by simp) ?_
  rintro _ rfl
  simp
  refine .ddat (c_toIntS a.fs h.fs) rfl (by simp) ?_
  rintro _ rfl
  simp
  refine .ddat (c_toIntS a.es h.es) rfl (by simp) ?_
  rintro _ rfl
  simp

theorem c_eqMove (m q : Mv) : DCalls Try.prog 120 [.d m.d, .d q.d] fun y => y = .bool (decide (m = q)) := by
  refine dcalls_intro Ty.mixed Try.func120 rfl rfl rfl [2, 3] (by kernel_rfl) (by simp) ?_
  obtain ⟨a, b, c⟩ := m
  obtain ⟨d, e, f⟩ := q
  simp [Mv.d]
  grind
theorem c_eqMoveS (xs ys : List Mv) (h1 : xs.length ≤ 9223372036854775807) : DCalls Try.prog 80 [.d (.list (xs.map Mv.d)), .d (.list (ys.map Mv.d))] fun y => y = .bool (decide (xs = ys)) := by
  refine dcalls_intro Ty.mixed Try.func80 rfl rfl rfl [] (by kernel_rfl) (by simp) ?_
  simp
  refine ⟨fun hne e => hne (by rw [e]), fun hlen => ?_⟩
  refine LoopVC.at { i : Nat // i ≤ xs.length ∧ ∀ j (h : j < xs.length), j < i → ∃ h' : j < ys.length, xs[j] = ys[j] } (fun i => [(0, .d (.list (xs.map Mv.d))), (1, .d (.list (ys.map Mv.d))), (5, iA i.1)]) (fun _ => []) [] (fun i => xs.length - i.1) ⟨0, by simp⟩ (by simp) (by simp) ?_
  rintro ⟨i, hi, hp⟩
  rcases Nat.lt_or_ge i xs.length with h | h
  · have h' : i < ys.length := by omega
    have hce := c_eqMove xs[i] ys[i]
    simp [h]
    refine .one (sch [.pur 0, .pur 1, .pur 2, .pur 3, .pur 4, .pur 5, .pur 6, .pur 7, .eff 8 [], .pur 9]) (by kernel_rfl) ?_
    simp [h, h', Mv.d]
    refine .dval hce rfl (by simp) rfl ?_
    simp
    refine ⟨fun hne e => hne (by subst e; rfl), fun he => ⟨i + 1, .mk (by simp; exact wrap64 (by omega) (by omega)) (by simp), ⟨h, upto_succ hp h ⟨h', he⟩⟩, by omega⟩⟩
  · simp [Nat.not_lt.2 h]
    refine List.ext_getElem (by omega) fun j hj hj' => ?_
    obtain ⟨_, he⟩ := hp j hj (by omega)
    exact he

theorem c_eqNfa (a b : Na) (h : a.small) : DCalls Try.prog 28 [.d a.d, .d b.d] fun y => y = .bool (decide (a = b)) := by
  refine dcalls_intro Ty.mixed Try.func28 rfl rfl rfl [2, 3] (by kernel_rfl) (by simp) ?_
  have e : decide (a = b) = (decide (a.n = b.n) && decide (a.ms = b.ms) && decide (a.fs = b.fs) && decide (a.es = b.es)) := by
    cases a; cases b; simp; grind
  rw [e]
  have n1 := h.ms
  have n2 := h.fs
  have n3 := h.es
  simp [Na.d]
  refine ⟨fun hno => by simp [hno], fun e0 => ?_⟩
  refine .dval (c_eqMoveS a.ms b.ms (by omega)) rfl (by simp) rfl ?_
  simp
  refine ⟨fun hno => by simp [hno], fun e1 => ?_⟩
  refine .dval (c_eqIntS a.fs b.fs (by omega)) rfl (by simp) rfl ?_
  simp
  refine ⟨fun hno => by simp [hno], fun e2 => ?_⟩
  refine .dval (c_eqIntS a.es b.es (by omega)) rfl (by simp) rfl ?_
  simp [e0, e1, e2]

theorem c_FnExactNfaAccepts (a : Na) (s : List UInt8) (h : a.fine) (hs' : s.length ≤ 9223372036854775807) : DCalls Try.prog 8 [.d a.d, sA s] fun y => y = .bool true := by
  refine dcalls_intro Ty.mixed Try.func8 rfl rfl rfl [2] (by kernel_rfl) (by simp) ?_
  simp [Na.d]
  intro hsl
  refine .ddat (c_szNfa a 1048576 (by omega) h) rfl (by simp) ?_
  rintro _ ⟨v, rfl, h1, h2, h3⟩
  simp
  intro hz
  have hs := h3 hz
  refine .ddat (c_toNfa a hs) rfl (by simp) ?_
  rintro _ rfl
  simp
  refine .dval (c_sNfaAccepts a s h.ms h.fs h.es hs') rfl (by simp) rfl ?_
  simp
  refine .ddat (c_toNfa a hs) rfl (by simp) ?_
  rintro _ rfl
  simp [Na.d]
  refine .dval (c_NfaAccepts a s h.ms h.fs h.es hs') rfl (by simp) rfl ?_
  simp
  refine .one (sch [.pur 0, .pur 1, .eff 2 [0], .eff 3 [], .pur 4]) (by kernel_rfl) ?_
  simp
  refine .ddat (c_toNfa a hs) rfl (by simp) ?_
  rintro _ rfl
  simp
  refine .dval (c_eqNfa a a hs) rfl (by simp) rfl ?_
  simp
end Go.Fw
