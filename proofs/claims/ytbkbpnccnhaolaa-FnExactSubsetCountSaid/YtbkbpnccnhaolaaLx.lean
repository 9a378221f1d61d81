/- Automata with choices: what the program computes of their sets of states. -/
import Derived.Test.YtbkbpnccnhaolaaLw
set_option linter.unusedSimpArgs false
set_option linter.unusedVariables false
namespace Go.Fw
open Go Go.Proofs

/-- Where a round of closing stands. -/
structure GC where
  i : Nat
  ag : Bool
  p : Nat × Nat
  xs : List Bool

set_option maxRecDepth 100000 in
theorem c_close (a : Na) (hn : a.n ≤ 40) (hm : msOk a.n a.ms) (h1 : a.ms.length ≤ 9223372036854775807) (p : Nat × Nat) (xs : List Bool) (hp : BitsOf p xs) (hl : xs.length = a.n.toNat) : DCalls Try.prog 77 [.d a.d, .d (stD p.1 p.2)] fun r => ∃ q, r = stD q.1 q.2 ∧ BitsOf q (closeE a.ms xs) := by
  refine dcalls_intro Ty.mixed Try.func77 rfl rfl rfl [2] (by kernel_rfl) (by simp) ?_
  simp [Na.d, stD]
  refine LoopVC.at { g : GC // BitsOf g.p g.xs ∧ g.xs.length = a.n.toNat ∧ closeE a.ms g.xs = closeE a.ms xs ∧ (g.ag = false → passE a.ms g.xs = g.xs) } (fun g => [(2, .dp [iA a.n, .d (.list (a.ms.map Mv.d)), .d (intsD a.fs), .d (intsD a.es)]), (3, .ptr 300 0), (4, .ptr 400 0), (5, .d (.bool g.1.ag))]) (fun g => [(300, .bx [.d (.int .u64 g.1.p.1), .d (.int .u64 g.1.p.2)]), (400, .bx [.d (.int .u64 0), .d (.int .u64 0)])]) [300, 400] (fun g => falses g.1.xs + if g.1.ag then 1 else 0) ⟨⟨0, true, p, xs⟩, hp, hl, rfl, by simp⟩ (by simp) (by simp) ?_
  rintro ⟨⟨_, again, q, ys⟩, hq, hyl, hc, ha⟩
  simp only at hq hyl hc ha
  cases again with
  | false =>
    simp
    rw [← hc, closeE_fix (ha rfl)]
    exact ⟨q.1, q.2, ⟨rfl, rfl⟩, hq⟩
  | true =>
    simp
    refine LoopVC.at { g : GC // g.i ≤ a.ms.length ∧ BitsOf g.p g.xs ∧ g.xs = passE (a.ms.take g.i) ys ∧ (g.ag = !decide (g.xs = ys)) ∧ falses g.xs ≤ falses ys ∧ (¬ g.xs = ys → falses g.xs < falses ys) } (fun g => [(2, .dp [iA a.n, .d (.list (a.ms.map Mv.d)), .d (intsD a.fs), .d (intsD a.es)]), (3, .ptr 300 0), (4, .ptr 400 0), (5, .d (.bool g.1.ag)), (10, .d (.list (a.ms.map Mv.d))), (11, iA a.ms.length), (12, iA g.1.i)]) (fun g => [(300, .bx [.d (.int .u64 g.1.p.1), .d (.int .u64 g.1.p.2)]), (400, .bx [.d (.int .u64 0), .d (.int .u64 0)])]) [300, 400] (fun g => a.ms.length - g.1.i) ⟨⟨0, false, q, ys⟩, by simp, hq, by simp [passE], by simp, Nat.le_refl _, fun h => (h rfl).elim⟩ (by simp) (by simp) ?_
    rintro ⟨⟨i, ag, u, zs⟩, hi, hu, hz, hag, hf1, hf2⟩
    simp only at hi hu hz hag hf1 hf2
    have hzl : zs.length = a.n.toNat := by rw [hz, passE_len, hyl]
    rcases Nat.lt_or_ge i a.ms.length with h | h
    · have hmo := hm _ (List.getElem_mem h)
      have hsn := passE_snoc a.ms ys h
      rw [← hz] at hsn
      have hs1 := stepE_falses zs a.ms[i]
      generalize hri : a.ms[i] = m at *
      obtain ⟨mf, ml, mt⟩ := m
      simp only [inst] at hmo
      obtain ⟨kf, rfl⟩ : ∃ k : Nat, mf = k := ⟨mf.toNat, by omega⟩
      obtain ⟨kt, rfl⟩ : ∃ k : Nat, mt = k := ⟨mt.toNat, by omega⟩
      have hbf := hu.bit kf (by omega)
      have hbt := hu.bit kt (by omega)
      have hkt : kt < zs.length := by omega
      simp [h, hri, Mv.d]
      refine .flat (fun _ => c_has u.1 u.2 hu.lt1 hu.lt2 kf (by omega)) rfl (by simp [stD]) rfl (by simp) ?_
      simp
      refine .flat (fun _ => c_has u.1 u.2 hu.lt1 hu.lt2 kt (by omega)) rfl (by simp [stD]) rfl (by simp) ?_
      simp [hbf, hbt]
      refine ⟨fun c1 c2 c3 => ?_, fun hno => ?_⟩
      · have hst : stepE zs ⟨kf, ml, kt⟩ = zs.set kt true := by
          rw [stepE, if_pos]; · rfl
          exact ⟨c1, by simpa using c2, by simpa using c3⟩
        have hne : zs.set kt true ≠ zs := by
          intro e
          have := getD_set_true zs kt kt hkt
          rw [e] at this; simp at this c3; rw [c3] at this; cases this
        rw [hst] at hsn hs1
        have hlt := hs1.2 hne
        have hney : ¬ zs.set kt true = ys := by
          intro e; rw [e] at hlt; omega
        refine .ddat (c_with u.1 u.2 hu.lt1 hu.lt2 kt (by omega)) rfl (by simp [stD]) ?_
        rintro _ rfl
        have hw := hu.with hkt
        rcases Nat.lt_or_ge kt 64 with hk | hk
        · simp [stD, hk]
          refine ⟨⟨i + 1, true, stWith u kt, zs.set kt true⟩, .mk (by simp; exact wrap64 (by omega) (by omega)) (by simp [stWith, hk]), ⟨h, hw, hsn.symm, by simp [hney], by show falses (zs.set kt true) ≤ _; omega, fun _ => by show falses (zs.set kt true) < _; omega⟩, by simp; omega⟩
        · simp [stD, Nat.not_lt.2 hk]
          refine ⟨⟨i + 1, true, stWith u kt, zs.set kt true⟩, .mk (by simp; exact wrap64 (by omega) (by omega)) (by simp [stWith, Nat.not_lt.2 hk]), ⟨h, hw, hsn.symm, by simp [hney], by show falses (zs.set kt true) ≤ _; omega, fun _ => by show falses (zs.set kt true) < _; omega⟩, by simp; omega⟩
      · have hst : stepE zs ⟨kf, ml, kt⟩ = zs := by
          rw [stepE, if_neg]
          rintro ⟨d1, d2, d3⟩
          have := hno d1 (by simpa using d2)
          simp at d3; rw [d3] at this; cases this
        rw [hst] at hsn
        refine ⟨⟨i + 1, ag, u, zs⟩, .mk (by simp; exact wrap64 (by omega) (by omega)) (by simp), ⟨h, hu, hsn.symm, hag, hf1, hf2⟩, by simp; omega⟩
    · have : i = a.ms.length := by omega
      subst this
      rw [List.take_length] at hz
      have hc2 : closeE a.ms zs = closeE a.ms xs := by rw [hz, closeE_pass, hc]
      simp
      refine ⟨⟨0, ag, u, zs⟩, .mk (by simp) (by simp), ⟨hu, hzl, hc2, fun h0 => ?_⟩, ?_⟩
      · have h0 : ag = false := h0
        rw [h0] at hag
        have : zs = ys := by simpa using hag
        show passE a.ms zs = zs
        rw [this] at hz ⊢; exact hz.symm
      · show (falses zs + if ag = true then 1 else 0) < falses ys + 1
        by_cases h0 : zs = ys
        · have : ag = false := by simpa [h0] using hag
          rw [this, h0]; simp
        · have := hf2 h0
          split <;> omega

set_option maxRecDepth 100000 in
theorem c_step (a : Na) (hn : a.n ≤ 40) (hm : msOk a.n a.ms) (h1 : a.ms.length ≤ 9223372036854775807) (p : Nat × Nat) (xs : List Bool) (hp : BitsOf p xs) (hl : xs.length = a.n.toNat) (c : Int) : DCalls Try.prog 84 [.d a.d, .d (stD p.1 p.2), iA c] fun r => ∃ q, r = stD q.1 q.2 ∧ BitsOf q (nextE a.n.toNat a.ms xs c) := by
  refine dcalls_intro Ty.mixed Try.func84 rfl rfl rfl [3, 4] (by kernel_rfl) (by simp) ?_
  simp [Na.d, stD]
  refine LoopVC.at { g : GC // g.i ≤ a.ms.length ∧ BitsOf g.p g.xs ∧ g.xs = jumpE a.n.toNat (a.ms.take g.i) xs c } (fun g => [(2, iA c), (3, .dp [iA a.n, .d (.list (a.ms.map Mv.d)), .d (intsD a.fs), .d (intsD a.es)]), (4, .dp [.d (.int .u64 p.1), .d (.int .u64 p.2)]), (6, .ptr 600 0), (7, .ptr 700 0), (11, .d (.list (a.ms.map Mv.d))), (12, iA a.ms.length), (13, iA g.1.i)])
    (fun g => [(600, .bx [.d (.int .u64 0), .d (.int .u64 0)]), (700, .bx [.d (.int .u64 g.1.p.1), .d (.int .u64 g.1.p.2)])]) [600, 700] (fun g => a.ms.length - g.1.i) ⟨⟨0, true, (0, 0), List.replicate a.n.toNat false⟩, by simp, .nil _ (by omega), rfl⟩ (by simp) (by simp) ?_
  rintro ⟨⟨i, ag, u, zs⟩, hi, hu, hz⟩
  simp only at hi hu hz
  have hzl : zs.length = a.n.toNat := by rw [hz, jumpE_len]
  rcases Nat.lt_or_ge i a.ms.length with h | h
  · have hmo := hm _ (List.getElem_mem h)
    have hsn := jumpE_snoc a.n.toNat a.ms xs c h
    rw [← hz] at hsn
    generalize hri : a.ms[i] = m at *
    obtain ⟨mf, ml, mt⟩ := m
    simp only [inst] at hmo
    obtain ⟨kf, rfl⟩ : ∃ k : Nat, mf = k := ⟨mf.toNat, by omega⟩
    obtain ⟨kt, rfl⟩ : ∃ k : Nat, mt = k := ⟨mt.toNat, by omega⟩
    have hbf := hp.bit kf (by omega)
    have hkt : kt < zs.length := by omega
    simp [h, hri, Mv.d]
    refine .flat (fun _ => c_has p.1 p.2 hp.lt1 hp.lt2 kf (by omega)) rfl (by simp [stD]) rfl (by simp) ?_
    simp [hbf]
    refine ⟨fun c1 c2 => ?_, fun hno => ?_⟩
    · have hst : stepF xs c zs ⟨kf, ml, kt⟩ = zs.set kt true := by
        rw [stepF, if_pos]; · rfl
        exact ⟨c1, by simpa using c2⟩
      rw [hst] at hsn
      refine .ddat (c_with u.1 u.2 hu.lt1 hu.lt2 kt (by omega)) rfl (by simp [stD]) ?_
      rintro _ rfl
      have hw := hu.with hkt
      rcases Nat.lt_or_ge kt 64 with hk | hk
      · simp [stD, hk]
        exact ⟨⟨i + 1, true, stWith u kt, zs.set kt true⟩, .mk (by simp; exact wrap64 (by omega) (by omega)) (by simp [stWith, hk]), ⟨h, hw, hsn.symm⟩, by simp; omega⟩
      · simp [stD, Nat.not_lt.2 hk]
        exact ⟨⟨i + 1, true, stWith u kt, zs.set kt true⟩, .mk (by simp; exact wrap64 (by omega) (by omega)) (by simp [stWith, Nat.not_lt.2 hk]), ⟨h, hw, hsn.symm⟩, by simp; omega⟩
    · have hst : stepF xs c zs ⟨kf, ml, kt⟩ = zs := by
        rw [stepF, if_neg]
        rintro ⟨d1, d2⟩
        have := hno d1
        simp at d2; rw [d2] at this; cases this
      rw [hst] at hsn
      exact ⟨⟨i + 1, ag, u, zs⟩, .mk (by simp; exact wrap64 (by omega) (by omega)) (by simp), ⟨h, hu, hsn.symm⟩, by simp; omega⟩
  · have : i = a.ms.length := by omega
    subst this
    rw [List.take_length] at hz
    simp
    refine .ddat (c_close a hn hm h1 u zs hu hzl) rfl (by simp [Na.d, stD]) ?_
    rintro _ ⟨q, rfl, hq⟩
    simp [stD]
    rw [hz] at hq
    exact ⟨q.1, q.2, ⟨rfl, rfl⟩, hq⟩

theorem c_first (a : Na) (h : okNa a = true) (h2 : a.fs.length ≤ 9223372036854775807) : DCalls Try.prog 121 [.d a.d] fun r => ∃ q, r = stD q.1 q.2 ∧ BitsOf q (firstE a) := by
  refine dcalls_intro Ty.mixed Try.func121 rfl rfl rfl [1] (by kernel_rfl) (by simp) ?_
  obtain ⟨k0, k1, k2, k3, k4, k5, k6⟩ := okNa_of h
  simp [Na.d]
  refine .one (sch [.pur 0, .pur 1, .pur 2, .eff 3 [0], .eff 4 [], .eff 5 []]) (by kernel_rfl) ?_
  simp
  refine .ddat (c_setOf a.fs h2 (fun x hx => by have := k3 x hx; omega)) rfl (by simp) ?_
  rintro _ rfl
  simp
  refine .ddat (c_close a k1 k5 (by omega) _ _ (bits_of_list (n := a.n.toNat) (by omega) (fun x hx => by have := k3 x hx; omega)) (flagsE_len _ _)) rfl (by simp [Na.d]) ?_
  rintro _ ⟨q, rfl, hq⟩
  simp [stD]
  exact ⟨q.1, q.2, ⟨rfl, rfl⟩, hq⟩

set_option maxRecDepth 100000 in
theorem c_run (a : Na) (s : List UInt8) (h : okNa a = true) (h2 : a.fs.length ≤ 9223372036854775807) (hs : s.length ≤ 1000) : DCalls Try.prog 87 [.d a.d, sA s] fun r => ∃ q, r = stD q.1 q.2 ∧ BitsOf q (runE a s) := by
  refine dcalls_intro Ty.mixed Try.func87 rfl rfl rfl [2] (by kernel_rfl) (by simp) ?_
  obtain ⟨k0, k1, k2, k3, k4, k5, k6⟩ := okNa_of h
  simp [Na.d]
  refine .ddat (c_first a h h2) rfl (by simp [Na.d]) ?_
  rintro _ ⟨q0, rfl, hq0⟩
  simp [stD]
  refine LoopVC.at { g : GC // g.i ≤ s.length ∧ BitsOf g.p (runE a (s.take g.i)) } (fun g => [(1, sA s), (2, .dp [iA a.n, .d (.list (a.ms.map Mv.d)), .d (intsD a.fs), .d (intsD a.es)]), (4, .ptr 400 0), (5, .ptr 500 0), (10, iA s.length), (11, iA g.1.i)]) (fun g => [(400, .bx [.d (.int .u64 0), .d (.int .u64 0)]), (500, .bx [.d (.int .u64 g.1.p.1), .d (.int .u64 g.1.p.2)])]) [400, 500] (fun g => s.length - g.1.i) ⟨⟨0, true, q0, []⟩, by simp, by simpa [runE] using hq0⟩ (by simp) (by simp) ?_
  rintro ⟨⟨i, ag, u, zs⟩, hi, hu⟩
  simp only at hi hu
  rcases Nat.lt_or_ge i s.length with h' | h'
  · have hsn := runE_snoc a h'
    simp [h']
    refine .one (sch [.pur 0, .pur 1, .pur 2, .pur 3, .eff 4 [0, 1], .eff 5 [], .eff 6 []]) (by kernel_rfl) ?_
    simp
    refine .dval (c_letter s i h') rfl (by simp) rfl ?_
    simp
    refine .ddat (c_step a k1 k5 (by omega) u _ hu (runE_len _ _) (ltr s[i])) rfl (by simp [Na.d, stD]) ?_
    rintro _ ⟨q, rfl, hq⟩
    rw [← hsn] at hq
    simp [stD]
    exact ⟨⟨i + 1, true, q, []⟩, .mk (by simp; exact wrap64 (by omega) (by omega)) (by simp), ⟨h', hq⟩, by simp; omega⟩
  · have : i = s.length := by omega
    subst this
    rw [List.take_length] at hu
    simp
    exact ⟨u.1, u.2, ⟨rfl, rfl⟩, hu⟩

/-- Is the word in the language of a valid automaton? -/
def accNa (a : Na) (s : List UInt8) : Bool := okNa a && wordOk s && a.es.any fun x => (runE a s).getD x.toNat false
set_option maxRecDepth 100000 in
theorem c_NfaAccepts (a : Na) (s : List UInt8) (h1 : a.ms.length ≤ 9223372036854775807) (h2 : a.fs.length ≤ 9223372036854775807) (h3 : a.es.length ≤ 9223372036854775807) (hs : s.length ≤ 9223372036854775807) : DCalls Try.prog 35 [.d a.d, sA s] fun r => r = .bool (accNa a s) := by
  refine dcalls_intro Ty.mixed Try.func35 rfl rfl rfl [2] (by kernel_rfl) (by simp) ?_
  simp [Na.d]
  refine .one (sch [.pur 0, .eff 1 [], .pur 2, .pur 3, .eff 4 [], .pur 5, .pur 6, .pur 7, .pur 8, .pur 9, .eff 10 [7], .eff 11 [], .pur 12, .pur 13]) (by kernel_rfl) ?_
  simp
  refine .dval (c_NfaValid a h1 h2 h3) rfl (by simp [Na.d]) rfl ?_
  simp
  refine .flat (fun _ => c_WordValid s hs) rfl (by simp) rfl (by simp) ?_
  simp
  cases hv : okNa a && wordOk s with
  | false =>
    refine .go (by kernel_rfl) (by simp) (by simp) (fun _ => ?_)
    simp
    refine .go (by kernel_rfl) (by simp) (by simp) (fun _ => ?_)
    simp [accNa, hv]
  | true =>
    have hv' := hv
    simp only [Bool.and_eq_true] at hv'
    obtain ⟨v1, v2⟩ := hv'
    have hwl := letters_len v2
    obtain ⟨k0, k1, k2, k3, k4, k5, k6⟩ := okNa_of v1
    refine .go (by kernel_rfl) (by simp) (fun _ => ?_) (by simp)
    simp
    refine .ddat (c_run a s v1 h2 (by omega)) rfl (by simp [Na.d]) ?_
    rintro _ ⟨q, rfl, hq⟩
    simp
    refine .flat (fun _ => c_ends a q.1 q.2 h3 hq.lt1 hq.lt2 (fun x hx => by have := k4 x hx; omega)) rfl (by simp [Na.d]) rfl (by simp) ?_
    simp [accNa, v1, v2]
    have e : a.es.any (fun x => stHas q.1 q.2 x.toNat) = a.es.any (fun x => (runE a s).getD x.toNat false) := by
      rw [Bool.eq_iff_iff, List.any_eq_true, List.any_eq_true]
      constructor
      · rintro ⟨x, hx, hb⟩
        have := k4 x hx
        exact ⟨x, hx, by rw [← hq.bit x.toNat (by omega)]; exact hb⟩
      · rintro ⟨x, hx, hb⟩
        have := k4 x hx
        exact ⟨x, hx, by rw [hq.bit x.toNat (by omega)]; exact hb⟩
    simpa using e

end Go.Fw
