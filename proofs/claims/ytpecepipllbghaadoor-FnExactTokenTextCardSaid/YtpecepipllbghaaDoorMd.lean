/- Automata with choices: what the specification computes of their sets of states; the law about words. -/
import Derived.Test.YtpecepipllbghaaDoorLx
import Derived.Test.YtpecepipllbghaaDoorMc
import Derived.Test.YtpecepipllbghaaDoorFwb
set_option linter.unusedSimpArgs false
set_option linter.unusedVariables false
namespace Go.Fw
open Go Go.Proofs

/-! ### The specification's -/

theorem c_l7Name (xs : List Int) (n : Int) (hl : xs.length ≤ 9223372036854775807) : DCalls Tryd.prog 95 [.d (intsD xs), iA n] fun y => y = iD (idxI (fun x => decide (x = n)) xs) := by
  refine dcalls_intro Ty.mixed Tryd.func95 rfl rfl rfl [] (by kernel_rfl) (by simp) ?_
  simp
  refine LoopVC.at { i : Nat // i ≤ xs.length ∧ ∀ j (h : j < xs.length), j < i → decide (xs[j] = n) = false } (fun i => [(0, .d (intsD xs)), (1, iA n), (5, iA i.1)]) (fun _ => []) [] (fun i => xs.length - i.1) ⟨0, by simp⟩ (by simp) (by simp) ?_
  rintro ⟨i, hi, hp⟩
  rcases Nat.lt_or_ge i xs.length with h | h
  · simp [h]
    exact ⟨fun ht => (idxI_found h hp (by simpa using ht)).symm, fun hf => ⟨i + 1, .mk (by simp; exact wrap64 (by omega) (by omega)) (by simp), ⟨h, by simpa using upto_succ hp h (by simpa using hf)⟩, by omega⟩⟩
  · simp [Nat.not_lt.2 h]
    exact (idxI_none h hp).symm

theorem setD_bool (xs : List Bool) (k : Nat) (b : Bool) : (xs.map bD).set k (.bool b) = (xs.set k b).map bD := by rw [List.map_set]

set_option maxRecDepth 100000 in
theorem c_l8CloseG (a : Na) (hn : a.n ≤ 1000) (hm : msOk a.n a.ms) (h1 : a.ms.length ≤ 9223372036854775807) (xs : List Bool) (hl : xs.length = a.n.toNat) : DCalls Tryd.prog 96 [.d a.d, .d (bsD xs)] fun r => r = bsD (closeE a.ms xs) := by
  refine dcalls_intro Ty.mixed Tryd.func96 rfl rfl rfl [2] (by kernel_rfl) (by simp) ?_
  simp [Na.d]
  refine ⟨⟨by rintro y (⟨_, rfl⟩ | ⟨_, rfl⟩) <;> simp, by omega, by omega⟩, ?_⟩
  refine LoopVC.at { g : GC // g.xs.length = a.n.toNat ∧ closeE a.ms g.xs = closeE a.ms xs ∧ (g.ag = false → passE a.ms g.xs = g.xs) } (fun g => [(2, .dp [iA a.n, .d (.list (a.ms.map Mv.d)), .d (intsD a.fs), .d (intsD a.es)]), (5, .sl 1 900 0 xs.length), (6, .d (.bool g.1.ag))]) (fun g => [(900, .ar 1 (g.1.xs.map bD))]) [900] (fun g => falses g.1.xs + if g.1.ag then 1 else 0) ⟨⟨0, true, (0, 0), xs⟩, hl, rfl, by simp⟩ (by simp) (by simp) ?_
  rintro ⟨⟨_, again, q, ys⟩, hyl, hc, ha⟩
  simp only at hyl hc ha
  cases again with
  | false =>
    simp
    rw [← hc, closeE_fix (ha rfl)]
    exact ⟨by omega, List.take_of_length_le (by simp; omega)⟩
  | true =>
    simp
    refine LoopVC.at { g : GC // g.i ≤ a.ms.length ∧ g.xs = passE (a.ms.take g.i) ys ∧ (g.ag = !decide (g.xs = ys)) ∧ falses g.xs ≤ falses ys ∧ (¬ g.xs = ys → falses g.xs < falses ys) } (fun g => [(2, .dp [iA a.n, .d (.list (a.ms.map Mv.d)), .d (intsD a.fs), .d (intsD a.es)]), (5, .sl 1 900 0 xs.length), (6, .d (.bool g.1.ag)), (7, iA g.1.i)]) (fun g => [(900, .ar 1 (g.1.xs.map bD))]) [900] (fun g => a.ms.length - g.1.i) ⟨⟨0, false, q, ys⟩, by simp, by simp [passE], by simp, Nat.le_refl _, fun h => (h rfl).elim⟩ (by simp) (by simp) ?_
    rintro ⟨⟨i, ag, u, zs⟩, hi, hz, hag, hf1, hf2⟩
    simp only at hi hz hag hf1 hf2
    have hzl : zs.length = a.n.toNat := by rw [hz, passE_len, hyl]
    rcases Nat.lt_or_ge i a.ms.length with h | h
    · have hmo := hm _ (List.getElem_mem h)
      have hsn := passE_snoc a.ms ys h
      rw [← hz] at hsn
      have hs1 := stepE_falses zs a.ms[i]
      generalize hri : a.ms[i] = m at *
      obtain ⟨mf, ml, mt⟩ := m
      simp only [inst] at hmo
      obtain ⟨kf, rfl⟩ : ∃ k : Nat, mf = k := ⟨mf.toNat, by omega⟩
      obtain ⟨kt, rfl⟩ : ∃ k : Nat, mt = k := ⟨mt.toNat, by omega⟩
      have hkf : kf < zs.length := by omega
      have hkt : kt < zs.length := by omega
      have g1 := getD_row (xs := zs) (i := kf) false hkf
      have g2 := getD_row (xs := zs) (i := kt) false hkt
      have hstd : stepE zs ⟨kf, ml, kt⟩ = if ml = -1 ∧ zs.getD kf false = true ∧ zs.getD kt false = false then zs.set kt true else zs := rfl
      generalize hbf : zs.getD kf false = bf at *
      generalize hbt : zs.getD kt false = bt at *
      simp [h, hri, Mv.d, hzl, hl, g1, g2, show kf < a.n.toNat by omega, show kt < a.n.toNat by omega]
      refine ⟨fun c1 => ⟨c1, by omega⟩, fun c1 c2 => ⟨⟨c1, c2⟩, by omega⟩, fun c1 c2 c3 => ?_, fun hno => ?_⟩
      · have hst : stepE zs ⟨kf, ml, kt⟩ = zs.set kt true := by rw [hstd, if_pos ⟨c1, c2, c3⟩]
        have hne : zs.set kt true ≠ zs := by
          intro e
          have := getD_set_true zs kt kt hkt
          rw [e, hbt, c3] at this; simp at this
        rw [hst] at hsn hs1
        have hlt := hs1.2 hne
        have hney : ¬ zs.set kt true = ys := by
          intro e; rw [e] at hlt; omega
        exact ⟨by omega, ⟨i + 1, true, u, zs.set kt true⟩, .mk (by simp; exact wrap64 (by omega) (by omega)) (by simp [← setD_bool]), ⟨h, hsn.symm, by simp [hney], by show falses (zs.set kt true) ≤ _; omega, fun _ => by show falses (zs.set kt true) < _; omega⟩, by simp; omega⟩
      · have hst : stepE zs ⟨kf, ml, kt⟩ = zs := by
          rw [hstd, if_neg]
          rintro ⟨d1, d2, d3⟩
          have := hno d1 d2
          rw [d3] at this; cases this
        rw [hst] at hsn
        exact ⟨⟨i + 1, ag, u, zs⟩, .mk (by simp; exact wrap64 (by omega) (by omega)) (by simp), ⟨h, hsn.symm, hag, hf1, hf2⟩, by simp; omega⟩
    · have : i = a.ms.length := by omega
      subst this
      rw [List.take_length] at hz
      have hc2 : closeE a.ms zs = closeE a.ms xs := by rw [hz, closeE_pass, hc]
      simp
      refine ⟨⟨0, ag, u, zs⟩, .mk (by simp) (by simp), ⟨hzl, hc2, fun h0 => ?_⟩, ?_⟩
      · have h0 : ag = false := h0
        rw [h0] at hag
        have : zs = ys := by simpa using hag
        show passE a.ms zs = zs
        rw [this] at hz ⊢; exact hz.symm
      · show (falses zs + if ag = true then 1 else 0) < falses ys + 1
        by_cases h0 : zs = ys
        · have : ag = false := by simpa [h0] using hag
          rw [this, h0]; simp
        · have := hf2 h0
          split <;> omega

theorem c_l8Close (a : Na) (hn : a.n ≤ 40) (hm : msOk a.n a.ms) (h1 : a.ms.length ≤ 9223372036854775807) (xs : List Bool) (hl : xs.length = a.n.toNat) : DCalls Tryd.prog 96 [.d a.d, .d (bsD xs)] fun r => r = bsD (closeE a.ms xs) := c_l8CloseG a (by omega) hm h1 xs hl

set_option maxRecDepth 100000 in
theorem c_l8FlagsG (xs : List Int) (n : Int) (hn : 0 ≤ n ∧ n ≤ 1000) (hx : ∀ x ∈ xs, 0 ≤ x ∧ x < n) (hl : xs.length ≤ 9223372036854775807) : DCalls Tryd.prog 97 [.d (intsD xs), iA n] fun r => r = bsD (flagsE n.toNat xs) := by
  refine dcalls_intro Ty.mixed Tryd.func97 rfl rfl rfl [] (by kernel_rfl) (by simp) ?_
  obtain ⟨N, rfl⟩ : ∃ k : Nat, n = k := ⟨n.toNat, by omega⟩
  simp
  refine ⟨by omega, ?_⟩
  refine LoopVC.at { i : Nat // i ≤ xs.length } (fun i => [(0, .d (intsD xs)), (5, .sl 1 800 0 N), (6, iA i.1)]) (fun i => [(800, .ar 1 ((flagsE N (xs.take i.1)).map bD))]) [800] (fun i => xs.length - i.1) ⟨0, by simp⟩ (by simp) (by simp [flagsE]) ?_
  rintro ⟨i, hi⟩
  have hfl := flagsE_len N (xs.take i)
  rcases Nat.lt_or_ge i xs.length with h | h
  · have hb := hx _ (List.getElem_mem h)
    have hsn := flagsE_snoc N xs h
    generalize hxi : xs[i] = x at *
    obtain ⟨k, rfl⟩ : ∃ k : Nat, x = k := ⟨x.toNat, by omega⟩
    simp [h, hxi, hfl]
    exact ⟨by omega, i + 1, .mk (by simp; exact wrap64 (by omega) (by omega)) (by simp [hsn]), h, by omega⟩
  · have : i = xs.length := by omega
    subst this
    simp [flagsE_len]
    exact List.take_of_length_le (by simp [flagsE_len])

theorem c_l8Flags (xs : List Int) (n : Int) (hn : 0 ≤ n ∧ n ≤ 40) (hx : ∀ x ∈ xs, 0 ≤ x ∧ x < n) (hl : xs.length ≤ 9223372036854775807) : DCalls Tryd.prog 97 [.d (intsD xs), iA n] fun r => r = bsD (flagsE n.toNat xs) := c_l8FlagsG xs n (by omega) hx hl

set_option maxRecDepth 100000 in
theorem c_l8StepG (a : Na) (hn : 0 ≤ a.n ∧ a.n ≤ 1000) (hm : msOk a.n a.ms) (h1 : a.ms.length ≤ 9223372036854775807) (xs : List Bool) (hl : xs.length = a.n.toNat) (c : Int) : DCalls Tryd.prog 98 [.d a.d, .d (bsD xs), iA c] fun r => r = bsD (nextE a.n.toNat a.ms xs c) := by
  refine dcalls_intro Ty.mixed Tryd.func98 rfl rfl rfl [3] (by kernel_rfl) (by simp) ?_
  obtain ⟨N, hN⟩ : ∃ k : Nat, a.n = k := ⟨a.n.toNat, by omega⟩
  have hNt : a.n.toNat = N := by omega
  simp [Na.d, hN]
  refine ⟨by omega, ?_⟩
  refine LoopVC.at { i : Nat // i ≤ a.ms.length } (fun i => [(1, .d (bsD xs)), (2, iA c), (3, .dp [iA N, .d (.list (a.ms.map Mv.d)), .d (intsD a.fs), .d (intsD a.es)]), (7, .sl 1 1200 0 N), (8, iA i.1)]) (fun i => [(1200, .ar 1 ((jumpE N (a.ms.take i.1) xs c).map bD))]) [1200] (fun i => a.ms.length - i.1) ⟨0, by simp⟩ (by simp) (by simp [jumpE]) ?_
  rintro ⟨i, hi⟩
  have hjl := jumpE_len N (a.ms.take i) xs c
  rcases Nat.lt_or_ge i a.ms.length with h | h
  · have hmo := hm _ (List.getElem_mem h)
    have hsn := jumpE_snoc N a.ms xs c h
    generalize hz : jumpE N (a.ms.take i) xs c = zs at *
    generalize hri : a.ms[i] = m at *
    obtain ⟨mf, ml, mt⟩ := m
    simp only [inst] at hmo
    obtain ⟨kf, rfl⟩ : ∃ k : Nat, mf = k := ⟨mf.toNat, by omega⟩
    obtain ⟨kt, rfl⟩ : ∃ k : Nat, mt = k := ⟨mt.toNat, by omega⟩
    have hkf : kf < xs.length := by omega
    have hkt : kt < zs.length := by omega
    have g1 := getD_row (xs := xs) (i := kf) false hkf
    have hstd : stepF xs c zs ⟨kf, ml, kt⟩ = if ml = c ∧ xs.getD kf false = true then zs.set kt true else zs := rfl
    generalize hbf : xs.getD kf false = bf at *
    simp [h, hri, Mv.d, hjl, hl, hNt, g1, show kf < N by omega, show kt < N by omega]
    refine ⟨fun c1 c2 => ?_, fun hno => ?_⟩
    · rw [hstd, if_pos ⟨c1, c2⟩] at hsn
      exact ⟨i + 1, .mk (by simp; exact wrap64 (by omega) (by omega)) (by simp [hsn]), h, by omega⟩
    · rw [hstd, if_neg (by rintro ⟨d1, d2⟩; rw [hno d1] at d2; cases d2)] at hsn
      exact ⟨i + 1, .mk (by simp; exact wrap64 (by omega) (by omega)) (by simp [hsn]), h, by omega⟩
  · have : i = a.ms.length := by omega
    subst this
    have hc := c_l8CloseG a hn.2 hm h1 (jumpE N a.ms xs c) (by rw [jumpE_len, hNt])
    have hjl := jumpE_len N a.ms xs c
    simp only [Na.d, hN] at hc
    simp
    refine .ddropE hc rfl ?_ (by simp [hjl]) ?_
    · simp
      exact List.take_of_length_le (by simp [hjl])
    rintro _ rfl
    simp [nextE]

theorem c_l8Step (a : Na) (hn : 0 ≤ a.n ∧ a.n ≤ 40) (hm : msOk a.n a.ms) (h1 : a.ms.length ≤ 9223372036854775807) (xs : List Bool) (hl : xs.length = a.n.toNat) (c : Int) : DCalls Tryd.prog 98 [.d a.d, .d (bsD xs), iA c] fun r => r = bsD (nextE a.n.toNat a.ms xs c) := c_l8StepG a (by omega) hm h1 xs hl c

theorem c_l8List (xs : List Bool) (hl : xs.length ≤ 1000) : DCalls Tryd.prog 92 [.d (bsD xs)] fun r => r = intsD (listE xs) := by
  refine dcalls_intro Ty.mixed Tryd.func92 rfl rfl rfl [] (by kernel_rfl) (by simp) ?_
  simp
  refine LoopVC.at { i : Nat // i ≤ xs.length } (fun i => [(0, .d (bsD xs)), (3, .sl 1 500 0 (listE (xs.take i.1)).length), (4, iA i.1)]) (fun i => [(500, .ar 1 ((listE (xs.take i.1)).map iD))]) [500] (fun i => xs.length - i.1) ⟨0, by simp⟩ (by simp [listE]) (by simp [listE]) ?_
  rintro ⟨i, hi⟩
  rcases Nat.lt_or_ge i xs.length with h | h
  · have hsn := listE_snoc xs h
    have hll : (listE (xs.take i)).length ≤ i := by
      have := List.length_filter_le (fun k => (xs.take i).getD k false) (List.range (xs.take i).length)
      simp only [listE, List.length_map]
      simp at this ⊢; omega
    generalize listE (xs.take i) = ls at *
    simp [h]
    refine ⟨fun hb => ?_, fun hb => ?_⟩
    · rw [if_pos hb] at hsn
      exact ⟨by omega, i + 1, .mk (by simp [hsn]; exact wrap64 (by omega) (by omega)) (by simp [hsn]), h, by omega⟩
    · rw [if_neg (by simp [hb]), List.append_nil] at hsn
      exact ⟨i + 1, .mk (by simp [hsn]; exact wrap64 (by omega) (by omega)) (by simp [hsn]), h, by omega⟩
  · have : i = xs.length := by omega
    subst this
    simp
    exact List.take_of_length_le (by simp)

theorem any_take_succ {α : Type} {p : α → Bool} {xs : List α} {i : Nat} (h : i < xs.length) (hp : ∀ j (h : j < xs.length), j < i → p xs[j] = false) (hi : p xs[i] = false) : ∀ j (h : j < xs.length), j < i + 1 → p xs[j] = false := upto_succ hp h hi

end Go.Fw
