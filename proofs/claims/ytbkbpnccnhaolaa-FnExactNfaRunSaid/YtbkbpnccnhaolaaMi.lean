/- The laws that say that sets of states are exact. -/
import Derived.Test.YtbkbpnccnhaolaaMh
set_option linter.unusedSimpArgs false
set_option linter.unusedVariables false
namespace Go.Fw
open Go Go.Proofs

theorem listE_le (xs : List Bool) : (listE xs).length ≤ xs.length := by
  have := List.length_filter_le (fun k => xs.getD k false) (List.range xs.length)
  simp only [listE, List.length_map]
  simpa using this
theorem row_flat (xs : List Int) : ([(901, Blk.ar 1 (xs.map iD))] : List (Nat × Blk)).all (fun p => p.2.flatR) = true := by simp [Blk.flatR, D.flat, D.one]

set_option maxRecDepth 100000 in
theorem c_sNfaStep (a : Na) (f : List Int) (c : Int) (h : a.fine) (hf : f.length ≤ 9223372036854775807) : DCalls Try.prog 32 [.d a.d, .d (intsD f), iA c] fun r => r = intsD (if stepOk a f c then stepNa a f c else []) := by
  refine dcalls_intro Ty.mixed Try.func32 rfl rfl rfl [3] (by kernel_rfl) (by simp) ?_
  simp [Na.d]
  refine .dval (c_sNfaValid a h.ms h.fs h.es) rfl (by simp [Na.d]) rfl ?_
  simp
  refine .flat (fun _ => c_l8Set f a.n hf) rfl (by simp) rfl (by simp) ?_
  simp
  refine .flat (fun _ => c_l1In _ _ _) rfl (by simp) rfl (by simp) ?_
  simp
  refine ⟨fun hno => ?_, fun v1 v2 v3 => ?_⟩
  · have : stepOk a f c = false := by rcases hno with (hno | hno) | hno <;> simp [stepOk, hno]
    simp [this]
  · have hok : stepOk a f c = true := by simp [stepOk, v1, v2, v3]
    obtain ⟨k0, k1, k2, k3, k4, k5, k6⟩ := okNa_of v1
    have hst := stOk_mem (n := a.n) (by omega) v2
    refine .one (sch [.pur 0, .pur 1, .pur 2, .pur 3, .pur 5, .eff 4 [0, 5], .eff 6 [], .eff 7 [], .pur 8]) (by kernel_rfl) ?_
    simp
    refine .ddat (c_l8Flags f a.n ⟨k0, k1⟩ hst hf) rfl (by simp) ?_
    rintro _ rfl
    simp
    refine .ddat (c_l8Step a ⟨k0, k1⟩ k5 (by omega) _ (flagsE_len _ _) c) rfl (by simp [Na.d]) ?_
    rintro _ rfl
    simp
    refine .ddat (c_l8List _ (by rw [nextE_len]; omega)) rfl (by simp) ?_
    rintro _ rfl
    simp [hok, stepNa]

set_option maxRecDepth 100000 in
theorem c_FnExactNfaClose (a : Na) (f : List Int) (h : a.fine) (hf : f.length ≤ 9223372036854775807) : DCalls Try.prog 6 [.d a.d, .d (intsD f)] fun y => y = .bool true := by
  refine dcalls_intro Ty.mixed Try.func6 rfl rfl rfl [2] (by kernel_rfl) (by simp) ?_
  simp [Na.d]
  intro hfl
  refine .ddat (c_szNfa a 1048576 (by omega) h) rfl (by simp) ?_
  rintro _ ⟨v, rfl, h1, h2, h3⟩
  simp
  intro hz
  have hsm := h3 hz
  have m1 := hsm.ms
  have m2 := hsm.fs
  have m3 := hsm.es
  refine .ddat (c_toNfa a hsm) rfl (by simp [Na.d]) ?_
  rintro _ rfl
  simp
  refine .ddat (c_toIntS f (by omega)) rfl (by simp) ?_
  rintro _ rfl
  simp
  have hW := c_sNfaClose a f h hf
  have hG := c_NfaClose a f h hf
  have hL : closeOk a f = true → (closeNa a f).length ≤ 40 := by
    intro hok'
    simp only [closeOk, Bool.and_eq_true] at hok'
    obtain ⟨k0, k1, k2, k3, k4, k5, k6⟩ := okNa_of hok'.1
    have := listE_le (closeE a.ms (flagsE a.n.toNat f))
    rw [closeE_len, flagsE_len] at this
    show (closeNa a f).length ≤ 40
    unfold closeNa; omega
  generalize closeNa a f = L at *
  refine .ddat hW rfl (by simp [Na.d]) ?_
  rintro _ rfl
  cases hok : closeOk a f with
  | true =>
    rw [hok] at hG
    have hL := hL hok
    simp
    refine .freshF 1901 false (c_toNfaF a hsm) rfl (by simp [Na.d]) (by simp) (by omega) ?_
    rintro _ _ ⟨rfl, rfl⟩
    refine ⟨⟨by simp [naRes], by simp [naRes]; omega, .inr (.inl rfl)⟩, ?_⟩
    rw [naAg_back _ _ _ _ _ (by omega) (by omega) (by omega) (by omega) (by omega) (by omega)]
    simp only [naRes]
    rw [after_new3 (by omega) (by omega) (by omega) (by omega) (by omega) (by omega) rfl rfl rfl]
    simp [naAg]
    refine .freshS 1911 (c_toIntSF f (by omega)) (by omega) (by simp) rfl (by simp) ?_
    rintro _ _ ⟨rfl, rfl⟩
    simp
    refine .freshF 1921 false hG rfl (by simp [Na.d, takeM]) (by simp) (by omega) ?_
    rintro _ _ ⟨rfl, rfl⟩
    simp only [rowAV, rowRes, if_true]
    refine ⟨⟨by simp, by simp, .inr (.inr ⟨rfl, row_flat _⟩)⟩, ?_⟩
    rw [after_new1 (by omega) rfl]
    simp [AV.back, AV.kp, AV.ren, outE, renOf, posOf]
    refine .dvalE (c_eqIntS L L (by omega)) rfl (by simp [takeM]) (by simp) rfl ?_
    simp
    refine .one (sch [.pur 0, .pur 1, .eff 2 [0], .eff 3 [], .pur 4]) (by kernel_rfl) ?_
    simp
    refine .ddat (c_toNfa a hsm) rfl (by simp [Na.d]) ?_
    rintro _ rfl
    simp
    refine .dvalE (c_eqNfa a a hsm) rfl (by simp [Na.d, takeM]) (by simp) rfl ?_
    simp
    refine .ddat (c_toIntS f (by omega)) rfl (by simp) ?_
    rintro _ rfl
    simp
    refine .dvalE (c_eqIntS f f hf) rfl (by simp [takeM]) (by simp) rfl ?_
    simp
    refine .lend3 1901 1902 1903 (by omega) (by omega) (by omega) (c_markNfa a 1 (by omega) (by omega)) (by simp [AV.ren, AV.renL, g3]) ⟨rfl, rfl, rfl⟩ (by simp) ?_
    rintro _ _ _ _ ⟨rfl, e3⟩
    simp only [List.cons.injEq, and_true] at e3
    obtain ⟨rfl, rfl, rfl⟩ := e3
    simp
    refine .lend1 1911 (c_markIntS f (1 + 3 * (a.ms.length : Int) + a.fs.length + a.es.length) (by omega) (by omega)) (by simp [AV.ren, g1]) rfl (by simp) ?_
    rintro _ _ ⟨rfl, e1⟩ _
    simp only [List.cons.injEq, and_true] at e1
    subst e1
    simp [show ¬ (1 + 3 * (a.ms.length : Int) + a.fs.length + a.es.length + f.length < 0) by omega]
    refine .flatE (fun _ => (c_eqIntS L L (by omega))) rfl (by simp [takeM]) (by simp) rfl (by simp) ?_
    simp
    refine .lend1 1921 (c_markIntS L 1 (by omega) (by omega)) (by simp [AV.ren, g1]) rfl (by simp) ?_
    rintro _ _ ⟨rfl, e4⟩ _
    simp only [List.cons.injEq, and_true] at e4
    subst e4
    have hml := marksI_len 1 L.length
    have hmt := takeM iD (marksI 1 L.length)
    rw [hml] at hmt
    have hnn : ¬ (1 + (L.length : Int) < 0) := by omega
    simp
    refine .dvalE (c_heldIntS L.length 1 (by omega) (by omega)) rfl (by simp [hmt]) (by simp [hml]) rfl ?_
    simp [hnn]
    refine .ddat (c_toNfa a hsm) rfl (by simp [Na.d]) ?_
    rintro _ rfl
    simp
    refine .ddat (c_toIntS f (by omega)) rfl (by simp) ?_
    rintro _ rfl
    simp
    refine .freshF 1931 false hG rfl (by simp [Na.d, takeM]) (by simp) (by omega) ?_
    rintro _ _ ⟨rfl, rfl⟩
    simp only [rowAV, rowRes, if_true]
    refine ⟨⟨by simp, by simp, .inr (.inr ⟨rfl, row_flat _⟩)⟩, ?_⟩
    rw [after_new1 (by omega) rfl]
    simp [AV.back, AV.kp, AV.ren, outE, renOf, posOf]
    refine .dvalE (c_eqIntS L L (by omega)) rfl (by simp [takeM]) (by simp) rfl ?_
    simp
    refine .dvalE (c_heldIntS L.length 1 (by omega) (by omega)) rfl (by simp [hmt]) (by simp [hml]) rfl ?_
    simp [hnn]
  | false =>
    rw [hok] at hG
    simp
    refine .freshF 1901 false (c_toNfaF a hsm) rfl (by simp [Na.d]) (by simp) (by omega) ?_
    rintro _ _ ⟨rfl, rfl⟩
    refine ⟨⟨by simp [naRes], by simp [naRes]; omega, .inr (.inl rfl)⟩, ?_⟩
    rw [naAg_back _ _ _ _ _ (by omega) (by omega) (by omega) (by omega) (by omega) (by omega)]
    simp only [naRes]
    rw [after_new3 (by omega) (by omega) (by omega) (by omega) (by omega) (by omega) rfl rfl rfl]
    simp [naAg]
    refine .freshS 1911 (c_toIntSF f (by omega)) (by omega) (by simp) rfl (by simp) ?_
    rintro _ _ ⟨rfl, rfl⟩
    simp
    refine .freshF 1921 false hG rfl (by simp [Na.d, takeM]) (by simp) (by omega) ?_
    rintro _ _ ⟨rfl, rfl⟩
    simp only [rowAV, rowRes, Bool.false_eq_true, if_false]
    refine ⟨⟨by simp, by simp, .inr (.inr ⟨rfl, rfl⟩)⟩, ?_⟩
    rw [after_none]
    simp [AV.back, AV.kp, AV.ren]
    refine .dvalE (c_eqIntS [] [] (by simp)) rfl (by simp [takeM]) (by simp) rfl ?_
    simp
    refine .one (sch [.pur 0, .pur 1, .eff 2 [0], .eff 3 [], .pur 4]) (by kernel_rfl) ?_
    simp
    refine .ddat (c_toNfa a hsm) rfl (by simp [Na.d]) ?_
    rintro _ rfl
    simp
    refine .dvalE (c_eqNfa a a hsm) rfl (by simp [Na.d, takeM]) (by simp) rfl ?_
    simp
    refine .ddat (c_toIntS f (by omega)) rfl (by simp) ?_
    rintro _ rfl
    simp
    refine .dvalE (c_eqIntS f f hf) rfl (by simp [takeM]) (by simp) rfl ?_
    simp
    refine .lend3 1901 1902 1903 (by omega) (by omega) (by omega) (c_markNfa a 1 (by omega) (by omega)) (by simp [AV.ren, AV.renL, g3]) ⟨rfl, rfl, rfl⟩ (by simp) ?_
    rintro _ _ _ _ ⟨rfl, e3⟩
    simp only [List.cons.injEq, and_true] at e3
    obtain ⟨rfl, rfl, rfl⟩ := e3
    simp
    refine .lend1 1911 (c_markIntS f (1 + 3 * (a.ms.length : Int) + a.fs.length + a.es.length) (by omega) (by omega)) (by simp [AV.ren, g1]) rfl (by simp) ?_
    rintro _ _ ⟨rfl, e1⟩ _
    simp only [List.cons.injEq, and_true] at e1
    subst e1
    simp [show ¬ (1 + 3 * (a.ms.length : Int) + a.fs.length + a.es.length + f.length < 0) by omega]
    refine .flatE (fun _ => (c_eqIntS [] [] (by simp))) rfl (by simp [takeM]) (by simp) rfl (by simp) ?_
    simp
    refine .dvalE (c_markInt0 1) rfl (by simp) (by simp) rfl ?_
    simp
    refine .dvalE (c_heldIntS 0 1 (by omega) (by omega)) rfl (by simp [marksI]) (by simp) rfl ?_
    simp
    refine .ddat (c_toNfa a hsm) rfl (by simp [Na.d]) ?_
    rintro _ rfl
    simp
    refine .ddat (c_toIntS f (by omega)) rfl (by simp) ?_
    rintro _ rfl
    simp
    refine .freshF 1931 false hG rfl (by simp [Na.d, takeM]) (by simp) (by omega) ?_
    rintro _ _ ⟨rfl, rfl⟩
    simp only [rowAV, rowRes, Bool.false_eq_true, if_false]
    refine ⟨⟨by simp, by simp, .inr (.inr ⟨rfl, rfl⟩)⟩, ?_⟩
    rw [after_none]
    simp [AV.back, AV.kp, AV.ren]
    refine .dvalE (c_eqIntS [] [] (by simp)) rfl (by simp [takeM]) (by simp) rfl ?_
    simp
    refine .dvalE (c_heldIntS 0 1 (by omega) (by omega)) rfl (by simp [marksI]) (by simp) rfl ?_
    simp

set_option maxRecDepth 100000 in
theorem c_FnExactNfaStep (a : Na) (f : List Int) (c : Int) (h : a.fine) (hf : f.length ≤ 9223372036854775807) (_ : -9223372036854775808 ≤ c) (_ : c ≤ 9223372036854775807) : DCalls Try.prog 7 [.d a.d, .d (intsD f), iA c] fun y => y = .bool true := by
  refine dcalls_intro Ty.mixed Try.func7 rfl rfl rfl [3] (by kernel_rfl) (by simp) ?_
  simp [Na.d]
  intro hfl
  refine .ddat (c_szNfa a 1048576 (by omega) h) rfl (by simp) ?_
  rintro _ ⟨v, rfl, h1, h2, h3⟩
  simp
  intro hz
  have hsm := h3 hz
  have m1 := hsm.ms
  have m2 := hsm.fs
  have m3 := hsm.es
  refine .ddat (c_toNfa a hsm) rfl (by simp [Na.d]) ?_
  rintro _ rfl
  simp
  refine .ddat (c_toIntS f (by omega)) rfl (by simp) ?_
  rintro _ rfl
  simp
  have hW := c_sNfaStep a f c h hf
  have hG := c_NfaStep a f c h hf
  have hL : stepOk a f c = true → (stepNa a f c).length ≤ 40 := by
    intro hok'
    simp only [stepOk, Bool.and_eq_true] at hok'
    obtain ⟨k0, k1, k2, k3, k4, k5, k6⟩ := okNa_of hok'.1.1
    have := listE_le (nextE a.n.toNat a.ms (flagsE a.n.toNat f) c)
    rw [nextE_len] at this
    show (stepNa a f c).length ≤ 40
    unfold stepNa; omega
  generalize stepNa a f c = L at *
  refine .ddat hW rfl (by simp [Na.d]) ?_
  rintro _ rfl
  cases hok : stepOk a f c with
  | true =>
    rw [hok] at hG
    have hL := hL hok
    simp
    refine .freshF 1901 false (c_toNfaF a hsm) rfl (by simp [Na.d]) (by simp) (by omega) ?_
    rintro _ _ ⟨rfl, rfl⟩
    refine ⟨⟨by simp [naRes], by simp [naRes]; omega, .inr (.inl rfl)⟩, ?_⟩
    rw [naAg_back _ _ _ _ _ (by omega) (by omega) (by omega) (by omega) (by omega) (by omega)]
    simp only [naRes]
    rw [after_new3 (by omega) (by omega) (by omega) (by omega) (by omega) (by omega) rfl rfl rfl]
    simp [naAg]
    refine .freshS 1911 (c_toIntSF f (by omega)) (by omega) (by simp) rfl (by simp) ?_
    rintro _ _ ⟨rfl, rfl⟩
    simp
    refine .freshF 1921 false hG rfl (by simp [Na.d, takeM]) (by simp) (by omega) ?_
    rintro _ _ ⟨rfl, rfl⟩
    simp only [rowAV, rowRes, if_true]
    refine ⟨⟨by simp, by simp, .inr (.inr ⟨rfl, row_flat _⟩)⟩, ?_⟩
    rw [after_new1 (by omega) rfl]
    simp [AV.back, AV.kp, AV.ren, outE, renOf, posOf]
    refine .dvalE (c_eqIntS L L (by omega)) rfl (by simp [takeM]) (by simp) rfl ?_
    simp
    refine .one (sch [.pur 0, .pur 1, .eff 2 [0], .eff 3 [], .pur 4]) (by kernel_rfl) ?_
    simp
    refine .ddat (c_toNfa a hsm) rfl (by simp [Na.d]) ?_
    rintro _ rfl
    simp
    refine .dvalE (c_eqNfa a a hsm) rfl (by simp [Na.d, takeM]) (by simp) rfl ?_
    simp
    refine .ddat (c_toIntS f (by omega)) rfl (by simp) ?_
    rintro _ rfl
    simp
    refine .dvalE (c_eqIntS f f hf) rfl (by simp [takeM]) (by simp) rfl ?_
    simp
    refine .lend3 1901 1902 1903 (by omega) (by omega) (by omega) (c_markNfa a 1 (by omega) (by omega)) (by simp [AV.ren, AV.renL, g3]) ⟨rfl, rfl, rfl⟩ (by simp) ?_
    rintro _ _ _ _ ⟨rfl, e3⟩
    simp only [List.cons.injEq, and_true] at e3
    obtain ⟨rfl, rfl, rfl⟩ := e3
    simp
    refine .lend1 1911 (c_markIntS f (1 + 3 * (a.ms.length : Int) + a.fs.length + a.es.length) (by omega) (by omega)) (by simp [AV.ren, g1]) rfl (by simp) ?_
    rintro _ _ ⟨rfl, e1⟩ _
    simp only [List.cons.injEq, and_true] at e1
    subst e1
    simp [show ¬ (1 + 3 * (a.ms.length : Int) + a.fs.length + a.es.length + f.length < 0) by omega]
    refine .flatE (fun _ => (c_eqIntS L L (by omega))) rfl (by simp [takeM]) (by simp) rfl (by simp) ?_
    simp
    refine .lend1 1921 (c_markIntS L 1 (by omega) (by omega)) (by simp [AV.ren, g1]) rfl (by simp) ?_
    rintro _ _ ⟨rfl, e4⟩ _
    simp only [List.cons.injEq, and_true] at e4
    subst e4
    have hml := marksI_len 1 L.length
    have hmt := takeM iD (marksI 1 L.length)
    rw [hml] at hmt
    have hnn : ¬ (1 + (L.length : Int) < 0) := by omega
    simp
    refine .dvalE (c_heldIntS L.length 1 (by omega) (by omega)) rfl (by simp [hmt]) (by simp [hml]) rfl ?_
    simp [hnn]
    refine .ddat (c_toNfa a hsm) rfl (by simp [Na.d]) ?_
    rintro _ rfl
    simp
    refine .ddat (c_toIntS f (by omega)) rfl (by simp) ?_
    rintro _ rfl
    simp
    refine .freshF 1931 false hG rfl (by simp [Na.d, takeM]) (by simp) (by omega) ?_
    rintro _ _ ⟨rfl, rfl⟩
    simp only [rowAV, rowRes, if_true]
    refine ⟨⟨by simp, by simp, .inr (.inr ⟨rfl, row_flat _⟩)⟩, ?_⟩
    rw [after_new1 (by omega) rfl]
    simp [AV.back, AV.kp, AV.ren, outE, renOf, posOf]
    refine .dvalE (c_eqIntS L L (by omega)) rfl (by simp [takeM]) (by simp) rfl ?_
    simp
    refine .dvalE (c_heldIntS L.length 1 (by omega) (by omega)) rfl (by simp [hmt]) (by simp [hml]) rfl ?_
    simp [hnn]
  | false =>
    rw [hok] at hG
    simp
    refine .freshF 1901 false (c_toNfaF a hsm) rfl (by simp [Na.d]) (by simp) (by omega) ?_
    rintro _ _ ⟨rfl, rfl⟩
    refine ⟨⟨by simp [naRes], by simp [naRes]; omega, .inr (.inl rfl)⟩, ?_⟩
    rw [naAg_back _ _ _ _ _ (by omega) (by omega) (by omega) (by omega) (by omega) (by omega)]
    simp only [naRes]
    rw [after_new3 (by omega) (by omega) (by omega) (by omega) (by omega) (by omega) rfl rfl rfl]
    simp [naAg]
    refine .freshS 1911 (c_toIntSF f (by omega)) (by omega) (by simp) rfl (by simp) ?_
    rintro _ _ ⟨rfl, rfl⟩
    simp
    refine .freshF 1921 false hG rfl (by simp [Na.d, takeM]) (by simp) (by omega) ?_
    rintro _ _ ⟨rfl, rfl⟩
    simp only [rowAV, rowRes, Bool.false_eq_true, if_false]
    refine ⟨⟨by simp, by simp, .inr (.inr ⟨rfl, rfl⟩)⟩, ?_⟩
    rw [after_none]
    simp [AV.back, AV.kp, AV.ren]
    refine .dvalE (c_eqIntS [] [] (by simp)) rfl (by simp [takeM]) (by simp) rfl ?_
    simp
    refine .one (sch [.pur 0, .pur 1, .eff 2 [0], .eff 3 [], .pur 4]) (by kernel_rfl) ?_
    simp
    refine .ddat (c_toNfa a hsm) rfl (by simp [Na.d]) ?_
    rintro _ rfl
    simp
    refine .dvalE (c_eqNfa a a hsm) rfl (by simp [Na.d, takeM]) (by simp) rfl ?_
    simp
    refine .ddat (c_toIntS f (by omega)) rfl (by simp) ?_
    rintro _ rfl
    simp
    refine .dvalE (c_eqIntS f f hf) rfl (by simp [takeM]) (by simp) rfl ?_
    simp
    refine .lend3 1901 1902 1903 (by omega) (by omega) (by omega) (c_markNfa a 1 (by omega) (by omega)) (by simp [AV.ren, AV.renL, g3]) ⟨rfl, rfl, rfl⟩ (by simp) ?_
    rintro _ _ _ _ ⟨rfl, e3⟩
    simp only [List.cons.injEq, and_true] at e3
    obtain ⟨rfl, rfl, rfl⟩ := e3
    simp
    refine .lend1 1911 (c_markIntS f (1 + 3 * (a.ms.length : Int) + a.fs.length + a.es.length) (by omega) (by omega)) (by simp [AV.ren, g1]) rfl (by simp) ?_
    rintro _ _ ⟨rfl, e1⟩ _
    simp only [List.cons.injEq, and_true] at e1
    subst e1
    simp [show ¬ (1 + 3 * (a.ms.length : Int) + a.fs.length + a.es.length + f.length < 0) by omega]
    refine .flatE (fun _ => (c_eqIntS [] [] (by simp))) rfl (by simp [takeM]) (by simp) rfl (by simp) ?_
    simp
    refine .dvalE (c_markInt0 1) rfl (by simp) (by simp) rfl ?_
    simp
    refine .dvalE (c_heldIntS 0 1 (by omega) (by omega)) rfl (by simp [marksI]) (by simp) rfl ?_
    simp
    refine .ddat (c_toNfa a hsm) rfl (by simp [Na.d]) ?_
    rintro _ rfl
    simp
    refine .ddat (c_toIntS f (by omega)) rfl (by simp) ?_
    rintro _ rfl
    simp
    refine .freshF 1931 false hG rfl (by simp [Na.d, takeM]) (by simp) (by omega) ?_
    rintro _ _ ⟨rfl, rfl⟩
    simp only [rowAV, rowRes, Bool.false_eq_true, if_false]
    refine ⟨⟨by simp, by simp, .inr (.inr ⟨rfl, rfl⟩)⟩, ?_⟩
    rw [after_none]
    simp [AV.back, AV.kp, AV.ren]
    refine .dvalE (c_eqIntS [] [] (by simp)) rfl (by simp [takeM]) (by simp) rfl ?_
    simp
    refine .dvalE (c_heldIntS 0 1 (by omega) (by omega)) rfl (by simp [marksI]) (by simp) rfl ?_
    simp

set_option maxRecDepth 100000 in
theorem c_FnExactNfaRun (a : Na) (s : List UInt8) (h : a.fine) (hs : s.length ≤ 9223372036854775807) : DCalls Try.prog 10 [.d a.d, sA s] fun y => y = .bool true := by
  refine dcalls_intro Ty.mixed Try.func10 rfl rfl rfl [2] (by kernel_rfl) (by simp) ?_
  simp [Na.d]
  intro hfl
  refine .ddat (c_szNfa a 1048576 (by omega) h) rfl (by simp) ?_
  rintro _ ⟨v, rfl, h1, h2, h3⟩
  simp
  intro hz
  have hsm := h3 hz
  have m1 := hsm.ms
  have m2 := hsm.fs
  have m3 := hsm.es
  refine .ddat (c_toNfa a hsm) rfl (by simp [Na.d]) ?_
  rintro _ rfl
  simp
  have hW := c_sNfaRun a s h.ms h.fs h.es hs
  have hG := c_NfaRun a s h hs
  rw [show (okNa a && wordOk s) = runOk a s from rfl] at hW
  have hL : runOk a s = true → (listE (runE a s)).length ≤ 40 := by
    intro hok'
    simp only [runOk, Bool.and_eq_true] at hok'
    obtain ⟨k0, k1, k2, k3, k4, k5, k6⟩ := okNa_of hok'.1
    have := listE_le (runE a s)
    rw [runE_len] at this
    omega
  generalize listE (runE a s) = L at *
  refine .ddat hW rfl (by simp [Na.d]) ?_
  rintro _ rfl
  cases hok : runOk a s with
  | true =>
    rw [hok] at hG
    have hL := hL hok
    simp
    refine .freshF 1901 false (c_toNfaF a hsm) rfl (by simp [Na.d]) (by simp) (by omega) ?_
    rintro _ _ ⟨rfl, rfl⟩
    refine ⟨⟨by simp [naRes], by simp [naRes]; omega, .inr (.inl rfl)⟩, ?_⟩
    rw [naAg_back _ _ _ _ _ (by omega) (by omega) (by omega) (by omega) (by omega) (by omega)]
    simp only [naRes]
    rw [after_new3 (by omega) (by omega) (by omega) (by omega) (by omega) (by omega) rfl rfl rfl]
    simp [naAg]
    refine .freshF 1921 false hG rfl (by simp [Na.d, takeM]) (by simp) (by omega) ?_
    rintro _ _ ⟨rfl, rfl⟩
    simp only [rowAV, rowRes, if_true]
    refine ⟨⟨by simp, by simp, .inr (.inr ⟨rfl, row_flat _⟩)⟩, ?_⟩
    rw [after_new1 (by omega) rfl]
    simp [AV.back, AV.kp, AV.ren, outE, renOf, posOf]
    refine .dvalE (c_eqIntS L L (by omega)) rfl (by simp [takeM]) (by simp) rfl ?_
    simp
    refine .one (sch [.pur 0, .pur 1, .eff 2 [0], .eff 3 [], .pur 4]) (by kernel_rfl) ?_
    simp
    refine .ddat (c_toNfa a hsm) rfl (by simp [Na.d]) ?_
    rintro _ rfl
    simp
    refine .dvalE (c_eqNfa a a hsm) rfl (by simp [Na.d, takeM]) (by simp) rfl ?_
    simp
    refine .lend3 1901 1902 1903 (by omega) (by omega) (by omega) (c_markNfa a 1 (by omega) (by omega)) (by simp [AV.ren, AV.renL, g3]) ⟨rfl, rfl, rfl⟩ (by simp) ?_
    rintro _ _ _ _ ⟨rfl, e3⟩
    simp only [List.cons.injEq, and_true] at e3
    obtain ⟨rfl, rfl, rfl⟩ := e3
    simp
    simp [show ¬ (1 + 3 * (a.ms.length : Int) + a.fs.length + a.es.length < 0) by omega]
    refine .flatE (fun _ => (c_eqIntS L L (by omega))) rfl (by simp [takeM]) (by simp) rfl (by simp) ?_
    simp
    refine .lend1 1921 (c_markIntS L 1 (by omega) (by omega)) (by simp [AV.ren, g1]) rfl (by simp) ?_
    rintro _ _ ⟨rfl, e4⟩ _
    simp only [List.cons.injEq, and_true] at e4
    subst e4
    have hml := marksI_len 1 L.length
    have hmt := takeM iD (marksI 1 L.length)
    rw [hml] at hmt
    have hnn : ¬ (1 + (L.length : Int) < 0) := by omega
    simp
    refine .dvalE (c_heldIntS L.length 1 (by omega) (by omega)) rfl (by simp [hmt]) (by simp [hml]) rfl ?_
    simp [hnn]
    refine .ddat (c_toNfa a hsm) rfl (by simp [Na.d]) ?_
    rintro _ rfl
    simp
    refine .freshF 1931 false hG rfl (by simp [Na.d, takeM]) (by simp) (by omega) ?_
    rintro _ _ ⟨rfl, rfl⟩
    simp only [rowAV, rowRes, if_true]
    refine ⟨⟨by simp, by simp, .inr (.inr ⟨rfl, row_flat _⟩)⟩, ?_⟩
    rw [after_new1 (by omega) rfl]
    simp [AV.back, AV.kp, AV.ren, outE, renOf, posOf]
    refine .dvalE (c_eqIntS L L (by omega)) rfl (by simp [takeM]) (by simp) rfl ?_
    simp
    refine .dvalE (c_heldIntS L.length 1 (by omega) (by omega)) rfl (by simp [hmt]) (by simp [hml]) rfl ?_
    simp [hnn]
  | false =>
    rw [hok] at hG
    simp
    refine .freshF 1901 false (c_toNfaF a hsm) rfl (by simp [Na.d]) (by simp) (by omega) ?_
    rintro _ _ ⟨rfl, rfl⟩
    refine ⟨⟨by simp [naRes], by simp [naRes]; omega, .inr (.inl rfl)⟩, ?_⟩
    rw [naAg_back _ _ _ _ _ (by omega) (by omega) (by omega) (by omega) (by omega) (by omega)]
    simp only [naRes]
    rw [after_new3 (by omega) (by omega) (by omega) (by omega) (by omega) (by omega) rfl rfl rfl]
    simp [naAg]
    refine .freshF 1921 false hG rfl (by simp [Na.d, takeM]) (by simp) (by omega) ?_
    rintro _ _ ⟨rfl, rfl⟩
    simp only [rowAV, rowRes, Bool.false_eq_true, if_false]
    refine ⟨⟨by simp, by simp, .inr (.inr ⟨rfl, rfl⟩)⟩, ?_⟩
    rw [after_none]
    simp [AV.back, AV.kp, AV.ren]
    refine .dvalE (c_eqIntS [] [] (by simp)) rfl (by simp [takeM]) (by simp) rfl ?_
    simp
    refine .one (sch [.pur 0, .pur 1, .eff 2 [0], .eff 3 [], .pur 4]) (by kernel_rfl) ?_
    simp
    refine .ddat (c_toNfa a hsm) rfl (by simp [Na.d]) ?_
    rintro _ rfl
    simp
    refine .dvalE (c_eqNfa a a hsm) rfl (by simp [Na.d, takeM]) (by simp) rfl ?_
    simp
    refine .lend3 1901 1902 1903 (by omega) (by omega) (by omega) (c_markNfa a 1 (by omega) (by omega)) (by simp [AV.ren, AV.renL, g3]) ⟨rfl, rfl, rfl⟩ (by simp) ?_
    rintro _ _ _ _ ⟨rfl, e3⟩
    simp only [List.cons.injEq, and_true] at e3
    obtain ⟨rfl, rfl, rfl⟩ := e3
    simp
    simp [show ¬ (1 + 3 * (a.ms.length : Int) + a.fs.length + a.es.length < 0) by omega]
    refine .flatE (fun _ => (c_eqIntS [] [] (by simp))) rfl (by simp [takeM]) (by simp) rfl (by simp) ?_
    simp
    refine .dvalE (c_markInt0 1) rfl (by simp) (by simp) rfl ?_
    simp
    refine .dvalE (c_heldIntS 0 1 (by omega) (by omega)) rfl (by simp [marksI]) (by simp) rfl ?_
    simp
    refine .ddat (c_toNfa a hsm) rfl (by simp [Na.d]) ?_
    rintro _ rfl
    simp
    refine .freshF 1931 false hG rfl (by simp [Na.d, takeM]) (by simp) (by omega) ?_
    rintro _ _ ⟨rfl, rfl⟩
    simp only [rowAV, rowRes, Bool.false_eq_true, if_false]
    refine ⟨⟨by simp, by simp, .inr (.inr ⟨rfl, rfl⟩)⟩, ?_⟩
    rw [after_none]
    simp [AV.back, AV.kp, AV.ren]
    refine .dvalE (c_eqIntS [] [] (by simp)) rfl (by simp [takeM]) (by simp) rfl ?_
    simp
    refine .dvalE (c_heldIntS 0 1 (by omega) (by omega)) rfl (by simp [marksI]) (by simp) rfl ?_
    simp

end Go.Fw
