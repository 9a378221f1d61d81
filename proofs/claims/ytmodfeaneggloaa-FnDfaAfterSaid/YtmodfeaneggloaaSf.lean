/- The law about what follows a word. -/
import Derived.Test.YtmodfeaneggloaaSe
import Derived.Test.YtmodfeaneggloaaRd
set_option linter.unusedSimpArgs false
set_option linter.unusedVariables false
namespace Go.Fw
open Go Go.Proofs
set_option linter.unusedSectionVars false
set_option linter.unnecessarySimpa false

set_option maxRecDepth 100000 in
theorem c_DrawDfaAfter (code : List UInt8) : TCalls Try.prog 56 [.d (.list (codeD code))] fun y => ∃ (a : Df) (s : List UInt8), y = [a.d, sD s] ∧ a.tiny ∧ s.length ≤ 9 := by
  refine tcalls_intro Ty.mixed Try.func56 rfl rfl rfl [] (by kernel_rfl) (by simp) ?_
  simp
  refine .tdat (c_DrawDfaAccepts code) rfl (by simp) ?_
  rintro _ ⟨a, s, rfl, ha, hs⟩
  simp [Df.d]
  exact ⟨a, s, ⟨⟨rfl, rfl⟩, rfl⟩, ha, hs⟩
theorem wordOk_app {s v : List UInt8} (hs : wordOk s = true) (hv : wordOk v = true) (h : v.length + s.length ≤ 8) : wordOk (s ++ v) = true := by
  have h1 := letters_all hs
  have h2 := letters_all hv
  simp only [wordOk, lettersOk, Bool.and_eq_true, decide_eq_true_eq]
  refine ⟨by rw [List.all_append, h1, h2]; rfl, by simp; omega⟩
theorem AfterIs.acc {a x : Df} {s v : List UInt8} (h : AfterIs a s x) (h1 : okDf a = true) (h2 : wordOk s = true) (h3 : wordOk v = true) (h4 : v.length + s.length ≤ 8) : accDf x v = accDf a (s ++ v) := by
  obtain ⟨g1, g2⟩ := h.ok h1 h2
  rw [accDf_of g1.ok h3, accDf_of h1 (wordOk_app h2 h3 h4), acc_lang, g2 _ (l3_ltr (letters_all h3))]
  unfold Df.acc
  rw [run_app]
  unfold Df.lang langS
  rw [List.foldl_map]; rfl

set_option maxHeartbeats 800000 in
set_option maxRecDepth 100000 in
theorem c_FnDfaAfter (code more : List UInt8) (hl : code.length ≤ 9223372036854775807) (hl2 : more.length ≤ 9223372036854775807) : DCalls Try.prog 14 [.d (.list (codeD code)), .d (.list (codeD more))] fun y => y = .bool true := by
  refine dcalls_intro Ty.mixed Try.func14 rfl rfl rfl [] (by kernel_rfl) (by simp) ?_
  simp [codeD_lenD]
  intro h20 h21
  refine .tdat (c_DrawDfaAfter code) rfl (by simp) ?_
  rintro _ ⟨a, s, rfl, ha, hs⟩
  have hf := ha.fine
  simp [Df.d]
  refine .ddat (c_DfaAfter a s hf (by omega)) rfl (by simp [Df.d]) ?_
  rintro _ ⟨x, rfl, hX⟩
  have hxf := hX.fine
  have hxs := hX.slim
  simp [Df.d]
  refine .one (sch [.pur 0, .pur 1, .pur 2, .eff 3 [0], .eff 4 [], .pur 5]) (by kernel_rfl) ?_
  simp
  refine .ddat (c_sDfaAfter a s hf (by omega)) rfl (by simp [Df.d]) ?_
  rintro _ ⟨x', rfl, hX'⟩
  obtain rfl := hX.uniq hX'
  simp [Df.d]
  refine .dval (c_sameDfa x hxs) rfl (by simp [Df.d]) rfl ?_
  simp
  refine .dval (c_sDfaValid a hf) rfl (by simp [Df.d]) rfl ?_
  simp
  refine .flat (fun _ => c_sWordValid s (by omega)) rfl (by simp) rfl (by simp) ?_
  simp
  refine ⟨fun hno => ?_, fun hok hw => ?_⟩
  · obtain rfl : x = ⟨[], []⟩ := by
      rcases hX with ⟨h1, h2, _⟩ | ⟨_, h⟩
      · rw [h1, h2] at hno; simp at hno
      · exact h
    simp
    refine .flat (fun _ => c_alive) rfl (by simp) rfl (by simp) ?_
    simp
  · obtain ⟨x1, x2⟩ := hX.ok hok hw
    have hl8 := letters_len hw
    have hE := c_DfaAfter a [] hf (by simp)
    have hval : okDf x = true := x1.ok
    refine .ddat (c_DrawWordRk more) rfl (by simp) ?_
    rintro _ ⟨v, rfl, hv⟩
    have hwl : IntKind.i64.wrap ((v.length : Int) + s.length) = (v.length : Int) + s.length := wrap64 (by omega) (by omega)
    simp [hwl]
    refine .dval (c_sWordValid v (by omega)) rfl (by simp) rfl ?_
    simp
    refine ⟨fun hno => ?t1, fun hv1 hv2 => ?t2⟩
    case' t1 => obtain ⟨u, hu1, hu2, hue⟩ : ∃ u : List UInt8, wordOk u = true ∧ u.length + s.length ≤ 8 ∧ u = [] := ⟨[], by decide, by simp; omega, rfl⟩
    case' t1 => refine AnyVC.pre (Wk.mk (slots := [(5, .ptr 500 0), (6, sA s), (7, .ptr 700 0), (8, sA u)]) (heap := [(500, .bx [.d (rowsD a.next), .d (bsD a.ends)]), (700, .bx [.d (rowsD x.next), .d (bsD x.ends)])]) (used := [500, 700]) (by simp [hue]) (by simp)) ?_
    case' t2 => obtain ⟨u, hu1, hu2, hue⟩ : ∃ u : List UInt8, wordOk u = true ∧ u.length + s.length ≤ 8 ∧ u = v := ⟨v, hv1, by omega, rfl⟩
    case' t2 => refine AnyVC.pre (Wk.mk (slots := [(5, .ptr 500 0), (6, sA s), (7, .ptr 700 0), (8, sA u)]) (heap := [(500, .bx [.d (rowsD a.next), .d (bsD a.ends)]), (700, .bx [.d (rowsD x.next), .d (bsD x.ends)])]) (used := [500, 700]) (by simp [hue]) (by simp)) ?_
    all_goals
      have hacc := hX.acc hok hw hu1 hu2
      refine .one (sch [.pur 0, .eff 1 [], .pur 2, .pur 3, .pur 4, .pur 6, .pur 7, .pur 8, .pur 9, .eff 5 [6, 7, 8, 9], .eff 10 [], .pur 11, .pur 12, .pur 13, .pur 14, .pur 16, .eff 15 [16], .eff 17 [], .eff 18 [], .pur 19, .pur 20]) (by kernel_rfl) ?_
      simp
      refine .dval (c_DfaValid x hxf) rfl (by simp [Df.d]) rfl ?_
      rw [hval]
      simp
      refine ⟨by omega, ?_⟩
      refine .flat (fun _ => c_DfaAccepts x u hxf (by omega)) rfl (by simp [Df.d]) rfl (by simp) ?_
      simp
      refine ⟨by omega, ?_⟩
      refine .flat (fun _ => c_DfaAccepts a (s ++ u) hf (by simp; omega)) rfl (by simp [Df.d]) rfl (by simp) ?_
      simp [hacc]
      refine .go (by kernel_rfl) (by simp) (fun _ => ?_) (by simp)
      simp
      refine .ddat hE rfl (by simp [Df.d]) ?_
      rintro _ ⟨y, rfl, hY⟩
      simp [Df.d]
      refine .go (by kernel_rfl) (by simp) (fun _ => ?_) (by simp)
      simp
      refine .ddat (c_Minimize a hf) rfl (by simp [Df.d]) ?_
      rintro _ ⟨m, rfl, hm⟩
      obtain rfl : y = m := by
        obtain ⟨y1, y2⟩ := hY.ok hok (by decide)
        rcases hm with ⟨_, hm⟩ | ⟨h, _⟩
        · exact y1.uniq hm.1 (y2.trans hm.2.symm)
        · rw [hok] at h; cases h
      simp [Df.d]
      refine .flat (fun _ => c_sameDfa y hY.slim) rfl (by simp [Df.d]) rfl (by simp) ?_
      simp
end Go.Fw
