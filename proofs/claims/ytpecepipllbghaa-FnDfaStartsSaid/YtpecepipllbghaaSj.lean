/- The law about beginnings. -/
import Derived.Test.YtpecepipllbghaaSi
set_option linter.unusedSimpArgs false
set_option linter.unusedVariables false
namespace Go.Fw
open Go Go.Proofs
set_option linter.unusedSectionVars false
set_option linter.unnecessarySimpa false

set_option maxHeartbeats 800000 in
set_option maxRecDepth 100000 in
theorem c_FnDfaStarts (code more : List UInt8) (hl : code.length ≤ 9223372036854775807) (hl2 : more.length ≤ 9223372036854775807) : DCalls Try.prog 7 [.d (.list (codeD code)), .d (.list (codeD more))] fun y => y = .bool true := by
  refine dcalls_intro Ty.mixed Try.func7 rfl rfl rfl [] (by kernel_rfl) (by simp) ?_
  simp [codeD_lenD]
  intro h20 h21
  refine .ddat (c_DrawDfaStarts code) rfl (by simp) ?_
  rintro _ ⟨a, rfl, ha⟩
  have hf := ha.fine
  simp [Df.d]
  refine .ddat (c_DfaStarts a hf) rfl (by simp [Df.d]) ?_
  rintro _ ⟨x, rfl, hX⟩
  have hxf := hX.fine
  have hxs := hX.slim
  simp [Df.d]
  refine .one (sch [.pur 0, .pur 1, .eff 2 [0], .eff 3 [], .pur 4]) (by kernel_rfl) ?_
  simp
  refine .ddat (c_sDfaStarts a hf) rfl (by simp [Df.d]) ?_
  rintro _ ⟨x', rfl, hX'⟩
  obtain rfl := hX.uniq hX'
  simp [Df.d]
  refine .dval (c_sameDfa x hxs) rfl (by simp [Df.d]) rfl ?_
  simp
  refine .dval (c_sDfaValid a hf) rfl (by simp [Df.d]) rfl ?_
  simp
  refine ⟨fun hno => ?_, fun hok => ?_⟩
  · obtain rfl : x = ⟨[], []⟩ := by
      rcases hX with ⟨h, _⟩ | ⟨_, h⟩
      · rw [hno] at h; cases h
      · exact h
    simp
    refine .flat (fun _ => c_alive) rfl (by simp) rfl (by simp) ?_
    simp
  · obtain ⟨x1, x2⟩ := hX.ok hok
    refine .ddat (c_DrawWordRk more) rfl (by simp) ?_
    rintro _ ⟨s, rfl, hs⟩
    simp
    refine AnyVC.pre (Wk.mk (slots := [(5, .ptr 500 0), (6, .ptr 600 0), (7, sA s)]) (heap := [(500, .bx [.d (rowsD a.next), .d (bsD a.ends)]), (600, .bx [.d (rowsD x.next), .d (bsD x.ends)])]) (used := [500, 600]) (by simp) (by simp)) ?_
    refine .one (sch [.pur 0, .eff 1 [], .pur 2, .pur 3, .pur 4, .pur 5, .pur 6, .pur 7, .pur 8, .eff 9 [], .pur 10, .pur 11, .pur 12, .pur 13, .pur 14, .pur 15, .pur 16, .pur 17, .eff 18 [], .pur 19, .pur 20]) (by kernel_rfl) ?_
    simp
    refine .dval (c_sWordValid s (by omega)) rfl (by simp) rfl ?_
    have hwl : IntKind.i64.wrap ((s.length : Int) - 1) = (s.length : Int) - 1 := wrap64 (by omega) (by omega)
    simp [hwl]
    have hwl2 : wordOk s = true → (s.length : Int) ≤ 8 := fun h => letters_len h
    refine .flat (fun _ => c_DfaAccepts x s hxf (by omega)) rfl (by simp [Df.d]) rfl (by simp) ?_
    simp [hwl]
    refine ⟨fun g1 g2 g3 => ⟨⟨⟨g1, g2⟩, g3⟩, by have := List.length_pos_iff.2 g2; omega, by omega⟩, ?_⟩
    have hpre : wordOk s = true → s ≠ [] → accDf x s = true → accDf x (s.take (s.length - 1)) = true := fun h1 h2 h3 => by
      have hw := letters_all h1
      have hp := take_all hw (s.length - 1)
      rw [accDf_of x1.ok h1, x2 s hw] at h3
      rw [accDf_of x1.ok (wordOk_take h1 _), x2 _ hp]
      have e : s.take (s.length - 1) ++ s.drop (s.length - 1) = s := List.take_append_drop _ s
      rw [← e, run_app] at h3
      exact usef_app (a := a) (q := 0) _ (by rw [List.all_eq_true] at hw ⊢; exact fun y hy => hw y (List.mem_of_mem_drop hy)) h3
    refine .flat (fun _ => c_DfaAccepts x (s.take (s.length - 1)) hxf (by simp; omega)) rfl (by simp [Df.d]) rfl (by simp) ?_
    simp
    refine ⟨hpre, fun _ => ?_⟩
    refine .tdat (c_FirstOf a hf) rfl (by simp [Df.d]) ?_
    rintro _ ⟨w, some, rfl, hF⟩
    have hnil : accDf x [] = some := by
      rw [accDf_of x1.ok (by decide)]
      have e := x2 [] rfl
      have hF : FirstW a.acc w some := by
        rcases hF with ⟨_, h, _⟩ | ⟨h, _⟩
        · exact h
        · rw [hok] at h; cases h
      rw [Bool.eq_iff_iff, e]
      constructor
      · rintro ⟨v, v1, v2⟩
        rcases hF with ⟨h, _⟩ | ⟨_, _, h⟩
        · exact h
        · have := h v v1
          rw [show a.acc v = true from v2] at this; cases this
      · intro hs
        rcases hF with ⟨_, v1, v2, _⟩ | ⟨h, _⟩
        · exact ⟨w, v1, v2⟩
        · rw [h] at hs; cases hs
    have himp : accDf a s = true → accDf x s = true := fun h => by
      have hw : wordOk s = true := by simp only [accDf, Bool.and_eq_true] at h; exact h.1.2
      have hl := letters_all hw
      rw [accDf_of hok hw] at h
      rw [accDf_of x1.ok hw, x2 s hl]
      exact ⟨[], rfl, h⟩
    simp
    refine AnyVC.pre (Wk.mk (slots := [(5, .ptr 500 0), (6, .ptr 600 0), (7, sA s), (9, .d (.bool some))]) (heap := [(500, .bx [.d (rowsD a.next), .d (bsD a.ends)]), (600, .bx [.d (rowsD x.next), .d (bsD x.ends)])]) (used := [500, 600]) (by simp) (by simp)) ?_
    refine .one (sch [.pur 0, .pur 1, .eff 2 [], .pur 3, .pur 4, .pur 5, .pur 6, .eff 7 [], .pur 8, .pur 9, .pur 10, .pur 12, .eff 11 [12], .eff 13 [], .pur 14, .pur 15, .pur 16, .pur 18, .eff 17 [18], .pur 19, .pur 20, .pur 21]) (by kernel_rfl) ?_
    simp
    refine .dval (c_DfaAccepts a s hf (by omega)) rfl (by simp [Df.d]) rfl ?_
    simp
    refine .flat (fun _ => c_DfaAccepts x s hxf (by omega)) rfl (by simp [Df.d]) rfl (by simp) ?_
    have hg : (!accDf a s || accDf x s) = true := by
      cases h : accDf a s with
      | false => rfl
      | true => rw [himp h]; rfl
    simp [hg]
    refine .go (by kernel_rfl) (by simp) (fun _ => ?_) (by simp)
    simp
    refine .ddat (c_DfaStarts x hxf) rfl (by simp [Df.d]) ?_
    rintro _ ⟨y, rfl, hY⟩
    obtain rfl := hX.twice hok hY
    simp [Df.d]
    refine .flat (fun _ => c_sameDfa y hxs) rfl (by simp [Df.d]) rfl (by simp) ?_
    simp
    refine .flat (fun _ => c_DfaAccepts y [] hxf (by simp)) rfl (by simp [Df.d]) rfl (by simp) ?_
    simp [hnil]
end Go.Fw
