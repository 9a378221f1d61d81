/- The law about the other words. -/
import Derived.Test.YtmodfeaneggloaaRq
import Derived.Test.YtmodfeaneggloaaRc
import Derived.Test.YtmodfeaneggloaaRd
import Derived.Test.YtmodfeaneggloaaOr
set_option linter.unusedSimpArgs false
set_option linter.unusedVariables false
namespace Go.Fw
open Go Go.Proofs
set_option linter.unusedSectionVars false
set_option linter.unnecessarySimpa false

theorem OtherIs.slim {a x : Df} (h : OtherIs a x) : x.slim := by
  rcases h with ⟨_, h⟩ | ⟨_, rfl⟩
  · exact slim_of h.1.ok
  · exact slim_nil
set_option maxRecDepth 100000 in
theorem c_FnDfaOther (code more : List UInt8) (hl : code.length ≤ 9223372036854775807) (hl2 : more.length ≤ 9223372036854775807) : DCalls Try.prog 9 [.d (.list (codeD code)), .d (.list (codeD more))] fun y => y = .bool true := by
  refine dcalls_intro Ty.mixed Try.func9 rfl rfl rfl [] (by kernel_rfl) (by simp) ?_
  simp [codeD_lenD]
  intro h20 h21
  refine .ddat (c_DrawDfaOther code) rfl (by simp) ?_
  rintro _ ⟨a, rfl, ha⟩
  have hf := ha.fine
  simp [Df.d]
  refine .ddat (c_DfaOther a hf) rfl (by simp [Df.d]) ?_
  rintro _ ⟨x, rfl, hX⟩
  have hxf := hX.fine
  have hxs := hX.slim
  simp [Df.d]
  refine .one (sch [.pur 0, .pur 1, .eff 2 [0], .eff 3 [], .pur 4]) (by kernel_rfl) ?_
  simp
  refine .ddat (c_sDfaOther a hf) rfl (by simp [Df.d]) ?_
  rintro _ ⟨x', rfl, hX'⟩
  obtain rfl := hX.uniq hX'
  simp [Df.d]
  refine .dval (c_sameDfa x hxs) rfl (by simp [Df.d]) rfl ?_
  simp
  refine .dval (c_sDfaValid a hf) rfl (by simp [Df.d]) rfl ?_
  simp
  refine ⟨fun hno => ?_, fun hok => ?_⟩
  · obtain rfl : x = ⟨[], []⟩ := by
      rcases hX with ⟨h, _⟩ | ⟨_, h⟩
      · rw [hno] at h; cases h
      · exact h
    simp
    refine .flat (fun _ => c_alive) rfl (by simp) rfl (by simp) ?_
    simp
  · obtain ⟨x1, x2⟩ := hX.lang hok
    refine .ddat (c_DrawWordRk more) rfl (by simp) ?_
    rintro _ ⟨s, rfl, hs⟩
    simp
    refine .ddat (c_Minimize a hf) rfl (by simp [Df.d]) ?_
    rintro _ ⟨m, rfl, hm⟩
    obtain hm : IsMin a m := by
      rcases hm with ⟨_, h⟩ | ⟨h, _⟩
      · exact h
      · rw [hok] at h; cases h
    have hms := slim_of hm.1.ok
    have hlen : x.next.length = m.next.length := by rw [hX.size hok hm]; rfl
    have hacc : wordOk s = true → accDf x s ≠ accDf a s := fun hw => by
      have e := x2 _ (l3_ltr (letters_all hw))
      rw [accDf_of x1.ok hw, accDf_of hok hw, acc_lang, acc_lang, e]
      show (!a.lang 0 (s.map ltr)) ≠ a.lang 0 (s.map ltr)
      cases a.lang 0 (s.map ltr) <;> simp
    have hg : (!wordOk s || !accDf x s == accDf a s) = true := by
      cases hw : wordOk s with
      | false => rfl
      | true =>
        have := hacc hw
        cases h1 : accDf x s <;> cases h2 : accDf a s <;> simp [h1, h2] at this ⊢
    simp [Df.d]
    refine AnyVC.pre (Wk.mk (slots := [(5, .ptr 500 0), (6, .ptr 600 0), (7, sA s), (8, .ptr 800 0)]) (heap := [(500, .bx [.d (rowsD a.next), .d (bsD a.ends)]), (600, .bx [.d (rowsD x.next), .d (bsD x.ends)]), (800, .bx [.d (rowsD m.next), .d (bsD m.ends)])]) (used := [500, 600, 800]) (by simp) (by simp)) ?_
    refine .one (sch [.pur 0, .eff 1 [], .pur 2, .pur 3, .pur 4, .pur 5, .pur 7, .pur 8, .eff 6 [7, 8], .eff 9 [], .pur 10, .pur 11, .pur 12, .pur 13, .pur 15, .eff 14 [15], .eff 16 [], .pur 17, .pur 18, .pur 19, .pur 20, .pur 21, .pur 22, .pur 23, .pur 24, .pur 25, .pur 26, .pur 27]) (by kernel_rfl) ?_
    simp
    refine .dval (c_sWordValid s (by omega)) rfl (by simp) rfl ?_
    simp
    refine .flat (fun _ => c_DfaAccepts x s hxf (by omega)) rfl (by simp [Df.d]) rfl (by simp) ?_
    simp
    refine .flat (fun _ => c_DfaAccepts a s hf (by omega)) rfl (by simp [Df.d]) rfl (by simp) ?_
    simp [hg]
    refine .go (by kernel_rfl) (by simp) (fun _ => ?_) (by simp)
    simp
    refine .ddat (c_DfaOther x hxf) rfl (by simp [Df.d]) ?_
    rintro _ ⟨y, rfl, hY⟩
    obtain rfl := hX.twice hok hY hm
    simp [Df.d]
    refine .flat (fun _ => c_sameDfa y hms) rfl (by simp [Df.d]) rfl (by simp) ?_
    simp [hlen]
end Go.Fw
