/- Words are counted by their first letters. -/
import Derived.Test.YtmodfeaneggloaaRl
import Derived.Test.YtmodfeaneggloaaSe
set_option linter.unusedSimpArgs false
set_option linter.unusedVariables false
namespace Go.Fw
open Go Go.Proofs
set_option linter.unusedSectionVars false
set_option linter.unnecessarySimpa false

theorem after_cnt {a x : Df} (h1 : okDf a = true) {b : UInt8} (hb : isL b = true) (h : AfterIs a [b] x) (n : Nat) : cq x n 0 = cq a n (a.go 0 (ltr b)) := by
  have hw : wordOk [b] = true := by simp only [wordOk, lettersOk, Bool.and_eq_true, decide_eq_true_eq]; exact ⟨by simp [hb], by simp⟩
  obtain ⟨_, g2⟩ := h.ok h1 hw
  unfold cq
  rw [cnt_congr n _ _ fun w hw _ => g2 w hw]; rfl
set_option maxHeartbeats 800000 in
set_option maxRecDepth 100000 in
theorem c_FnCountAfter (code : List UInt8) (hl : code.length ≤ 9223372036854775807) : DCalls Try.prog 13 [.d (.list (codeD code))] fun y => y = .bool true := by
  refine dcalls_intro Ty.mixed Try.func13 rfl rfl rfl [] (by kernel_rfl) (by simp) ?_
  simp [codeD_lenD]
  intro h20
  refine .tdat (c_DrawCountWords code) rfl (by simp) ?_
  rintro _ ⟨a, n, rfl, ha, hn1, hn2⟩
  have hf := ha.fine
  simp [Df.d]
  refine .dval (c_CountWords a n hf) rfl (by simp [Df.d]) rfl ?_
  simp
  refine .dval (c_sCountWords a n hf) rfl (by simp [Df.d]) rfl ?_
  simp
  refine ⟨fun hneg => ?_, fun hpos hn0 => ?_⟩
  · refine .dval c_alive rfl (by simp) rfl ?_
    simp
  · obtain ⟨h1, n0, n30, he⟩ := cwDf_pos (by omega)
    obtain ⟨k, rfl⟩ : ∃ k : Nat, n = ((k + 1 : Nat) : Int) := ⟨n.toNat - 1, by omega⟩
    have hw : IntKind.i64.wrap (((k + 1 : Nat) : Int) - 1) = k := by rw [wrap64 (by omega) (by omega)]; omega
    have hkk : IntKind.i64.wrap (k : Int) = k := wrap64 (by omega) (by omega)
    have hin : inR (k : Int) 0 30 = true := by simp [inR]; omega
    have key : ∀ (b : UInt8) (x : Df), isL b = true → AfterIs a [b] x → cwDf x k = cq a k (a.go 0 (ltr b)) := fun b x hb hx => by
      have hxo : okDf x = true := (hx.ok h1 (by simp only [wordOk, lettersOk, Bool.and_eq_true, decide_eq_true_eq]; exact ⟨by simp [hb], by simp⟩)).1.ok
      rw [cwDf, hxo, hin, ← after_cnt h1 hb hx k]; rfl
    have hsum : cq a (k + 1) 0 = cq a k (a.go 0 0) + cq a k (a.go 0 1) + cq a k (a.go 0 2) := by unfold cq; rw [cnt_go]; omega
    have he2 : cwDf a ((k : Int) + 1) = cq a (k + 1) 0 := he
    have b0 := cq_bd a (k := k) (by omega) (a.go 0 0)
    have b1 := cq_bd a (k := k) (by omega) (a.go 0 1)
    have b2 := cq_bd a (k := k) (by omega) (a.go 0 2)
    simp [hkk]
    refine .one (sch [.pur 0, .pur 2, .pur 3, .pur 5, .pur 7, .pur 8, .pur 11, .pur 13, .pur 14, .pur 17, .eff 1 [2, 3, 5, 7, 8, 11, 13, 14, 17], .eff 4 [5, 7, 8, 11, 13, 14, 17], .eff 6 [7, 8, 11, 13, 14, 17], .eff 9 [11, 13, 14, 17], .pur 10, .eff 12 [13, 14, 17, 10], .eff 15 [17, 10], .pur 16, .pur 18, .pur 19]) (by kernel_rfl) ?_
    simp [hkk]
    refine .ddat (c_DfaAfter a [97] hf (by simp)) rfl (by simp [Df.d]) ?_
    rintro _ ⟨x, rfl, hx⟩
    have ex := key 97 x (by decide) hx
    have hxf := hx.fine
    simp [Df.d, hkk]
    refine .dval (c_CountWords x k hxf) rfl (by simp [Df.d]) rfl ?_
    rw [ex]
    simp [hkk]
    refine .ddat (c_DfaAfter a [98] hf (by simp)) rfl (by simp [Df.d]) ?_
    rintro _ ⟨y, rfl, hy⟩
    have ey := key 98 y (by decide) hy
    have hyf := hy.fine
    simp [Df.d, hkk]
    refine .dval (c_CountWords y k hyf) rfl (by simp [Df.d]) rfl ?_
    rw [ey]
    simp [hkk]
    refine .ddat (c_DfaAfter a [99] hf (by simp)) rfl (by simp [Df.d]) ?_
    rintro _ ⟨z, rfl, hz⟩
    have ez := key 99 z (by decide) hz
    have hzf := hz.fine
    simp [Df.d, hkk]
    refine .dval (c_CountWords z k hzf) rfl (by simp [Df.d]) rfl ?_
    rw [ez]
    simp [hkk]
    have l0 : ltr 97 = 0 := by decide
    have l1 : ltr 98 = 1 := by decide
    have l2 : ltr 99 = 2 := by decide
    rw [he2, hsum, l0, l1, l2, wrap64 (n := cq a k (a.go 0 0) + cq a k (a.go 0 1)) (by omega) (by omega)]
    exact wrap64 (by omega) (by omega)
end Go.Fw
