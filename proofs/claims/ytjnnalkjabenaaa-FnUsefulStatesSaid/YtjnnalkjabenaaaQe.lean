/- The law about useful states. -/
import Derived.Test.YtjnnalkjabenaaaQd
import Derived.Test.YtjnnalkjabenaaaOm
set_option linter.unusedSimpArgs false
set_option linter.unusedVariables false
namespace Go.Fw
open Go Go.Proofs
set_option linter.unusedSectionVars false
set_option linter.unnecessarySimpa false

theorem UsR.zero {a : Df} (h : okDf a = true) {B : List Bool} (hB : UsR a B) {s : List UInt8} {ok : Bool} (hF : FirstW a.acc s ok) : B.getD 0 false = ok := by
  have n1 := (okDf_len h).1
  rw [Bool.eq_iff_iff, hB.is 0 (by omega)]
  constructor
  · rintro ⟨_, w, h1, h2⟩
    rcases hF with ⟨rfl, _⟩ | ⟨_, _, h3⟩
    · rfl
    · have := h3 w h1
      have h2 : a.acc w = true := h2
      rw [h2] at this; cases this
  · rintro rfl
    refine ⟨⟨[], rfl, rfl⟩, ?_⟩
    rcases hF with ⟨_, h1, h2, _⟩ | ⟨h, _⟩
    · exact ⟨s, h1, h2⟩
    · cases h
theorem UsR.onway {a : Df} {B : List Bool} (hB : UsR a B) {s : List UInt8} (hs : s.all isL = true) (hacc : a.acc s = true) {k r : Nat} (hr : a.run 0 (s.take k) = r) (hrn : r < a.next.length) : B.getD r false = true := by
  rw [hB.is r hrn]
  refine ⟨⟨s.take k, take_all hs k, hr⟩, s.drop k, ?_, ?_⟩
  · rw [List.all_eq_true] at hs ⊢
    exact fun x hx => hs x (List.mem_of_mem_drop hx)
  · have : a.run 0 (s.take k ++ s.drop k) = a.run r (s.drop k) := by rw [run_app, hr]
    rw [List.take_append_drop] at this
    rw [← this]; exact hacc

set_option maxRecDepth 100000 in
theorem c_FnUsefulStates (code more : List UInt8) (hl : code.length ≤ 9223372036854775807) (hl2 : more.length ≤ 9223372036854775807) : DCalls Try.prog 11 [.d (.list (codeD code)), .d (.list (codeD more))] fun y => y = .bool true := by
  refine dcalls_intro Ty.mixed Try.func11 rfl rfl rfl [] (by kernel_rfl) (by simp) ?_
  simp [codeD_lenD]
  intro h20 h21
  refine .ddat (c_DrawUsefulStates code) rfl (by simp) ?_
  rintro _ ⟨a, rfl, ha⟩
  have hf := ha.fine
  simp [Df.d]
  refine .ddat (c_UsefulStates a hf) rfl (by simp [Df.d]) ?_
  rintro _ ⟨B, rfl, hB⟩
  simp
  refine .ddat (c_sUsefulStates a hf) rfl (by simp [Df.d]) ?_
  rintro _ ⟨B', rfl, hB'⟩
  have hBB : B' = B ∧ B.length ≤ 40 := by
    rcases hB with ⟨h1, h2⟩ | ⟨h1, rfl⟩ <;> rcases hB' with ⟨g1, g2⟩ | ⟨g1, rfl⟩
    · exact ⟨g2.uniq h2, by rw [h2.len]; exact (okDf_len h1).2.1⟩
    · rw [h1] at g1; cases g1
    · rw [h1] at g1; cases g1
    · exact ⟨rfl, by simp⟩
  obtain ⟨rfl, hBl⟩ := hBB
  simp
  refine .dval (c_sameFlags B' (by omega)) rfl (by simp) rfl ?_
  simp
  refine .dval (c_sDfaValid a hf) rfl (by simp [Df.d]) rfl ?_
  simp
  refine ⟨fun hno => ?_, fun hok => ?_⟩
  · have hz : B' = [] := by
      rcases hB with ⟨h1, _⟩ | ⟨_, h2⟩
      · rw [h1] at hno; cases hno
      · exact h2
    subst hz
    refine .flat (fun _ => c_alive) rfl (by simp) rfl (by simp) ?_
    simp
  · have hU : UsR a B' := by
      rcases hB with ⟨_, h2⟩ | ⟨h1, _⟩
      · exact h2
      · rw [hok] at h1; cases h1
    have hUl := hU.len
    obtain ⟨n1, n2, n3⟩ := okDf_len hok
    refine .ddat (c_DrawWordRank more) rfl (by simp) ?_
    rintro _ ⟨s, rfl, hs⟩
    simp
    refine LoopVC.at { k : Nat // k ≤ s.length + 1 } (fun k => [(5, .ptr 500 0), (6, .d (bsD B')), (7, sA s), (8, iA k.1)]) (fun _ => [(500, .bx [.d (rowsD a.next), .d (bsD a.ends)])]) [500] (fun k => s.length + 1 - k.1) ⟨0, by omega⟩ (by simp) (by simp) ?_
    rintro ⟨k, hk⟩
    simp
    refine .flat (fun _ => c_DfaAccepts a s hf (by omega)) rfl (by simp [Df.d]) rfl (by simp) ?_
    simp
    refine ⟨fun hks hacc => ?_, fun _ => ?_⟩
    · have hw : wordOk s = true := by
        simp only [accDf, Bool.and_eq_true] at hacc
        exact hacc.1.2
      have hacc : a.acc s = true := by rw [← accDf_of hok hw]; exact hacc
      have hrt : runDf a 0 (s.take k) = a.run 0 (s.take k) := by simp [runDf, hok, wordOk_take hw k, inSt_st.2 (st0 hok)]
      have hrs := run_st hok (st0 hok) (take_all (letters_all hw) k)
      obtain ⟨r, hr⟩ : ∃ r : Nat, a.run 0 (s.take k) = r := ⟨(a.run 0 (s.take k)).toNat, by have := hrs.1; omega⟩
      rw [hr] at hrt hrs
      have hrn : r < a.next.length := by have := hrs.2; omega
      have hBr := hU.onway (letters_all hw) hacc hr hrn
      obtain ⟨v, b1, b2, b3, b4⟩ := flag_at hUl hrn
      rw [hBr] at b3
      subst b3
      refine .one (sch [.pur 0, .pur 1, .pur 2, .pur 3, .eff 4 [], .pur 5]) (by kernel_rfl) ?_
      simp [hks]
      refine .dval (c_DfaRun a 0 (s.take k) hf (by simp; omega)) rfl (by simp [Df.d]) rfl ?_
      rw [hrt]
      simp [b1, b2, b4, hrn, hUl]
      exact ⟨k + 1, .mk (by simp; exact wrap64 (by omega) (by omega)) (by simp), by omega, by omega⟩
    · refine .tdat (c_FirstOf a hf) rfl (by simp [Df.d]) ?_
      rintro _ ⟨w, ok, rfl, hF⟩
      have hz : B'.getD 0 false = ok := by
        rcases hF with ⟨_, h2, _⟩ | ⟨h1, _⟩
        · exact hU.zero hok h2
        · rw [hok] at h1; cases h1
      obtain ⟨v, b1, b2, b3, b4⟩ := flag_at hUl (q := 0) (by omega)
      rw [hz] at b3
      subst b3
      simp [b1, b2, b4, hUl]
      omega
end Go.Fw
