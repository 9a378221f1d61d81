/- The law about next tokens. -/
import Derived.Test.YtpecepipllbghaaTkn
import Derived.Test.YtpecepipllbghaaTk
set_option linter.unusedSimpArgs false
set_option linter.unusedVariables false
namespace Go.Fw
open Go Go.Proofs
set_option linter.unusedSectionVars false
set_option linter.unnecessarySimpa false

theorem part_drop (s : List UInt8) {f j : Nat} (h : f ≤ j) : (s.take j).drop f = (s.drop f).take (j - f) := by
  rw [List.drop_take]
theorem tk_no {ds : List Df} {s : List UInt8} {f : Nat} (hf : f ≤ s.length) {k j : Nat} (hk : k < ds.length) (hfj : f < j) (hj : j ≤ s.length) (ha : (ds.getD k ⟨[], []⟩).acc ((s.take j).drop f) = true) : (j : Int) ≤ (tk ds s f ds.length).t ∧ ((j : Int) = (tk ds s f ds.length).t → (tk ds s f ds.length).p ≤ k) := by
  have h1 := tk_ge ds s f ds.length k hk
  have h2 := long_ge (ds.getD k ⟨[], []⟩) s f (s.length - f) (j - f) (by omega) (by rw [← part_drop s (by omega)]; exact ha)
  have h3 : (j : Int) ≤ longest (ds.getD k ⟨[], []⟩) s f := by unfold longest; omega
  refine ⟨by omega, fun he => ?_⟩
  obtain ⟨p, p1, p2, p3, p4⟩ := tk_is ds s f ds.length (by omega)
  rcases Nat.lt_or_ge k p with hkp | hkp
  · have := p4 k hkp; omega
  · omega

set_option maxHeartbeats 1600000 in
set_option maxRecDepth 100000 in
theorem c_FnNextToken (code : List UInt8) (hl : code.length ≤ 9223372036854775807) : DCalls Try.prog 3 [.d (.list (codeD code))] fun y => y = .bool true := by
  refine dcalls_intro Ty.mixed Try.func3 rfl rfl rfl [] (by kernel_rfl) (by simp) ?_
  simp [codeD_lenD]
  intro h20
  refine .tdat (c_DrawNextToken code) rfl (by simp) ?_
  rintro _ ⟨ds, s, f, rfl, hd, ht, hs, hf1, hf2⟩
  have hdf : ∀ a ∈ ds, a.fine := fun a ha => (ht a ha).fine
  simp
  refine .tdat (c_NextToken ds s f (by omega) hdf (by omega)) rfl (by simp) ?_
  intro r hr
  have hS : TCalls Try.prog 15 [.d (dsD ds), sA s, iA f] fun q => q = r := tmono (c_sNextToken ds s f (by omega) hdf (by omega)) fun q hq => hq.uniq hr
  have hcase : (r = [tokD 0 0 0, .bool false]) ∨ (nxOk ds s f ∧ tkOk ds s f.toNat = true ∧ r = [tokD (tk ds s f.toNat ds.length).p f.toNat (tk ds s f.toNat ds.length).t, .bool true]) := by
    rcases hr with ⟨h1, rfl⟩ | ⟨_, rfl⟩
    · unfold tkR tkD
      cases hk : tkOk ds s f.toNat with
      | true => exact .inr ⟨h1, rfl, rfl⟩
      | false => exact .inl rfl
    · exact .inl rfl
  rcases hcase with rfl | ⟨⟨h1, h2, h3, h4⟩, hk, rfl⟩
  · simp [tokD] at hS ⊢
    refine .tdat hS rfl (by simp) ?_
    rintro _ rfl
    simp
    refine .flat (fun _ => c_alive) rfl (by simp) rfl (by simp) ?_
    simp
  · obtain ⟨f, rfl⟩ : ∃ z : Nat, f = z := ⟨f.toNat, by omega⟩
    have hsa := letters_all h2
    have hwl : (s.length : Int) ≤ 30 := letters_len h2
    have hfl : f ≤ s.length := by omega
    rw [Int.toNat_natCast] at hk hS ⊢
    have hlt : (f : Int) < (tk ds s f ds.length).t := by simpa [tkOk] using hk
    obtain ⟨p, p1, p2, p3, p4⟩ := tk_is ds s f ds.length hlt
    have hb := tk_bd ds s hfl ds.length
    have hno := fun (k j : Nat) (hk : k < ds.length) (hfj : f < j) (hj : j ≤ s.length) => tk_no hfl hk hfj hj
    obtain ⟨t, hte⟩ : ∃ t : Nat, (tk ds s f ds.length).t = t := ⟨(tk ds s f ds.length).t.toNat, by omega⟩
    rw [p2, hte] at hno hS ⊢
    rw [hte] at hb p3 hlt
    have hokp := okPats_get h1 p1
    have hpd := getD_row (xs := ds) (i := p) ⟨[], []⟩ p1
    have hpf := hdf _ (List.mem_of_getElem? hpd.1)
    have hpacc : (ds.getD p ⟨[], []⟩).acc ((s.take t).drop f) = true := by
      obtain ⟨i, i1, i2, i3⟩ := long_acc (ds.getD p ⟨[], []⟩) s f (s.length - f) (by unfold longest at p3; omega)
      have : t = f + i := by unfold longest at p3; omega
      rw [part_drop s (by omega), this, Nat.add_sub_cancel_left]; exact i3
    clear p3 p4
    generalize ds.getD p ⟨[], []⟩ = bp at *
    have htl : t ≤ s.length := by omega
    have hft : f < t := by omega
    have hww : IntKind.i64.wrap ((f : Int) + 1) = ((f + 1 : Nat) : Int) := by rw [wrap64 (by omega) (by omega)]; omega
    simp [tokD] at hS ⊢
    refine .tdat hS rfl (by simp) ?_
    rintro _ rfl
    simp
    refine ⟨by omega, ?_⟩
    intro _ _ _
    refine LoopVC.at { k : Nat // k ≤ ds.length } (fun k => [(3, .d (dsD ds)), (4, sA s), (5, iA f), (6, .ptr 600 0), (10, iA k.1)]) (fun _ => [(600, .bx [.d (iD p), .d (iD f), .d (iD t)])]) [600] (fun k => ds.length - k.1) ⟨0, by omega⟩ (by simp) (by simp) ?_
    rintro ⟨k, hk'⟩
    rcases Nat.lt_or_ge k ds.length with hkl | hkl
    · have a1 := getD_row (xs := ds) (i := k) ⟨[], []⟩ hkl
      have hok := okPats_get h1 hkl
      have hkf := hdf _ (List.mem_of_getElem? a1.1)
      have hno := fun j => hno k j hkl
      generalize ds.getD k ⟨[], []⟩ = a at *
      simp [hkl, hww]
      refine LoopVC.at { j : Nat // f < j ∧ j ≤ s.length + 1 } (fun j => [(3, .d (dsD ds)), (4, sA s), (5, iA f), (6, .ptr 600 0), (10, iA k), (11, iA j.1)]) (fun _ => [(600, .bx [.d (iD p), .d (iD f), .d (iD t)])]) [600] (fun j => s.length + 1 - j.1) ⟨f + 1, by omega, by omega⟩ (by simp) (by simp) ?_
      rintro ⟨j, hj1, hj2⟩
      have hwj : IntKind.i64.wrap ((j : Int) - f) = (j : Int) - f := wrap64 (by omega) (by omega)
      simp [hwj]
      refine ⟨fun g1 g2 => ?_, fun _ => ?_⟩
      · refine .one (sch [.pur 0, .pur 1, .pur 2, .pur 3, .pur 4, .pur 5, .pur 6, .pur 7, .eff 8 [], .pur 9, .pur 10, .pur 11, .pur 12, .pur 13, .pur 14, .pur 15, .pur 16, .pur 17, .pur 18, .pur 19, .pur 20, .pur 21, .pur 22, .pur 23, .pur 24, .pur 25, .pur 26]) (by kernel_rfl) ?_
        simp [hkl, a1, Df.d, g1, show f ≤ j by omega]
        refine .dval (c_DfaAccepts a ((s.take j).drop f) hkf (by simp; omega)) rfl (by simp [Df.d]) rfl ?_
        have hfalse : accDf a ((s.take j).drop f) = true → ¬ ((t : Int) < j ∨ (j : Int) = t ∧ (k : Int) < p) := fun hacc => by
          have hw : a.acc ((s.take j).drop f) = true := by
            simp only [accDf, Bool.and_eq_true] at hacc
            exact hacc.2
          obtain ⟨e1, e2⟩ := hno j hj1 g1 hw
          intro h
          rcases h with h | ⟨h, h'⟩
          · omega
          · have := e2 h; omega
        generalize accDf a ((s.take j).drop f) = acc at *
        simp
        refine ⟨fun a1 a2 => ⟨⟨a1, a2⟩, fun e => ⟨⟨a1, a2⟩, e⟩⟩, fun a1 => ⟨a1, fun a2 => ⟨a1, a2⟩⟩, fun hacc => ?_, fun _ => ?_⟩
        · have h := hfalse hacc
          exact ⟨by omega, fun e => by omega⟩
        · exact ⟨j + 1, .mk (by simp; exact wrap64 (by omega) (by omega)) (by simp), ⟨by omega, by omega⟩, by omega⟩
      · exact ⟨k + 1, .mk (by simp; exact wrap64 (by omega) (by omega)) (by simp), by omega, by omega⟩
    · have : k = ds.length := by omega
      subst this
      have hwt : IntKind.i64.wrap ((t : Int) - f) = (t : Int) - f := wrap64 (by omega) (by omega)
      simp
      refine .one (sch [.pur 0, .pur 1, .pur 2, .pur 3, .pur 4, .pur 5, .pur 6, .pur 7, .pur 8, .pur 9, .pur 10, .pur 11, .pur 12, .pur 13, .pur 14, .pur 15, .eff 16 [], .pur 17, .pur 18]) (by kernel_rfl) ?_
      simp [hwt, p1, hpd, Df.d, htl, show f ≤ t by omega]
      refine .flat (fun _ => c_DfaAccepts bp ((s.take t).drop f) hpf (by simp; omega)) rfl (by simp [Df.d]) rfl (by simp) ?_
      simp
      by_cases h8 : 8 < (t : Int) - f
      · exact .inl h8
      · refine .inr ?_
        have hw : wordOk ((s.take t).drop f) = true := by
          simp only [wordOk, lettersOk, Bool.and_eq_true, decide_eq_true_eq]
          refine ⟨?_, by simp; omega⟩
          rw [List.all_eq_true] at hsa ⊢
          exact fun x hx => hsa x (List.mem_of_mem_take (List.mem_of_mem_drop hx))
        simp [accDf, hokp, hw, hpacc]
end Go.Fw
