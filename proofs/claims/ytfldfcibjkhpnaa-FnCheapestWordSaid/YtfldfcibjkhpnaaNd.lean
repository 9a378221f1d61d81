/- The cheapest word: the law. -/
import Derived.Test.YtfldfcibjkhpnaaNa
set_option linter.unusedSimpArgs false
set_option linter.unusedVariables false
namespace Go.Fw
open Go Go.Proofs
set_option linter.unnecessarySimpa false

theorem codeD_lenC (code : List UInt8) : (codeD code).length = code.length := by simp [codeD]
theorem CheapIs.of {N : Nat} {rs : List Rd} {L : Int} {b : List UInt8} {c : Int} (h : CheapIs N rs L [sD b, iD c, .bool true]) : (okRoads N rs = true ∧ 0 ≤ L ∧ L ≤ 8) ∧ Chp N rs (fun w => w.all isL = true ∧ w.length < L.toNat + 1) b c ∧ 0 ≤ c := by
  rcases h with ⟨_, h⟩ | ⟨v, b', c', hc, h⟩
  · simp at h
  · simp at h
    obtain ⟨rfl, rfl, h0⟩ := h
    exact ⟨v, hc, h0⟩
theorem CheapIs.no {N : Int} {rs : List Rd} {L : Int} {b : List UInt8} {c : Int} (h : CheapIs N rs L [sD b, iD c, .bool false]) : b = [] ∧ c = -1 := by
  rcases h with ⟨_, h⟩ | ⟨v, b', c', hc, h⟩
  · simp at h; exact h
  · simp at h
    obtain ⟨rfl, rfl, h0⟩ := h
    rcases hc with ⟨h1, h2, _⟩ | ⟨_, h1, _⟩
    · exact ⟨h2, h1⟩
    · omega

set_option maxRecDepth 100000 in
theorem c_FnCheapestWord (code : List UInt8) (hl : code.length ≤ 9223372036854775807) : DCalls Try.prog 12 [.d (.list (codeD code))] fun y => y = .bool true := by
  refine dcalls_intro Ty.mixed Try.func12 rfl rfl rfl [] (by kernel_rfl) (by simp) ?_
  simp [codeD_lenC]
  intro h20
  refine .tdat (c_DrawCheapestWord code) rfl (by simp) ?_
  rintro _ ⟨n, rs, L, rfl, hrs, hL1, hL2⟩
  simp [roadsD, rsD]
  refine .tdat (c_CheapestWord n rs L (by omega)) rfl (by simp [roadsD, rsD]) ?_
  rintro r hr
  obtain ⟨b, c, o, rfl⟩ := hr.shape
  simp
  refine .tdat (c_sCheapestWord n rs L (by omega)) rfl (by simp [roadsD, rsD]) ?_
  rintro q hq
  have e := hq.uniq hr
  subst e
  simp
  refine ⟨fun ho => ?_, fun ho => ?_⟩
  · have hr' := hr
    rw [ho] at hr'
    obtain ⟨e1, e2⟩ := hr'.no
    refine .flat (fun _ => c_alive) rfl (by simp) rfl (by simp) ?_
    simp [e1, e2]
  · have hr' := hr
    rw [ho] at hr'
    have hn1 : okRoads n rs = true := by
      rcases hr' with ⟨_, h⟩ | ⟨v, _⟩
      · simp at h
      · exact v.1
    obtain ⟨N, rfl⟩ : ∃ N : Nat, n = N := by have := (okRoads_of hn1).1; exact ⟨n.toNat, by omega⟩
    obtain ⟨⟨hv, hLl, hLu⟩, hch, h0⟩ := hr'.of
    have hch2 : (b.all isL = true ∧ b.length < L.toNat + 1) ∧ cw N rs b = c ∧ ∀ w, (w.all isL = true ∧ w.length < L.toNat + 1) → 0 ≤ cw N rs w → c < cw N rs w ∨ (c = cw N rs w ∧ num b ≤ num w) := by
      rcases hch with ⟨h, _⟩ | ⟨h1, h2, h3, h4⟩
      · omega
      · exact ⟨h1, h3, h4⟩
    obtain ⟨⟨b1, b2⟩, b3, b4⟩ := hch2
    have hbo : wordOk b = true := wordOk_of.2 ⟨b1, by omega⟩
    have hrb := rank_num hbo
    have h9 : shorterN 9 = 9841 := by decide
    refine LoopVC.at { k : Nat // k ≤ 13 } (fun k => [(3, .ptr 300 0), (4, iA L), (5, sA b), (6, iA c), (11, iA k.1)]) (fun _ => [(300, .bx [iA N, .d (rsD rs)])]) [300] (fun k => 13 - k.1) ⟨0, by simp⟩ (by simp [rsD]) (by simp [rsD]) ?_
    rintro ⟨k, hk⟩
    rcases Nat.lt_or_ge k 13 with hk' | hk'
    · obtain ⟨w1, w2⟩ := wordAt_is (m := (k : Int)) (by omega) (by omega)
      have hwl : (wordAt k).length < 9 := (num_lt w1 (n := 9)).1 (by rw [w2]; omega)
      have hwo : wordOk (wordAt k) = true := wordOk_of.2 ⟨w1, by omega⟩
      have hbc := cw_best (rs := rs) hv hwo
      have hrw := rank_num hwo
      simp [show (k : Int) < 13 by omega]
      refine .tdat (c_WordAt k (by omega)) rfl (by simp) ?_
      rintro _ rfl
      rw [if_pos ⟨by omega, by omega⟩]
      have hx4 := b4 (wordAt k)
      generalize wordAt (k : Int) = x at *
      simp [rsD]
      refine .dval (c_BestCost N rs x (by omega) (by omega)) rfl (by simp [roadsD, rsD]) rfl ?_
      rw [hbc]
      simp
      refine .flat (fun _ => c_WordRank x (by omega)) rfl (by simp) rfl (by simp) ?_
      simp
      refine .flat (fun _ => c_WordRank b (by omega)) rfl (by simp) rfl (by simp) ?_
      simp [hrb, hrw]
      refine ⟨fun h1 h2 h3 => ⟨⟨⟨h1, h2⟩, h3⟩, fun h4 => ⟨⟨⟨h1, h2⟩, h3⟩, h4⟩⟩, fun h1 h2 => ⟨⟨h1, h2⟩, fun h3 => ⟨⟨h1, h2⟩, h3⟩⟩, fun h1 h2 => ?_, fun hno => ?_⟩
      · have := hx4 ⟨w1, by omega⟩ h2
        exact ⟨by omega, fun h3 => by omega⟩
      · refine ⟨k + 1, .mk (by simp [rsD]; exact wrap64 (by omega) (by omega)) (by simp [rsD]), hk', by omega⟩
    · have : k = 13 := by omega
      subst this
      have hmin : min 8 (IntKind.i64.wrap (L + 1)) = min 8 (L + 1) := by rw [wrap64 (by omega) (by omega)]
      have hbb := cw_best (rs := rs) hv hbo
      simp [rsD, hmin]
      refine .tdat (c_CheapestWord N rs (min 8 (L + 1)) (by omega)) rfl (by simp [roadsD, rsD]) ?_
      rintro r2 hr2
      obtain ⟨u, e, o2, hsh, he1, he2⟩ : ∃ u e o2, r2 = [sD u, iD e, .bool o2] ∧ 0 ≤ e ∧ e ≤ c := by
        rcases hr2 with ⟨hno, _⟩ | ⟨_, u, e, hc2, hs2⟩
        · exact absurd ⟨hv, by omega, by omega⟩ hno
        · refine ⟨u, e, _, hs2, ?_⟩
          have hbS : b.all isL = true ∧ b.length < (min 8 (L + 1)).toNat + 1 := ⟨b1, by omega⟩
          have ec : (Int.toNat (N : Int)) = N := by omega
          rw [ec] at hc2
          rcases hc2 with ⟨_, _, h⟩ | ⟨_, h1, _, h⟩
          · have := h b hbS; omega
          · have := h b hbS (by omega); exact ⟨h1, by omega⟩
      subst hsh
      simp
      refine .dval (c_BestCost N rs b (by omega) (by omega)) rfl (by simp [roadsD, rsD]) rfl ?_
      rw [hbb, b3]
      simp
      omega
end Go.Fw
