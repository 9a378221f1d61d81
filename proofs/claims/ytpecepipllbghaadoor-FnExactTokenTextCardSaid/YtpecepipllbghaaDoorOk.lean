/- Expressions that are drawn. -/
import Derived.Test.YtpecepipllbghaaDoorOj
import Derived.Test.YtpecepipllbghaaDoorLc
set_option linter.unusedSimpArgs false
set_option linter.unusedVariables false
namespace Go.Fw
open Go Go.Proofs
set_option linter.unusedSectionVars false
set_option linter.unnecessarySimpa false

/-- What is drawn: parts, not too many; the reader has moved on. -/
def MadeE (code : List UInt8) (p k : Int) (n : Nat) (sz : Nat) (xs b' : List D) : Prop := sz = 2 ∧ ∃ (e : List Pt) (p' : Int), xs = e.map Pt.d ∧ e.length ≤ n ∧ b' = rdB (codeD code) p' ∧ p ≤ p' ∧ p' ≤ p + k

theorem madeE1 (code : List UInt8) {p q K : Int} {n : Nat} (k l : Int) (h1 : p ≤ q) (h2 : q ≤ p + K) (h3 : 1 ≤ n) : MadeE code p K n 2 [.agg [iD k, iD l]] (rdB (codeD code) q) :=
  ⟨rfl, [⟨k, l⟩], q, rfl, by simpa using h3, rfl, h1, h2⟩
theorem fits2 (e : List Pt) : ∀ y ∈ e.map Pt.d, y.fits 2 := by
  intro y hy
  simp only [List.mem_map] at hy
  obtain ⟨p, _, rfl⟩ := hy
  exact ⟨rfl, by simp [Pt.d, D.cells, D.isAgg]⟩
theorem madeE2 (code : List UInt8) {p q K : Int} {n : Nat} (e : List Pt) (k : Int) (h1 : p ≤ q) (h2 : q ≤ p + K) (h3 : e.length + 1 ≤ n) : MadeE code p K n 2 (e.map Pt.d ++ [.agg [iD k, iD 0]]) (rdB (codeD code) q) :=
  ⟨rfl, e ++ [⟨k, 0⟩], q, by simp [Pt.d], by simpa using h3, rfl, h1, h2⟩
theorem madeE3 (code : List UInt8) {p q K : Int} {n : Nat} (e f : List Pt) (k : Int) (h1 : p ≤ q) (h2 : q ≤ p + K) (h3 : e.length + f.length + 1 ≤ n) : MadeE code p K n 2 (e.map Pt.d ++ (f.map Pt.d ++ [.agg [iD k, iD 0]])) (rdB (codeD code) q) :=
  ⟨rfl, e ++ f ++ [⟨k, 0⟩], q, by simp [Pt.d], by simp; omega, rfl, h1, h2⟩
set_option maxRecDepth 100000 in
theorem q_l20Make (code : List UInt8) (hc : code.length ≤ 1048576) (plain : Bool) : ∀ (d : Nat), d ≤ 3 → ∀ (p : Int), 0 ≤ p → p + 6 * 2 ^ d ≤ 1099511620000 →
    QCalls Tryd.prog 71 [iA d, .d (.bool plain)] (rdB (codeD code) p) (MadeE code p (6 * 2 ^ d - 3) (2 * 2 ^ d - 1)) := by
  intro d
  induction d with
  | zero =>
    intro hd p hp hp2
    refine qcalls_intro Ty.mixed Tryd.func71 rfl rfl rfl [] (by kernel_rfl) (by simp) ?_
    simp [rdB]
    refine .go (by simp) (by simp) (by simp) (fun _ => ?_)
    simp
    refine .lend (b := rdB (codeD code) p) (d_pick code hc p 9 (by omega) (by omega) (by omega)) (by simp [rdB]) (by simp) rfl (by simp) ?_
    rintro _ _ ⟨q1, rfl, a1, a2, v1, rfl, hv1⟩
    simp [rdB]
    refine ⟨fun h0 => ?_, fun h0 => ⟨fun h1 => ?_, fun h1 => ?_⟩⟩
    · exact ⟨rdB (codeD code) q1, madeE1 code 2 0 (by omega) (by omega) (by omega), rfl⟩
    · refine ⟨rfl, ?_⟩
      refine .lend (b := rdB (codeD code) q1) (d_pick code hc q1 3 (by omega) (by omega) (by omega)) (by simp [rdB]) (by simp) rfl (by simp) ?_
      rintro _ _ ⟨q2, rfl, b1, b2, v2, rfl, hv2⟩
      obtain ⟨g1, g2, _⟩ := hv2
      have g2 := g2 (by omega)
      obtain rfl | rfl | rfl : v2 = 0 ∨ v2 = 1 ∨ v2 = 2 := by omega
      all_goals
        simp [rdB]
        exact ⟨rdB (codeD code) q2, madeE1 code _ 0 (by omega) (by omega) (by omega), rfl⟩
    · refine .lend (b := rdB (codeD code) q1) (d_pick code hc q1 3 (by omega) (by omega) (by omega)) (by simp [rdB]) (by simp) rfl (by simp) ?_
      rintro _ _ ⟨q2, rfl, b1, b2, v2, rfl, hv2⟩
      simp [rdB]
      exact ⟨rdB (codeD code) q2, madeE1 code 3 v2 (by omega) (by omega) (by omega), rfl⟩
  | succ d ih =>
    intro hd p hp hp2
    refine qcalls_intro Ty.mixed Tryd.func71 rfl rfl rfl [] (by kernel_rfl) (by simp) ?_
    have hd0 : ¬ ((d : Int) + 1 = 0) := by omega
    have hN : 1 ≤ 2 ^ d := Nat.one_le_two_pow
    have hN2 : 2 ^ (d + 1) = 2 * 2 ^ d := by rw [Nat.pow_succ]; omega
    have hNi : (2 : Int) ^ (d + 1) = 2 * (2 : Int) ^ d := by rw [Int.pow_succ]; omega
    have hNc : ((2 ^ d : Nat) : Int) = (2 : Int) ^ d := by simp
    rw [hNi] at hp2
    have hd1 : ((d : Int) + 1 == 0) = false := by simp; omega
    have hdw : IntKind.i64.wrap (d : Int) = d := wrap64 (by omega) (by omega)
    simp [rdB, hd0, hd1]
    refine .go (by simp) (by simp) (fun _ => ?_) (by simp)
    simp
    refine .lend (b := rdB (codeD code) p) (d_pick code hc p 4 hp (by omega) (by omega)) (by simp [rdB]) (by simp) rfl (by simp) ?_
    rintro _ _ ⟨q0, rfl, a1, a2, v0, rfl, hv0⟩
    have hN8 : 2 ^ d ≤ 4 := by
      have : d ≤ 2 := by omega
      calc 2 ^ d ≤ 2 ^ 2 := Nat.pow_le_pow_right (by omega) this
        _ = 4 := rfl
    rw [hN2, hNi]
    generalize hNN : 2 ^ d = N at *
    generalize (2 : Int) ^ d = Ni at *
    simp [rdB]
    refine ⟨fun _ => ?_, fun _ => ?_⟩
    · refine .lend (b := rdB (codeD code) q0) (d_pick code hc q0 9 (by omega) (by omega) (by omega)) (by simp [rdB]) (by simp) rfl (by simp) ?_
      rintro _ _ ⟨q1, rfl, a3, a4, v1, rfl, hv1⟩
      simp [rdB]
      refine ⟨fun h0 => ?_, fun h0 => ⟨fun h1 => ?_, fun h1 => ?_⟩⟩
      · exact ⟨rdB (codeD code) q1, madeE1 code 2 0 (by omega) (by omega) (by omega), rfl⟩
      · refine ⟨rfl, ?_⟩
        refine .lend (b := rdB (codeD code) q1) (d_pick code hc q1 3 (by omega) (by omega) (by omega)) (by simp [rdB]) (by simp) rfl (by simp) ?_
        rintro _ _ ⟨q2, rfl, b1, b2, v2, rfl, hv2⟩
        obtain ⟨g1, g2, _⟩ := hv2
        have g2 := g2 (by omega)
        obtain rfl | rfl | rfl : v2 = 0 ∨ v2 = 1 ∨ v2 = 2 := by omega
        all_goals
          simp [rdB]
          exact ⟨rdB (codeD code) q2, madeE1 code _ 0 (by omega) (by omega) (by omega), rfl⟩
      · refine .lend (b := rdB (codeD code) q1) (d_pick code hc q1 3 (by omega) (by omega) (by omega)) (by simp [rdB]) (by simp) rfl (by simp) ?_
        rintro _ _ ⟨q2, rfl, b1, b2, v2, rfl, hv2⟩
        simp [rdB]
        exact ⟨rdB (codeD code) q2, madeE1 code 3 v2 (by omega) (by omega) (by omega), rfl⟩
    · refine ⟨rfl, ?_⟩
      refine .lend (b := rdB (codeD code) q0) (d_pick code hc q0 9 (by omega) (by omega) (by omega)) (by simp [rdB]) (by simp) rfl (by simp) ?_
      rintro _ _ ⟨q1, rfl, a3, a4, w, rfl, hw⟩
      obtain ⟨g1, g2, _⟩ := hw
      have g2 := g2 (by omega)
      obtain ⟨kv, hkv, hkk⟩ : ∃ kv : Int, ([D.int .i64 4, D.int .i64 4, D.int .i64 4, D.int .i64 5, D.int .i64 5, D.int .i64 8, D.int .i64 8, D.int .i64 6, D.int .i64 7] : List D)[w.toNat]? = some (D.int .i64 kv) ∧ (kv = 4 ∨ kv = 5 ∨ kv = 6 ∨ kv = 7 ∨ kv = 8) := by
        obtain rfl | rfl | rfl | rfl | rfl | rfl | rfl | rfl | rfl : w = 0 ∨ w = 1 ∨ w = 2 ∨ w = 3 ∨ w = 4 ∨ w = 5 ∨ w = 6 ∨ w = 7 ∨ w = 8 := by omega
        all_goals exact ⟨_, rfl, by omega⟩
      have hw9 : w.toNat < 9 := by omega
      have hkv' := (List.getElem?_eq_some_iff.1 hkv).2
      rcases hkk with rfl | rfl | rfl | rfl | rfl <;> cases plain
      all_goals simp [rdB, hkv, hkv', g1, g2, hw9, hdw]
      all_goals
        refine .lendS (b := rdB (codeD code) q1) 5300 (ih (by omega) q1 (by omega) (by omega)) (by simp [rdB]) (by simp) (by omega) (by simp) (by omega) rfl (by simp) ?_
        rintro _ _ _ ⟨rfl, e, q2, rfl, he, rfl, b1, b2⟩
        simp [rdB]
      all_goals first
        | exact ⟨⟨by omega, by omega⟩, rdB (codeD code) q2, madeE2 code e _ (by omega) (by omega) (by omega), rfl⟩
        | (refine .lend (b := rdB (codeD code) q2) (d_pick code hc q2 9 (by omega) (by omega) (by omega)) (by simp [rdB]) (by simp) rfl (by simp) ?_
           rintro _ _ ⟨q3, rfl, c1, c2, v3, rfl, hv3⟩
           simp [rdB, takeM, Pt.d, hdw]
           refine ⟨fun _ => ⟨⟨by omega, by omega⟩, ⟨by omega, by omega⟩, rdB (codeD code) q3, ⟨by omega, madeE3 code e e _ (by omega) (by omega) (by omega)⟩, rfl⟩, ?_⟩
           intro _
           refine .lendS (b := rdB (codeD code) q3) 7100 (ih (by omega) q3 (by omega) (by omega)) (by simp [rdB]) (by simp) (by omega) (by simp) (by omega) rfl (by simp) ?_
           rintro _ _ _ ⟨rfl, f, q4, rfl, hf, rfl, d1, d2⟩
           simp [rdB, takeM, Pt.d, hdw]
           exact ⟨⟨by omega, by omega⟩, ⟨by omega, by omega⟩, rdB (codeD code) q4, ⟨by omega, madeE3 code e f _ (by omega) (by omega) (by omega)⟩, rfl⟩)
end Go.Fw
