/- Contracts of the functions that draw. -/
import Derived.Test.YtpecepipllbghaaDoorLb
set_option linter.unusedSimpArgs false
set_option linter.unusedVariables false
namespace Go.Fw
open Go Go.Proofs

/-- The value of a draw below 'n'. -/
def pickOk (n v : Int) : Prop := 0 ≤ v ∧ (1 ≤ n → v < n) ∧ (n < 1 → v = 0)

theorem bits_nn {x : Int} (h : 0 ≤ x) (h2 : x < 4611686018427387904) : (BitVec.ofInt 64 x).toNat = x.toNat := by
  rw [BitVec.toNat_ofInt]; omega
theorem xor_nn {a b : Int} (ha : 0 ≤ a) (hb : 0 ≤ b) (ha2 : a < 4611686018427387904) (hb2 : b < 4611686018427387904) : 0 ≤ bitsV .xor .i64 a b ∧ bitsV .xor .i64 a b < 4611686018427387904 := by
  have h1 := bits_nn ha ha2
  have h2 := bits_nn hb hb2
  have h3 : (BitVec.ofInt 64 a ^^^ BitVec.ofInt 64 b).toNat < 2 ^ 62 := by
    rw [BitVec.toNat_xor, h1, h2]
    exact Nat.xor_lt_two_pow (by omega) (by omega)
  have : bitsV .xor .i64 a b = IntKind.i64.wrap ((BitVec.ofInt 64 a ^^^ BitVec.ofInt 64 b).toNat : Int) := rfl
  rw [this, wrap64 (by omega) (by omega)]
  omega

theorem getD_byte (code : List UInt8) (i : Nat) (h : i < code.length) : (codeD code)[i]? = some (byteD code[i]) := by
  simp [codeD, h]

set_option maxRecDepth 100000 in
theorem c_pick (code : List UInt8) (hc : code.length ≤ 1048576) (p n : Int) (hp : 0 ≤ p) (hp2 : p ≤ 1099511627776) (hn : -9223372036854775808 ≤ n) :
    RCalls Tryd.prog 45 [iA n] (rdB (codeD code) p) fun r b' => ∃ v, r = .one (iD v) ∧ b' = rdB (codeD code) (p + 1) ∧ pickOk n v := by
  refine rcalls_intro Ty.mixed Tryd.func45 rfl rfl rfl [] (by kernel_rfl) (by simp) ?_
  simp [rdB]
  have hlen : (codeD code).length = code.length := by simp [codeD]
  have e1 : IntKind.i64.wrap (p + 1) = p + 1 := wrap64 (by omega) (by omega)
  have ew : IntKind.i64.wrap p = p := wrap64 (by omega) (by omega)
  have hnil : codeD code = [] ↔ code = [] := by simp [codeD]
  have hg : ∀ i : Nat, i < code.length → ∃ b : UInt8, (codeD code)[i]? = some (.int .u8 b.toNat) ∧ ∀ h, (codeD code)[i]'h = .int .u8 b.toNat := fun i h => ⟨code[i], by simp [codeD, h, byteD], fun h => by simp [codeD, byteD]⟩
  simp [e1, ew, hlen, hnil]
  refine ⟨fun h => ?_, fun h1 h2 => ?_⟩
  · refine ⟨[.list (codeD code), iD (p + 1)], by simp, rfl, ?_⟩
    rcases h with h | h
    · exact ⟨by omega, fun h => by omega, fun _ => rfl⟩
    · exact ⟨by omega, fun h => by omega, fun _ => rfl⟩
  · have hpos : 0 < code.length := List.length_pos_iff.2 h2
    refine ⟨fun hlt => ?_, fun hge => ?_⟩
    · obtain ⟨b, hb, hb'⟩ := hg p.toNat (by omega)
      simp [hb, hb', hp, hlt, wrap_byte]
      refine ⟨by omega, [.list (codeD code), iD (p + 1)], by simp, rfl, ?_⟩
      rw [Int.tmod_eq_emod_of_nonneg (by omega)]
      exact ⟨Int.emod_nonneg _ (by omega), fun _ => Int.emod_lt_of_pos _ (by omega), fun h => by omega⟩
    · refine .one (sch [.pur 0, .pur 1, .pur 2, .pur 3, .pur 4, .pur 5, .pur 6, .pur 7, .pur 8, .pur 9, .pur 10, .pur 11, .pur 12, .pur 13, .pur 14, .pur 15, .pur 16, .pur 17, .pur 18, .pur 19, .pur 20, .pur 21, .pur 22, .pur 23, .pur 24, .pur 25, .pur 26, .pur 27, .pur 28, .pur 29, .pur 30, .pur 31, .pur 32, .pur 33, .pur 34, .pur 35, .pur 36, .pur 37, .pur 38, .pur 39, .pur 40, .pur 41, .pur 42, .pur 43, .pur 44, .pur 45]) (by kernel_rfl) ?_
      have k1 : IntKind.i64.wrap (p * 7) = p * 7 := wrap64 (by omega) (by omega)
      have k2 : IntKind.i64.wrap (p * 7 + 3) = p * 7 + 3 := wrap64 (by omega) (by omega)
      have m1 : 0 ≤ p.tmod code.length ∧ p.tmod code.length < code.length := by
        rw [Int.tmod_eq_emod_of_nonneg (by omega)]; exact ⟨Int.emod_nonneg _ (by omega), Int.emod_lt_of_pos _ (by omega)⟩
      have m2 : 0 ≤ (p * 7 + 3).tmod code.length ∧ (p * 7 + 3).tmod code.length < code.length := by
        rw [Int.tmod_eq_emod_of_nonneg (by omega)]; exact ⟨Int.emod_nonneg _ (by omega), Int.emod_lt_of_pos _ (by omega)⟩
      have d1 : 0 ≤ p.tdiv code.length ∧ p.tdiv code.length ≤ p := by
        rw [Int.tdiv_eq_ediv_of_nonneg (by omega)]; exact ⟨Int.ediv_nonneg (by omega) (by omega), Int.ediv_le_self _ (by omega)⟩
      obtain ⟨b, hb, hb'⟩ := hg (p.tmod code.length).toNat (by omega)
      obtain ⟨c, hc, hc'⟩ := hg ((p * 7 + 3).tmod code.length).toNat (by omega)
      have hb2 := b.toNat_lt
      have hc2 := c.toNat_lt
      simp [hb, hc, hb', hc', e1, ew, hlen, k1, k2, m1, m2, wrap_byte, h2]
      have w1 : IntKind.i64.wrap ((b.toNat : Int) * 131) = b.toNat * 131 := wrap64 (by omega) (by omega)
      have w2 : IntKind.i64.wrap ((c.toNat : Int) * 1117) = c.toNat * 1117 := wrap64 (by omega) (by omega)
      have w3 : IntKind.i64.wrap (p * 29) = p * 29 := wrap64 (by omega) (by omega)
      have w4 : IntKind.i64.wrap (p.tdiv code.length) = p.tdiv code.length := wrap64 (by omega) (by omega)
      have w5 : IntKind.i64.wrap (p.tdiv code.length * 53) = p.tdiv code.length * 53 := wrap64 (by omega) (by omega)
      have w6 : IntKind.i64.wrap ((b.toNat : Int) * 131 + c.toNat * 1117) = b.toNat * 131 + c.toNat * 1117 := wrap64 (by omega) (by omega)
      have w7 : IntKind.i64.wrap ((b.toNat : Int) * 131 + c.toNat * 1117 + p * 29) = b.toNat * 131 + c.toNat * 1117 + p * 29 := wrap64 (by omega) (by omega)
      have w8 : IntKind.i64.wrap ((b.toNat : Int) * 131 + c.toNat * 1117 + p * 29 + p.tdiv code.length * 53) = b.toNat * 131 + c.toNat * 1117 + p * 29 + p.tdiv code.length * 53 := wrap64 (by omega) (by omega)
      rw [w1, w2, w3, w4, w5, w6, w7, w8]
      generalize hx : (b.toNat : Int) * 131 + c.toNat * 1117 + p * 29 + p.tdiv code.length * 53 = x
      have hx0 : 0 ≤ x ∧ x < 4611686018427387904 := by omega
      have hx1 : 0 ≤ x.tdiv 64 ∧ x.tdiv 64 ≤ x := by
        rw [Int.tdiv_eq_ediv_of_nonneg (by omega)]; omega
      rw [wrap64 (n := x.tdiv 64) (by omega) (by omega)]
      have hxr := xor_nn hx0.1 hx1.1 hx0.2 (by omega)
      refine ⟨by omega, [.list (codeD code), iD (p + 1)], by simp, rfl, ?_⟩
      rw [Int.tmod_eq_emod_of_nonneg hxr.1]
      exact ⟨Int.emod_nonneg _ (by omega), fun _ => Int.emod_lt_of_pos _ (by omega), fun h => by omega⟩

/-- What a function that draws leaves behind: the reader has moved on, by 'k' at most. -/
def Drew (code : List UInt8) (p k : Int) (ok : RV → Prop) (r : RV) (b' : List D) : Prop := ∃ p', b' = rdB (codeD code) p' ∧ p ≤ p' ∧ p' ≤ p + k ∧ ok r

theorem d_pick (code : List UInt8) (hc : code.length ≤ 1048576) (p n : Int) (hp : 0 ≤ p) (hp2 : p ≤ 1099511627776) (hn : -9223372036854775808 ≤ n) :
    RCalls Tryd.prog 45 [iA n] (rdB (codeD code) p) (Drew code p 1 fun r => ∃ v, r = .one (iD v) ∧ pickOk n v) :=
  (c_pick code hc p n hp hp2 hn).mono fun r b' ⟨v, h1, h2, h3⟩ => ⟨p + 1, h2, by omega, by omega, v, h1, h3⟩

theorem d_odd (code : List UInt8) (hc : code.length ≤ 1048576) (p n : Int) (hp : 0 ≤ p) (hp2 : p ≤ 1099511627776) (hn : -9223372036854775808 ≤ n) :
    RCalls Tryd.prog 47 [iA n] (rdB (codeD code) p) (Drew code p 1 fun r => ∃ v, r = .one (.bool v)) := by
  refine rcalls_intro Ty.mixed Tryd.func47 rfl rfl rfl [] (by kernel_rfl) (by simp) ?_
  simp [rdB]
  by_cases h : 0 < n
  · simp [h]
    refine .go (by simp) (by simp) (fun _ => ?_) (by simp)
    simp
    refine .lend (b := rdB (codeD code) p) (d_pick code hc p n hp hp2 hn) (by simp [rdB]) (by simp) rfl (by simp) ?_
    rintro _ _ ⟨p', rfl, h1, h2, v, rfl, hv⟩
    simp [rdB]
    exact ⟨rdB (codeD code) p', rfl, p', rfl, h1, h2, by simp; omega⟩
  · simp [h]
    refine .go (by simp) (by simp) (by simp) (fun _ => ?_)
    simp
    exact ⟨rdB (codeD code) p, rfl, p, rfl, by omega, by omega, by simp⟩

theorem c_l20Open (code : List UInt8) : NCalls Tryd.prog 23 [.d (.list (codeD code))] fun b => ∃ code', b = rdB (codeD code') 0 ∧ code'.length ≤ 2000 := by
  refine ncalls_intro Ty.mixed Tryd.func23 rfl rfl rfl [] (by kernel_rfl) (by simp) ?_
  have hlen : (codeD code).length = code.length := by simp [codeD]
  rcases Nat.lt_or_ge 2000 code.length with h | h
  · have h0 : (codeD code)[0]? = some (.int .u8 (code.getD 0 0).toNat) := by simp [codeD, byteD, show 0 < code.length by omega]
    have h0' : ∀ h, (codeD code)[0]'h = .int .u8 (code.getD 0 0).toNat := fun h => by simp [codeD, byteD, show 0 < code.length by omega]
    have h' : (2000 : Int) < code.length := by omega
    simp [hlen, h', h0, h0']
    refine ⟨by omega, rdB (codeD (code.take 2000)) 0, by simp [rdB, codeD], code.take 2000, rfl, by simp; omega⟩
  · have h' : ¬ (2000 : Int) < code.length := by omega
    simp [hlen, h']
    exact ⟨rdB (codeD code) 0, rfl, code, rfl, h⟩

theorem d_l20Word (code : List UInt8) (hc : code.length ≤ 1048576) (p n : Int) (hp : 0 ≤ p) (hp2 : p ≤ 1099511627000) (hn : -9223372036854775808 ≤ n) :
    RCalls Tryd.prog 48 [iA n] (rdB (codeD code) p) (Drew code p 12 fun r => ∃ s, r = .one (sD s) ∧ s.length ≤ 9) := by
  refine rcalls_intro Ty.mixed Tryd.func48 rfl rfl rfl [] (by kernel_rfl) (by simp) ?_
  simp [rdB]
  refine .lend (b := rdB (codeD code) p) (d_pick code hc p 9 hp (by omega) (by omega)) (by simp [rdB]) (by simp) rfl (by simp) ?_
  rintro _ _ ⟨p1, rfl, h1, h2, k, rfl, hk⟩
  simp [rdB]
  refine LoopVC.at { q : List UInt8 × Int × Nat // p ≤ q.2.1 ∧ q.2.1 + q.2.2 ≤ p + 9 ∧ q.1.length + q.2.2 ≤ 8 } (fun q => [(0, .ptr 1 0), (1, iA n), (5, sA q.1.1), (6, iA q.1.2.2)]) (fun q => [(1, .bx [.d (.list (codeD code)), iA q.1.2.1])]) [] (fun q => q.1.2.2) ⟨([], p1, k.toNat), by
      obtain ⟨g1, g2, _⟩ := hk
      have := g2 (by omega)
      exact ⟨h1, by simp; omega, by simp; omega⟩⟩ (by
      obtain ⟨g1, g2, _⟩ := hk
      simp; omega) (by simp) ?_
  rintro ⟨⟨s, q, j⟩, hq1, hq2, hs⟩
  simp only at hq1 hq2 hs
  rcases Nat.eq_zero_or_pos j with hj | hj
  · subst hj
    simp
    refine .lend (b := rdB (codeD code) q) (d_odd code hc q n (by omega) (by omega) hn) (by simp [rdB]) (by simp) rfl (by simp) ?_
    rintro _ _ ⟨q', rfl, a1, a2, v, rfl⟩
    simp [rdB]
    refine ⟨fun hv => ?_, fun hv => ?_⟩
    · refine ⟨by omega, rfl, ?_⟩
      refine .lend (b := rdB (codeD code) q') (d_pick code hc q' 3 (by omega) (by omega) (by omega)) (by simp [rdB]) (by simp) rfl (by simp) ?_
      rintro _ _ ⟨q2, rfl, a3, a4, w, rfl, hw⟩
      obtain ⟨g1, g2, _⟩ := hw
      have g2 := g2 (by omega)
      obtain rfl | rfl | rfl : w = 0 ∨ w = 1 ∨ w = 2 := by omega
      all_goals
        simp [rdB]
        refine ⟨rdB (codeD code) q2, rfl, q2, rfl, by omega, by omega, _, rfl, ?_⟩
        simp
        try omega
    · exact ⟨rdB (codeD code) q', rfl, q', rfl, by omega, by omega, s, rfl, by omega⟩
  · simp [hj]
    refine .lend (b := rdB (codeD code) q) (d_pick code hc q 3 (by omega) (by omega) (by omega)) (by simp [rdB]) (by simp) rfl (by simp) ?_
    rintro _ _ ⟨q', rfl, a1, a2, v, rfl, hv⟩
    simp [rdB]
    refine ⟨by omega, s ++ [_], q', j - 1, .mk (by simp; exact ⟨rfl, by rw [wrap64 (by omega) (by omega)]; omega⟩) (by simp), ?_, by omega⟩
    simp; omega

theorem drew_roads (code : List UInt8) {p q : Int} (h1 : p ≤ q) (h2 : q ≤ p + 100) (M : Int) (xs : List Rd) (hx : xs.length ≤ 14) {ys : List D} (hy : ys = xs.map Rd.d) :
    ∃ b', [AV.d (D.list (codeD code)), AV.d (iD q)] = List.map AV.d b' ∧ Drew code p 100 (fun r => ∃ m rs, r = RV.one (roadsD m rs) ∧ rs.length ≤ 14) (RV.one (D.agg [D.int IntKind.i64 M, D.list ys])) b' :=
  ⟨rdB (codeD code) q, rfl, q, rfl, h1, h2, M, xs, by subst hy; rfl, hx⟩
theorem take_map_all {α β : Type} (f : α → β) (xs : List α) : List.take xs.length (xs.map f) = xs.map f := List.take_of_length_le (by simp)

theorem take_map_snoc (rs : List Rd) (a b c d : Int) : List.take (rs.length + 1) (rs.map Rd.d ++ [D.agg [iD a, iD b, iD c, iD d]]) = (rs ++ [Rd.mk a b c d]).map Rd.d := by
  rw [List.take_of_length_le (by simp)]; simp [Rd.d]

end Go.Fw
