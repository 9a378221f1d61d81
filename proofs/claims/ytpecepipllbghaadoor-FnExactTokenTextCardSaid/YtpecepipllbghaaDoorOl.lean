/- Automata that are drawn. -/
import Derived.Test.YtpecepipllbghaaDoorOk
set_option linter.unusedSimpArgs false
set_option linter.unusedVariables false
namespace Go.Fw
open Go Go.Proofs
set_option linter.unusedSectionVars false
set_option linter.unnecessarySimpa false

structure Df.tiny (a : Df) : Prop where
  nl : a.next.length ≤ 41
  el : a.ends.length ≤ 41
  row : ∀ x ∈ a.next, x.length ≤ 3
theorem Df.tiny.fine {a : Df} (h : a.tiny) : a.fine := ⟨by have := h.nl; omega, fun x hx => by have := h.row x hx; omega, by have := h.el; omega⟩
theorem tiny_of_ok {a : Df} (h : okDf a = true) : a.tiny := by
  obtain ⟨n1, n2, n3⟩ := okDf_len h
  refine ⟨by omega, by omega, fun x hx => ?_⟩
  obtain ⟨i, hi, rfl⟩ := List.mem_iff_getElem.1 hx
  have := (okDf_row h hi).1
  rw [← (getD_row (xs := a.next) (i := i) [] hi).2 hi] at this
  omega

/-- What is drawn of an automaton: so many states. -/
structure DfUp (k : Nat) (NX : List (List Int)) (EN : List Bool) : Prop where
  n : NX.length = k
  e : EN.length = k
  row : ∀ x ∈ NX, x.length ≤ 3
theorem DfUp.snoc {k : Nat} {NX : List (List Int)} {EN : List Bool} (h : DfUp k NX EN) {x : List Int} (hx : x.length = 3) (b : Bool) : DfUp (k + 1) (NX ++ [x]) (EN ++ [b]) := by
  refine ⟨by simp [h.n], by simp [h.e], fun y hy => ?_⟩
  rcases List.mem_append.1 hy with hy | hy
  · exact h.row y hy
  · simp at hy; subst hy; omega
structure DG where
  k : Nat
  NX : List (List Int)
  EN : List Bool
  q : Int
structure DR where
  c : Nat
  xs : List Int
  q : Int

theorem drewD (code : List UInt8) {p : Int} (x : Df) (hx : x.tiny) (q : Int) (h1 : p ≤ q) (h2 : q ≤ p + 100) {y : D} (hy : y = x.d) :
    ∃ b', [AV.d (D.list (codeD code)), AV.d (iD q)] = List.map AV.d b' ∧ Drew code p 100 (fun r => ∃ a : Df, r = .one a.d ∧ a.tiny) (RV.one y) b' :=
  ⟨rdB (codeD code) q, rfl, q, rfl, h1, h2, x, by rw [hy], hx⟩
theorem fitsT (NX : List (List Int)) (n : Nat) : ∀ y ∈ List.take n (List.map intsD NX).tail, y.fits 1 := by
  intro y hy
  obtain ⟨z, _, rfl⟩ := List.mem_map.1 (List.mem_of_mem_tail (List.mem_of_mem_take hy))
  exact ⟨rfl, by simp [D.cells, D.isAgg]⟩
theorem fitsB (NX : List (List Int)) : ∀ y ∈ (List.take NX.length (List.map intsD NX)).tail, y.fits 1 := by
  intro y hy
  obtain ⟨z, _, rfl⟩ := List.mem_map.1 (List.mem_of_mem_take (List.mem_of_mem_tail hy))
  exact ⟨rfl, by simp [D.cells, D.isAgg]⟩
theorem one1 {α : Type} {xs : List α} (f : α → D) (hf : ∀ x, (f x).cells.length = 1) (h : 1 < xs.length) : ((Option.map f xs[1]?).getD D.dflt).cells.length = 1 := by
  rw [List.getElem?_eq_getElem h]; exact hf _
set_option maxRecDepth 100000 in
set_option maxHeartbeats 800000 in
theorem d_l20Dfa (code : List UInt8) (hc : code.length ≤ 1048576) (p n : Int) (hp : 0 ≤ p) (hp2 : p ≤ 1099511610000) (hn : -9223372036854775808 ≤ n) :
    RCalls Tryd.prog 62 [iA n] (rdB (codeD code) p) (Drew code p 100 fun r => ∃ a : Df, r = .one a.d ∧ a.tiny) := by
  refine rcalls_intro Ty.mixed Tryd.func62 rfl rfl rfl [] (by kernel_rfl) (by simp) ?_
  simp [rdB]
  refine .lend (b := rdB (codeD code) p) (d_pick code hc p 7 hp (by omega) (by omega)) (by simp [rdB]) (by simp) rfl (by simp) ?_
  rintro _ _ ⟨q, rfl, h1, h2, v, rfl, hv⟩
  obtain ⟨v1, v2, _⟩ := hv
  have v2 := v2 (by omega)
  obtain ⟨S, hS⟩ : ∃ S : Nat, 1 + v = S := ⟨(1 + v).toNat, by omega⟩
  have hw : IntKind.i64.wrap (1 + v) = S := by rw [wrap64 (by omega) (by omega)]; exact hS
  simp [rdB, hw]
  refine LoopVC.wk (Wk.adoptBx 500 0 901 1 (cs := [.nl, .nl]) (by simp) rfl (by simp)) ?_
  refine LoopVC.wk (Wk.adoptBx 500 1 902 1 (cs := [.sl 1 901 0 0, .nl]) (by simp) rfl (by simp)) ?_
  refine LoopVC.at { g : DG // g.k ≤ S ∧ DfUp g.k g.NX g.EN ∧ p ≤ g.q ∧ g.q ≤ p + 1 + 4 * g.k } (fun g => [(0, .ptr 1 0), (1, iA n), (4, .ptr 400 0), (5, .ptr 500 0), (6, iA S), (7, iA g.1.k)])
    (fun g => [(1, .bx [.d (.list (codeD code)), iA g.1.q]), (400, .bx [.nl, .nl]), (500, .bx [.sl 1 901 0 g.1.k, .sl 1 902 0 g.1.k]), (901, .ar 1 (g.1.NX.map intsD)), (902, .ar 1 (g.1.EN.map bD))]) [1, 400, 500, 901, 902] (fun g => S - g.1.k) ⟨⟨0, [], [], q⟩, by simp, ⟨rfl, rfl, by simp⟩, h1, by simp; omega⟩ (by simp) (by simp) ?_
  rintro ⟨⟨k, NX, EN, q⟩, hk, hup, hq1, hq2⟩
  simp only at hk hup hq1 hq2
  have hnl := hup.n
  have hel := hup.e
  have hrw := hup.row
  rcases Nat.lt_or_ge k S with hkS | hkS
  · simp [hkS]
    refine LoopVC.at { g : DR // g.c ≤ 3 ∧ g.xs.length = g.c ∧ p ≤ g.q ∧ g.q ≤ p + 1 + 4 * k + g.c } (fun g => [(0, .ptr 1 0), (1, iA n), (4, .ptr 400 0), (5, .ptr 500 0), (6, iA S), (7, iA k), (8, .sl 1 2100 0 g.1.c), (9, iA g.1.c)])
      (fun g => [(1, .bx [.d (.list (codeD code)), iA g.1.q]), (400, .bx [.nl, .nl]), (500, .bx [.sl 1 901 0 k, .sl 1 902 0 k]), (901, .ar 1 (NX.map intsD)), (902, .ar 1 (EN.map bD)), (2100, .ar 1 (g.1.xs.map iD))]) [1, 400, 500, 901, 902, 2100] (fun g => 3 - g.1.c) ⟨⟨0, [], q⟩, by simp, rfl, hq1, by simp; omega⟩ (by simp) (by simp) ?_
    rintro ⟨⟨c, xs, q⟩, hc3, hxl, hq1, hq2⟩
    simp only at hc3 hxl hq1 hq2
    rcases Nat.lt_or_ge c 3 with hcl | hcl
    · simp [show (c : Int) < 3 by omega]
      refine .lend (b := rdB (codeD code) q) (d_pick code hc q S (by omega) (by omega) (by omega)) (by simp [rdB]) (by simp) rfl (by simp) ?_
      rintro _ _ ⟨q', rfl, h3, h4, w, rfl, hw⟩
      simp [rdB, hxl]
      refine ⟨⟨by omega, by omega⟩, ⟨c + 1, xs ++ [w], q'⟩, .mk ?_ ?_, ⟨hcl, by simp [hxl], by show p ≤ q'; omega, by show q' ≤ p + 1 + 4 * (k : Int) + ((c + 1 : Nat) : Int); omega⟩, by simp; omega⟩
      · simp; exact wrap64 (by omega) (by omega)
      · simp
    · have : c = 3 := by omega
      subst this
      simp [hnl, hxl]
      refine ⟨⟨by omega, by omega⟩, ?_⟩
      refine .one (sch [.pur 0, .pur 1, .pur 2, .eff 3 [0, 1], .pur 4, .eff 5 [0, 1], .eff 6 [], .pur 7, .eff 8 []]) (by kernel_rfl) ?_
      simp
      refine .lend (b := rdB (codeD code) q) (d_pick code hc q 3 (by omega) (by omega) (by omega)) (by simp [rdB]) (by simp) rfl (by simp) ?_
      rintro _ _ ⟨q', rfl, h3, h4, w, rfl, hw⟩
      have htx : List.take 3 (xs.map iD) = xs.map iD := List.take_of_length_le (by simp [hxl])
      simp [rdB, hel, htx]
      refine ⟨⟨by omega, by omega⟩, ⟨k + 1, NX ++ [xs], EN ++ [w == 0], q'⟩, .mk ?_ ?_, ⟨hkS, hup.snoc hxl _, by show p ≤ q'; omega, by show q' ≤ p + 1 + 4 * ((k + 1 : Nat) : Int); omega⟩, by simp; omega⟩
      · simp; exact wrap64 (by omega) (by omega)
      · simp [htx]
  · have : k = S := by omega
    subst this
    simp
    refine .lend (b := rdB (codeD code) q) (d_odd code hc q 3 (by omega) (by omega) (by omega)) (by simp [rdB]) (by simp) rfl (by simp) ?_
    rintro _ _ ⟨q1, rfl, h3, h4, w, rfl⟩
    have hT : (Df.mk NX EN).tiny := ⟨by simp; omega, by simp; omega, hrw⟩
    have hT0 : (Df.mk NX EN.tail).tiny := ⟨by simp; omega, by simp; omega, hrw⟩
    have hT1 : ∀ r : List Int, r.length ≤ 3 → (Df.mk (r :: NX.tail) EN).tiny := fun r hr => ⟨by simp; omega, by simp; omega, fun x hx => by
      simp at hx
      rcases hx with rfl | hx
      · exact hr
      · exact hrw x (List.mem_of_mem_tail hx)⟩
    have hk7 : k ≤ 7 := by omega
    have hk1 : 1 ≤ k := by omega
    simp [rdB]
    refine ⟨fun _ => ?_, fun _ => ?_⟩
    · refine .lend (b := rdB (codeD code) q1) (d_pick code hc q1 3 (by omega) (by omega) (by omega)) (by simp [rdB]) (by simp) rfl (by simp) ?_
      rintro _ _ ⟨q2, rfl, h5, h6, u, rfl, hu⟩
      obtain ⟨u1, u2, _⟩ := hu
      have u2 := u2 (by omega)
      obtain ⟨D, hD, hD3⟩ : ∃ D : Nat, 1 + u = D ∧ D ≤ 3 := ⟨(1 + u).toNat, by omega, by omega⟩
      have hDw : IntKind.i64.wrap (1 + u) = D := by rw [wrap64 (by omega) (by omega)]; exact hD
      have hN8 : 2 ^ D ≤ 8 := by
        calc 2 ^ D ≤ 2 ^ 3 := Nat.pow_le_pow_right (by omega) hD3
          _ = 8 := rfl
      have hNc : ((2 ^ D : Nat) : Int) = (2 : Int) ^ D := by simp
      have hmk := q_l20Make code hc false D hD3 q2 (by omega) (by omega)
      simp [rdB, hDw]
      refine .lendS (b := rdB (codeD code) q2) 5300 hmk (by simp [rdB]) (by simp) (by omega) (by simp) (by omega) rfl (by simp) ?_
      rintro _ _ _ ⟨rfl, e, q3, rfl, he, rfl, b1, b2⟩
      simp [rdB]
      refine .tdropE (c_CompileExpr e (by omega)) rfl (by simp [takeM]) (by simp) ?_
      rintro _ ⟨x, ok, rfl, hx⟩
      cases ok with
      | false =>
        simp [Df.d]
        refine .lend (b := rdB (codeD code) q3) (d_odd code hc q3 n (by omega) (by omega) hn) (by simp [rdB]) (by simp) rfl (by simp) ?_
        rintro _ _ ⟨r2, rfl, j5, j6, w2, rfl⟩
        simp [rdB]
        refine ⟨fun _ => ?_, fun _ => ⟨⟨by omega, by omega⟩, drewD code ⟨NX, EN⟩ hT r2 (by omega) (by omega) (by rw [List.take_of_length_le (by simp; omega), List.take_of_length_le (by simp; omega)]; rfl)⟩⟩
        refine .lend (b := rdB (codeD code) r2) (d_pick code hc r2 4 (by omega) (by omega) (by omega)) (by simp [rdB]) (by simp) rfl (by simp) ?_
        rintro _ _ ⟨r3, rfl, j7, j8, s, rfl, hs⟩
        obtain ⟨s1, s2, _⟩ := hs
        have s2 := s2 (by omega)
        obtain rfl | rfl | rfl | rfl : s = 0 ∨ s = 1 ∨ s = 2 ∨ s = 3 := by omega
        · simp [rdB]
          refine ⟨by omega, ⟨by omega, by omega⟩, drewD code ⟨NX, EN.tail⟩ hT0 r3 (by omega) (by omega) ?_⟩
          rw [List.take_of_length_le (by simp; omega), List.take_of_length_le (by simp; omega), ← List.map_tail]; rfl
        · simp [rdB]
          refine ⟨rfl, by omega, ⟨by omega, fitsT NX _, by omega, by omega⟩, ⟨by omega, by omega⟩, drewD code ⟨[0, 0] :: NX.tail, EN⟩ (hT1 _ (by simp)) r3 (by omega) (by omega) ?_⟩
          rw [List.take_of_length_le (l := List.map bD EN) (by simp; omega), List.take_of_length_le (l := (List.map intsD NX).tail) (by simp; omega), List.take_of_length_le (by simp; omega), ← List.map_tail]; rfl
        · simp [rdB]
          refine .one (schA [.pur 0, .pur 1, .pur 2, .pur 4, .pur 10, .pur 11, .pur 12] (.alt 3 [4, 10, 11, 12] (sch [.eff 5 [0, 1, 2, 10, 11, 12], .pur 6, .pur 7, .eff 8 [10, 11, 12], .eff 9 [10, 11, 12], .eff 13 [], .pur 14, .eff 15 []]) 5 [0, 1, 2, 10, 11, 12] (sch [.eff 3 [4, 10, 11, 12], .pur 6, .pur 7, .eff 8 [10, 11, 12], .eff 9 [10, 11, 12], .eff 13 [], .pur 14, .eff 15 []]))) (by kernel_rfl) ?_
          simp
          refine ⟨by omega, ⟨rfl, by omega, ?_⟩, ?_⟩
          · refine .lend (b := rdB (codeD code) r3) (d_pick code hc r3 2 (by omega) (by omega) (by omega)) (by simp [rdB]) (by simp) rfl (by simp) ?_
            rintro _ _ ⟨r4, rfl, i1, i2, u, rfl, hu⟩
            obtain ⟨u1, u2, _⟩ := hu
            have u2 := u2 (by omega)
            obtain rfl | rfl : u = 0 ∨ u = 1 := by omega
            · simp [rdB]
              refine ⟨by omega, rfl, by omega, ⟨by omega, fitsT NX _, by omega, by omega⟩, ⟨by omega, by omega⟩, drewD code ⟨[0, 0, -1] :: NX.tail, EN⟩ (hT1 _ (by simp)) r4 (by omega) (by omega) ?_⟩
              rw [List.take_of_length_le (l := List.map bD EN) (by simp; omega), List.take_of_length_le (l := (List.map intsD NX).tail) (by simp; omega), List.take_of_length_le (by simp; omega), ← List.map_tail]; rfl
            · simp [rdB]
              refine ⟨by omega, rfl, by omega, ⟨by omega, fitsT NX _, by omega, by omega⟩, ⟨by omega, by omega⟩, drewD code ⟨[0, 0, k] :: NX.tail, EN⟩ (hT1 _ (by simp)) r4 (by omega) (by omega) ?_⟩
              rw [List.take_of_length_le (l := List.map bD EN) (by simp; omega), List.take_of_length_le (l := (List.map intsD NX).tail) (by simp; omega), List.take_of_length_le (by simp; omega), ← List.map_tail]; rfl
          · refine .lend (b := rdB (codeD code) r3) (d_pick code hc r3 2 (by omega) (by omega) (by omega)) (by simp [rdB]) (by simp) rfl (by simp) ?_
            rintro _ _ ⟨r4, rfl, i1, i2, u, rfl, hu⟩
            obtain ⟨u1, u2, _⟩ := hu
            have u2 := u2 (by omega)
            obtain rfl | rfl : u = 0 ∨ u = 1 := by omega
            · simp [rdB]
              refine ⟨by omega, rfl, by omega, rfl, by omega, ⟨by omega, fitsT NX _, by omega, by omega⟩, ⟨by omega, by omega⟩, drewD code ⟨[0, 0, -1] :: NX.tail, EN⟩ (hT1 _ (by simp)) r4 (by omega) (by omega) ?_⟩
              rw [List.take_of_length_le (l := List.map bD EN) (by simp; omega), List.take_of_length_le (l := (List.map intsD NX).tail) (by simp; omega), List.take_of_length_le (by simp; omega), ← List.map_tail]; rfl
            · simp [rdB]
              refine ⟨by omega, rfl, by omega, rfl, by omega, ⟨by omega, fitsT NX _, by omega, by omega⟩, ⟨by omega, by omega⟩, drewD code ⟨[0, 0, k] :: NX.tail, EN⟩ (hT1 _ (by simp)) r4 (by omega) (by omega) ?_⟩
              rw [List.take_of_length_le (l := List.map bD EN) (by simp; omega), List.take_of_length_le (l := (List.map intsD NX).tail) (by simp; omega), List.take_of_length_le (by simp; omega), ← List.map_tail]; rfl
        · simp [rdB]
          exact drewD code ⟨[], []⟩ ⟨by simp, by simp, by simp⟩ r3 (by omega) (by omega) rfl
      | true =>
        have hx := hx rfl
        obtain ⟨x1, x2, x3⟩ := okDf_len hx
        have hxt := tiny_of_ok hx
        have hxr := hxt.row
        have hX0 : (Df.mk x.next x.ends.tail).tiny := ⟨by simp; omega, by simp; omega, hxr⟩
        have hX1 : ∀ r : List Int, r.length ≤ 3 → (Df.mk (r :: x.next.tail) x.ends).tiny := fun r hr => ⟨by simp; omega, by simp; omega, fun y hy => by
          simp at hy
          rcases hy with rfl | hy
          · exact hr
          · exact hxr y (List.mem_of_mem_tail hy)⟩
        simp [Df.d]
        refine .lend (b := rdB (codeD code) q3) (d_odd code hc q3 n (by omega) (by omega) hn) (by simp [rdB]) (by simp) rfl (by simp) ?_
        rintro _ _ ⟨r2, rfl, j5, j6, w2, rfl⟩
        simp [rdB]
        refine ⟨fun _ => ?_, fun _ => drewD code x hxt r2 (by omega) (by omega) rfl⟩
        refine .lend (b := rdB (codeD code) r2) (d_pick code hc r2 4 (by omega) (by omega) (by omega)) (by simp [rdB]) (by simp) rfl (by simp) ?_
        rintro _ _ ⟨r3, rfl, j7, j8, s, rfl, hs⟩
        obtain ⟨s1, s2, _⟩ := hs
        have s2 := s2 (by omega)
        obtain rfl | rfl | rfl | rfl : s = 0 ∨ s = 1 ∨ s = 2 ∨ s = 3 := by omega
        · simp [rdB]
          refine ⟨⟨by omega, fun h => one1 bD (fun _ => rfl) (by omega)⟩, drewD code ⟨x.next, x.ends.tail⟩ hX0 r3 (by omega) (by omega) ?_⟩
          rw [takeM, ← List.map_tail]; rfl
        · simp [rdB]
          refine ⟨rfl, ⟨by omega, fun h => one1 intsD (fun _ => rfl) (by omega)⟩, ⟨fitsB x.next, by omega, by omega⟩, by omega, drewD code ⟨[0, 0] :: x.next.tail, x.ends⟩ (hX1 _ (by simp)) r3 (by omega) (by omega) ?_⟩
          rw [takeM, List.take_of_length_le (by simp; omega), ← List.map_tail]; rfl
        · simp [rdB]
          refine .one (schA [.pur 0, .pur 1, .pur 2, .pur 4, .pur 10, .pur 11, .pur 12] (.alt 3 [4, 10, 11, 12] (sch [.eff 5 [0, 1, 2, 10, 11, 12], .pur 6, .pur 7, .eff 8 [10, 11, 12], .eff 9 [10, 11, 12], .eff 13 [], .pur 14, .eff 15 []]) 5 [0, 1, 2, 10, 11, 12] (sch [.eff 3 [4, 10, 11, 12], .pur 6, .pur 7, .eff 8 [10, 11, 12], .eff 9 [10, 11, 12], .eff 13 [], .pur 14, .eff 15 []]))) (by kernel_rfl) ?_
          simp
          refine ⟨⟨by omega, fun h => one1 intsD (fun _ => rfl) (by omega)⟩, ⟨rfl, ⟨by omega, fun h => one1 intsD (fun _ => rfl) (by omega)⟩, ?_⟩, ?_⟩
          · refine .lend (b := rdB (codeD code) r3) (d_pick code hc r3 2 (by omega) (by omega) (by omega)) (by simp [rdB]) (by simp) rfl (by simp) ?_
            rintro _ _ ⟨r4, rfl, i1, i2, u, rfl, hu⟩
            obtain ⟨u1, u2, _⟩ := hu
            have u2 := u2 (by omega)
            obtain rfl | rfl : u = 0 ∨ u = 1 := by omega
            · simp [rdB]
              refine ⟨⟨by omega, fun h => one1 intsD (fun _ => rfl) (by omega)⟩, rfl, ⟨by omega, fun h => one1 intsD (fun _ => rfl) (by omega)⟩, ⟨fitsB x.next, by omega, by omega⟩, by omega, drewD code ⟨[0, 0, -1] :: x.next.tail, x.ends⟩ (hX1 _ (by simp)) r4 (by omega) (by omega) ?_⟩
              rw [takeM, List.take_of_length_le (by simp; omega), ← List.map_tail]; rfl
            · simp [rdB]
              refine ⟨⟨by omega, fun h => one1 intsD (fun _ => rfl) (by omega)⟩, rfl, ⟨by omega, fun h => one1 intsD (fun _ => rfl) (by omega)⟩, ⟨fitsB x.next, by omega, by omega⟩, by omega, drewD code ⟨[0, 0, x.next.length] :: x.next.tail, x.ends⟩ (hX1 _ (by simp)) r4 (by omega) (by omega) ?_⟩
              rw [takeM, List.take_of_length_le (by simp; omega), ← List.map_tail]; rfl
          · refine .lend (b := rdB (codeD code) r3) (d_pick code hc r3 2 (by omega) (by omega) (by omega)) (by simp [rdB]) (by simp) rfl (by simp) ?_
            rintro _ _ ⟨r4, rfl, i1, i2, u, rfl, hu⟩
            obtain ⟨u1, u2, _⟩ := hu
            have u2 := u2 (by omega)
            obtain rfl | rfl : u = 0 ∨ u = 1 := by omega
            · simp [rdB]
              refine ⟨⟨by omega, fun h => one1 intsD (fun _ => rfl) (by omega)⟩, rfl, ⟨by omega, fun h => one1 intsD (fun _ => rfl) (by omega)⟩, rfl, ⟨by omega, fun h => one1 intsD (fun _ => rfl) (by omega)⟩, ⟨fitsB x.next, by omega, by omega⟩, by omega, drewD code ⟨[0, 0, -1] :: x.next.tail, x.ends⟩ (hX1 _ (by simp)) r4 (by omega) (by omega) ?_⟩
              rw [takeM, List.take_of_length_le (by simp; omega), ← List.map_tail]; rfl
            · simp [rdB]
              refine ⟨⟨by omega, fun h => one1 intsD (fun _ => rfl) (by omega)⟩, rfl, ⟨by omega, fun h => one1 intsD (fun _ => rfl) (by omega)⟩, rfl, ⟨by omega, fun h => one1 intsD (fun _ => rfl) (by omega)⟩, ⟨fitsB x.next, by omega, by omega⟩, by omega, drewD code ⟨[0, 0, x.next.length] :: x.next.tail, x.ends⟩ (hX1 _ (by simp)) r4 (by omega) (by omega) ?_⟩
              rw [takeM, List.take_of_length_le (by simp; omega), ← List.map_tail]; rfl
        · simp [rdB]
          exact drewD code ⟨[], []⟩ ⟨by simp, by simp, by simp⟩ r3 (by omega) (by omega) rfl
    · refine .lend (b := rdB (codeD code) q1) (d_odd code hc q1 n (by omega) (by omega) hn) (by simp [rdB]) (by simp) rfl (by simp) ?_
      rintro _ _ ⟨q2, rfl, h5, h6, w2, rfl⟩
      simp [rdB]
      refine ⟨fun _ => ?_, fun _ => ⟨⟨by omega, by omega⟩, drewD code ⟨NX, EN⟩ hT q2 (by omega) (by omega) (by rw [List.take_of_length_le (by simp; omega), List.take_of_length_le (by simp; omega)]; rfl)⟩⟩
      refine .lend (b := rdB (codeD code) q2) (d_pick code hc q2 4 (by omega) (by omega) (by omega)) (by simp [rdB]) (by simp) rfl (by simp) ?_
      rintro _ _ ⟨q3, rfl, h7, h8, s, rfl, hs⟩
      obtain ⟨s1, s2, _⟩ := hs
      have s2 := s2 (by omega)
      obtain rfl | rfl | rfl | rfl : s = 0 ∨ s = 1 ∨ s = 2 ∨ s = 3 := by omega
      · simp [rdB]
        refine ⟨by omega, ⟨by omega, by omega⟩, drewD code ⟨NX, EN.tail⟩ hT0 q3 (by omega) (by omega) ?_⟩
        rw [List.take_of_length_le (by simp; omega), List.take_of_length_le (by simp; omega), ← List.map_tail]; rfl
      · simp [rdB]
        refine ⟨rfl, by omega, ⟨by omega, fitsT NX _, by omega, by omega⟩, ⟨by omega, by omega⟩, drewD code ⟨[0, 0] :: NX.tail, EN⟩ (hT1 _ (by simp)) q3 (by omega) (by omega) ?_⟩
        rw [List.take_of_length_le (l := List.map bD EN) (by simp; omega), List.take_of_length_le (l := (List.map intsD NX).tail) (by simp; omega), List.take_of_length_le (by simp; omega), ← List.map_tail]; rfl
      · simp [rdB]
        refine .one (schA [.pur 0, .pur 1, .pur 2, .pur 4, .pur 10, .pur 11, .pur 12] (.alt 3 [4, 10, 11, 12] (sch [.eff 5 [0, 1, 2, 10, 11, 12], .pur 6, .pur 7, .eff 8 [10, 11, 12], .eff 9 [10, 11, 12], .eff 13 [], .pur 14, .eff 15 []]) 5 [0, 1, 2, 10, 11, 12] (sch [.eff 3 [4, 10, 11, 12], .pur 6, .pur 7, .eff 8 [10, 11, 12], .eff 9 [10, 11, 12], .eff 13 [], .pur 14, .eff 15 []]))) (by kernel_rfl) ?_
        simp
        refine ⟨by omega, ⟨rfl, by omega, ?_⟩, ?_⟩
        · refine .lend (b := rdB (codeD code) q3) (d_pick code hc q3 2 (by omega) (by omega) (by omega)) (by simp [rdB]) (by simp) rfl (by simp) ?_
          rintro _ _ ⟨q4, rfl, i1, i2, u, rfl, hu⟩
          obtain ⟨u1, u2, _⟩ := hu
          have u2 := u2 (by omega)
          obtain rfl | rfl : u = 0 ∨ u = 1 := by omega
          · simp [rdB]
            refine ⟨by omega, rfl, by omega, ⟨by omega, fitsT NX _, by omega, by omega⟩, ⟨by omega, by omega⟩, drewD code ⟨[0, 0, -1] :: NX.tail, EN⟩ (hT1 _ (by simp)) q4 (by omega) (by omega) ?_⟩
            rw [List.take_of_length_le (l := List.map bD EN) (by simp; omega), List.take_of_length_le (l := (List.map intsD NX).tail) (by simp; omega), List.take_of_length_le (by simp; omega), ← List.map_tail]; rfl
          · simp [rdB]
            refine ⟨by omega, rfl, by omega, ⟨by omega, fitsT NX _, by omega, by omega⟩, ⟨by omega, by omega⟩, drewD code ⟨[0, 0, k] :: NX.tail, EN⟩ (hT1 _ (by simp)) q4 (by omega) (by omega) ?_⟩
            rw [List.take_of_length_le (l := List.map bD EN) (by simp; omega), List.take_of_length_le (l := (List.map intsD NX).tail) (by simp; omega), List.take_of_length_le (by simp; omega), ← List.map_tail]; rfl
        · refine .lend (b := rdB (codeD code) q3) (d_pick code hc q3 2 (by omega) (by omega) (by omega)) (by simp [rdB]) (by simp) rfl (by simp) ?_
          rintro _ _ ⟨q4, rfl, i1, i2, u, rfl, hu⟩
          obtain ⟨u1, u2, _⟩ := hu
          have u2 := u2 (by omega)
          obtain rfl | rfl : u = 0 ∨ u = 1 := by omega
          · simp [rdB]
            refine ⟨by omega, rfl, by omega, rfl, by omega, ⟨by omega, fitsT NX _, by omega, by omega⟩, ⟨by omega, by omega⟩, drewD code ⟨[0, 0, -1] :: NX.tail, EN⟩ (hT1 _ (by simp)) q4 (by omega) (by omega) ?_⟩
            rw [List.take_of_length_le (l := List.map bD EN) (by simp; omega), List.take_of_length_le (l := (List.map intsD NX).tail) (by simp; omega), List.take_of_length_le (by simp; omega), ← List.map_tail]; rfl
          · simp [rdB]
            refine ⟨by omega, rfl, by omega, rfl, by omega, ⟨by omega, fitsT NX _, by omega, by omega⟩, ⟨by omega, by omega⟩, drewD code ⟨[0, 0, k] :: NX.tail, EN⟩ (hT1 _ (by simp)) q4 (by omega) (by omega) ?_⟩
            rw [List.take_of_length_le (l := List.map bD EN) (by simp; omega), List.take_of_length_le (l := (List.map intsD NX).tail) (by simp; omega), List.take_of_length_le (by simp; omega), ← List.map_tail]; rfl
      · simp [rdB]
        exact drewD code ⟨[], []⟩ ⟨by simp, by simp, by simp⟩ q3 (by omega) (by omega) rfl
end Go.Fw
